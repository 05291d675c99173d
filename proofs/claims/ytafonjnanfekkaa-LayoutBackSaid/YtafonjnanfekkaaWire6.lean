
/-
  THE WALKS of layer 1 (wire), the program's, sixth part: whole, Pack.
-/
import Derived.Test.YtafonjnanfekkaaC
import Derived.Test.YtafonjnanfekkaaWireP
import Derived.Test.YtafonjnanfekkaaWire5
import Derived.Laws.MakeOwn
namespace Go.Proofs.Ytafonjnanfekkaa.Wire
open Go.RowKit
set_option maxHeartbeats 8000000
set_option maxRecDepth 100000
set_option linter.unusedVariables false
set_option linter.unusedSimpArgs false

theorem whole_ok (A : Option Addr) (n cap : Nat) (ws : List Int) (w : World) (hn : n ≤ 1125899906842624) (hr : RowAt w A n (ints ws)) (hw : wok ws = true) :
    Calls Try.prog 53 #[.slice A n cap] w fun e w' => e = .returned (.int .i64 ws.sum) ∧ w = w' := by
  have hlen : ws.length = n := by have := hr.len; simpa [ints] using this
  have HR := Lib.hid hr
  have HW := Lib.hid hw
  clear hr hw
  go_enter Try.func53, Try.ntmps53
  go_wp2_with fail
  go_loop [3, 8] (fun x i => ∃ k : Nat, k ≤ n ∧ i = .int .i64 k ∧ x = .int .i64 (ws.take k).sum) (fun _ i => n - (intOf i).toNat)
  case atStart => exact ⟨0, by omega, rfl, rfl⟩
  case round =>
    obtain ⟨k, hk, rfl, rfl⟩ := hrel
    obtain ⟨s0, s1⟩ := wsum_mono HW.out k
    have s2 := (wsum_le _ HW.out).2
    by_cases hlt : k < n
    · obtain ⟨a, z, rfl, hz, hc⟩ := HR.out.int_at hlt
      obtain ⟨z1, z2⟩ := wok_at HW.out hz
      have hs := wsum_succ hz
      have HS := Lib.hid hs
      have HZ := Lib.hid hz
      clear hs hz
      have hd : decide (z < 1) = false := by simp; omega
      have hd2 : decide (8 < z) = false := by simp; omega
      go_wp2_with fail
      go_round
      case rel => exact ⟨k + 1, by omega, by go_num, by rw [HS.out]⟩
      case measure => simp [intOf]; omega
    · obtain rfl : k = n := by omega
      have hs : ws.take k = ws := List.take_of_length_le (by omega)
      rw [hs]
      clear hs
      go_wp2_with fail
      go_ret
      exact ⟨rfl, rfl⟩

theorem whole_no (A : Option Addr) (n cap : Nat) (ws : List Int) (w : World) (hn : n ≤ 1125899906842624) (hr : RowAt w A n (ints ws)) (hw : wok ws = false) :
    Calls Try.prog 53 #[.slice A n cap] w fun e w' => e = .panicked [{ v := wrong 22, recovered := false }] ∧ w = w' := by
  have hlen : ws.length = n := by have := hr.len; simpa [ints] using this
  obtain ⟨j, y, hj, hy, hpre⟩ := wok_false ws hw
  have hjn : j < n := by rw [← hlen]; exact (List.getElem?_eq_some_iff.1 hj).1
  have HR := Lib.hid hr
  have HJ := Lib.hid hj
  have HP := Lib.hid hpre
  have hbad : y < 1 ∨ 8 < y := by simp [wok1] at hy; omega
  have HBAD := Lib.hid hbad
  clear hr hw hj hpre hy hbad
  go_enter Try.func53, Try.ntmps53
  go_wp2_with fail
  go_loop [3, 8] (fun x i => ∃ k : Nat, k ≤ j ∧ i = .int .i64 k ∧ x = .int .i64 (ws.take k).sum) (fun _ i => n - (intOf i).toNat)
  case atStart => exact ⟨0, by omega, rfl, rfl⟩
  case round =>
    obtain ⟨k, hk, rfl, rfl⟩ := hrel
    have hlt : k < n := by omega
    have hsk : 0 ≤ (ws.take k).sum ∧ (ws.take k).sum ≤ 8 * k := by
      have h1 := wok_take HP.out k
      rw [List.take_take, Nat.min_eq_left hk] at h1
      have := wsum_le _ h1
      have h3 : (ws.take k).length ≤ k := List.length_take_le _ _
      omega
    obtain ⟨s0, s1⟩ := hsk
    by_cases hkj : k < j
    · obtain ⟨a, z, rfl, hz, hc⟩ := HR.out.int_at hlt
      have hz' : (ws.take j)[k]? = some z := by rw [List.getElem?_take, if_pos hkj]; exact hz
      obtain ⟨z1, z2⟩ := wok_at HP.out hz'
      have hs := wsum_succ hz
      have HS := Lib.hid hs
      have HZ := Lib.hid hz
      clear hs hz hz'
      have hd : decide (z < 1) = false := by simp; omega
      have hd2 : decide (8 < z) = false := by simp; omega
      go_wp2_with fail
      go_round
      case rel => exact ⟨k + 1, by omega, by go_num, by rw [HS.out]⟩
      case measure => simp [intOf]; omega
    · obtain rfl : k = j := by omega
      obtain ⟨a, z, rfl, hz, hc⟩ := HR.out.int_at hlt
      obtain rfl : z = y := by have := HJ.out; rw [hz] at this; injection this
      have HZ := Lib.hid hz
      clear hz
      rcases HBAD.out with hb | hb
      · go_wp2_with fail
        exact ⟨rfl, rfl, rfl⟩
      · have hb1 : ¬ z < 1 := by omega
        go_wp2_with fail
        exact ⟨rfl, rfl, rfl⟩

theorem enter_pack (caps : Array Value) (w : World) : (callFunc 52 caps).run Try.prog w = .ok (.enter 52 caps) w := by simp [go_sem]

/-- Bytes, and noughts behind them. -/
def roomOf (bs : List UInt8) (size : Nat) : Array Value := (bvl (bs ++ List.replicate (size - bs.length) 0)).toArray
theorem roomOf_size {bs : List UInt8} {size : Nat} (h : bs.length ≤ size) : (roomOf bs size).size = size := by
  simp [roomOf, bvl]; omega
theorem roomOf_nil (size : Nat) : madeCells (Value.int .u8 0).cells size = roomOf [] size := by
  apply Array.ext
  · rw [size_madeCells, roomOf_size (by simp)]
  · intro i h1 h2
    simp [madeCells, roomOf, bvl, bval, Value.cells]
    rw [Nat.mod_one]; rfl
theorem roomOf_put {bs new : List UInt8} {size : Nat} (h : bs.length + new.length ≤ size) : putN (roomOf bs size) bs.length new new.length = roomOf (bs ++ new) size := by
  apply Array.ext_getElem?
  intro j
  rw [putN_get _ _ _ _ _ (by rw [roomOf_size (by omega)]; omega)]
  simp only [roomOf, List.getElem?_toArray, bvl_get]
  by_cases h1 : bs.length ≤ j ∧ j < bs.length + new.length
  · rw [if_pos h1, List.getElem?_append_left (by simp; omega), List.getElem?_append_right (by omega), List.getD_eq_getElem?_getD, List.getElem?_eq_getElem (by omega : j - bs.length < new.length)]
    simp
  · rw [if_neg h1]
    by_cases h2 : j < bs.length
    · rw [List.getElem?_append_left h2, List.append_assoc, List.getElem?_append_left h2]
    · rw [List.getElem?_append_right (by omega), List.getElem?_append_right (by simp; omega)]
      simp only [List.length_append, List.getElem?_replicate]
      by_cases h3 : j < size
      · rw [if_pos (by omega), if_pos (by omega)]
      · rw [if_neg (by omega), if_neg (by omega)]

theorem whole_q (A : Option Addr) (n cap : Nat) (ws : List Int) (w : World) (hn : n ≤ 1125899906842624) (hr : RowAt w A n (ints ws)) (hw : wok ws = true) :
    Calls Try.prog 53 #[.slice A n cap] w fun e w' => e = .returned (.int .i64 ws.sum) ∧ w' = w :=
  (whole_ok A n cap ws w hn hr hw).mono fun _ _ h => ⟨h.1, h.2.symm⟩

theorem pack1_len (p0 p1 p2 p3 : Addr) (A0 A1 : Option Addr) (n0 c0 n1 c1 : Nat) (size : Int) (w : World) (hne : n0 ≠ n1)
    (h0 : w.cell? p0 = some (.slice A0 n0 c0)) (h1 : w.cell? p1 = some (.slice A1 n1 c1)) (h2 : w.cell? p2 = some (.int .i64 size)) :
    Calls Try.prog 52 #[.pointer (some p0), .pointer (some p1), .pointer (some p2), .pointer (some p3)] w fun e w' => e = .panicked [{ v := wrong 22, recovered := false }] ∧ ∃ n, w' = w.drewN n := by
  have hd : ((n0 : Int) != (n1 : Int)) = true := by simp; omega
  clear hne
  go_enter Try.func52, Try.ntmps52
  go_wp2_with fail
  go_quiet (fail)
  go_wp2_with fail
  exact ⟨rfl, rfl, _, rfl⟩

theorem pack1_bad (p0 p1 p2 p3 : Addr) (A0 A1 : Option Addr) (n c0 c1 : Nat) (size : Int) (ws : List Int) (w : World) (hn : n ≤ 1125899906842624) (hr : RowAt w A1 n (ints ws)) (hw : wok ws = false)
    (h0 : w.cell? p0 = some (.slice A0 n c0)) (h1 : w.cell? p1 = some (.slice A1 n c1)) (h2 : w.cell? p2 = some (.int .i64 size)) :
    Calls Try.prog 52 #[.pointer (some p0), .pointer (some p1), .pointer (some p2), .pointer (some p3)] w fun e w' => e = .panicked [{ v := wrong 22, recovered := false }] ∧ ∃ n, w' = w.drewN n := by
  have HC := Lib.hid (whole_no A1 n c1 ws w.drew hn hr hw)
  clear hr hw
  go_enter Try.func52, Try.ntmps52
  go_wp2_with fail
  refine wp_region_held_drew (S := fun w' => w'.cell? p0 = some (.slice A0 n c0) ∧ w'.cell? p1 = some (.slice A1 n c1) ∧ w'.cell? p2 = some (.int .i64 size)) (by kernel_rfl) ⟨h0, h1, h2⟩ (fun hHeld => ?_)
  refine wpAnyH_take (i := 0) (v := ?_) rfl (by kernel_rfl) (by kernel_rfl) (by kernel_rfl) (fun _ _ _ h => h) (Or.inl ⟨by rfl, ?_⟩) (by assumption) ?_
  rotate_left
  · intro w' hSw
    (try dsimp only at hSw)
    go_simp
    with_reducible rfl
  try simp only [Act.put, List.setIfInBounds_toArray, List.set_cons_zero, List.set_cons_succ]
  refine wpAnyH_take (i := 1) (v := ?_) rfl (by kernel_rfl) (by kernel_rfl) (by kernel_rfl) (fun _ _ _ h => h) (Or.inl ⟨by rfl, ?_⟩) (by assumption) ?_
  rotate_left
  · intro w' hSw
    (try dsimp only at hSw)
    go_simp
    with_reducible rfl
  try simp only [Act.put, List.setIfInBounds_toArray, List.set_cons_zero, List.set_cons_succ]
  refine wpAnyH_take (i := 2) (v := ?_) rfl (by kernel_rfl) (by kernel_rfl) (by kernel_rfl) (fun _ _ _ h => h) (Or.inl ⟨by rfl, ?_⟩) (by assumption) ?_
  rotate_left
  · intro w' hSw
    (try dsimp only at hSw)
    go_simp
    with_reducible rfl
  try simp only [Act.put, List.setIfInBounds_toArray, List.set_cons_zero, List.set_cons_succ]
  refine wpAnyH_take (i := 3) (v := ?_) rfl (by kernel_rfl) (by kernel_rfl) (by kernel_rfl) (fun _ _ _ h => h) (Or.inl ⟨by rfl, ?_⟩) (by assumption) ?_
  rotate_left
  · intro w' hSw
    (try dsimp only at hSw)
    go_simp
    with_reducible rfl
  try simp only [Act.put, List.setIfInBounds_toArray, List.set_cons_zero, List.set_cons_succ]
  refine wpAnyH_take (i := 4) (v := ?_) rfl (by kernel_rfl) (by kernel_rfl) (by kernel_rfl) (fun _ _ _ h => h) (Or.inl ⟨by rfl, ?_⟩) (by assumption) ?_
  rotate_left
  · intro w' hSw
    (try dsimp only at hSw)
    go_simp
    with_reducible rfl
  try simp only [Act.put, List.setIfInBounds_toArray, List.set_cons_zero, List.set_cons_succ]
  refine wpAnyH_take (i := 5) (v := ?_) rfl (by kernel_rfl) (by kernel_rfl) (by kernel_rfl) (fun _ _ _ h => h) (Or.inl ⟨by rfl, ?_⟩) (by assumption) ?_
  rotate_left
  · intro w' hSw
    (try dsimp only at hSw)
    go_simp
    with_reducible rfl
  try simp only [Act.put, List.setIfInBounds_toArray, List.set_cons_zero, List.set_cons_succ]
  refine wpAnyH_take (i := 6) (v := ?_) rfl (by kernel_rfl) (by kernel_rfl) (by kernel_rfl) (fun _ _ _ h => h) (Or.inl ⟨by rfl, ?_⟩) (by assumption) ?_
  rotate_left
  · intro w' hSw
    (try dsimp only at hSw)
    go_simp
    with_reducible rfl
  try simp only [Act.put, List.setIfInBounds_toArray, List.set_cons_zero, List.set_cons_succ]
  refine wpAnyH_take (i := 8) (v := ?_) rfl (by kernel_rfl) (by kernel_rfl) (by kernel_rfl) (fun _ _ _ h => h) (Or.inl ⟨by rfl, ?_⟩) (by assumption) ?_
  rotate_left
  · intro w' hSw
    (try dsimp only at hSw)
    go_simp
    with_reducible rfl
  try simp only [Act.put, List.setIfInBounds_toArray, List.set_cons_zero, List.set_cons_succ]
  refine wpAnyH_ready (rs := [7]) (by kernel_rfl) (by simp) ?_
  refine AllReadyH.cons rfl (fun K hK => ?_) AllReadyH.nil
  go_simp
  go_at_call 53
  refine HC.out.mono ?_
  rintro e w' ⟨rfl, rfl⟩
  exact ⟨rfl, rfl, 1, rfl⟩

theorem pack1_size (p0 p1 p2 p3 : Addr) (A0 A1 : Option Addr) (n c0 c1 : Nat) (size : Int) (ws : List Int) (w : World) (hn : n ≤ 1125899906842624) (hr : RowAt w A1 n (ints ws)) (hw : wok ws = true) (hs : size < ws.sum ∨ 4096 < size)
    (h0 : w.cell? p0 = some (.slice A0 n c0)) (h1 : w.cell? p1 = some (.slice A1 n c1)) (h2 : w.cell? p2 = some (.int .i64 size)) :
    Calls Try.prog 52 #[.pointer (some p0), .pointer (some p1), .pointer (some p2), .pointer (some p3)] w fun e w' => e = .panicked [{ v := wrong 22, recovered := false }] ∧ ∃ n, w' = w.drewN n := by
  have HC := Lib.hid (fun k => whole_q A1 n c1 ws (w.drewN k) hn (hr.drewN k) hw)
  clear hr hw
  by_cases hs1 : size < ws.sum
  · clear hs
    go_enter Try.func52, Try.ntmps52
    go_wp2_with fail
    go_quiet ((go_at_call 53; exact Calls.quiet_of_same (HC.out _)))
    go_wp2_with fail
    exact ⟨rfl, rfl, _, rfl⟩
  · have hs2 : 4096 < size := by omega
    have hd1 : decide (size < ws.sum) = false := by simpa using hs1
    clear hs
    go_enter Try.func52, Try.ntmps52
    go_wp2_with fail
    go_quiet ((go_at_call 53; exact Calls.quiet_of_same (HC.out _)))
    go_wp2_with fail
    exact ⟨rfl, rfl, _, rfl⟩
end Go.Proofs.Ytafonjnanfekkaa.Wire
