
/-
  THE WALKS of layer 1 (wire), the program's, third part: Get, Put.
  THE WALKS of layer 1 (wire), the program's, fourth part: Put.
  THE WALKS of layer 1 (wire), the program's, fifth part: Seal, Sealed.
  THE WALKS of layer 1 (wire), the program's, sixth part: whole, Pack.
  THE WALKS of layer 1 (wire), the program's, seventh part: Pack.
  THE WALKS of layer 1 (wire), the program's, eighth part: Pack, whole.
  THE WALKS of layer 1's reference: Same; the law's sameNumbers.
  THE WALKS of layer 1's reference: Crc.
-/
import Derived.Test.YtifamhmiibhohaaKR5N1
import Derived.Laws.MakeOwn
import Derived.Test.YtifamhmiibhohaaProg
namespace Go.Proofs.Ytifamhmiibhohaa.Wire
open Go.RowKit
set_option maxHeartbeats 8000000
set_option maxRecDepth 100000
set_option linter.unusedVariables false
set_option linter.unusedSimpArgs false

theorem enter_get (caps : Array Value) (w : World) : (callFunc 53 caps).run Try.prog w = .ok (.enter 53 caps) w := by simp [go_sem]
theorem enter_put (caps : Array Value) (w : World) : (callFunc 55 caps).run Try.prog w = .ok (.enter 55 caps) w := by simp [go_sem]

theorem sub_bytes {w : World} {a : Addr} {len : Nat} {bs : List UInt8} {at_ n : Int} (hb : BytesAt w (some a) len bs) (hf : fits len at_ n = true) :
    BytesAt w (some (a.add at_.toNat)) n.toNat (sub bs at_ n) := by
  obtain ⟨h1, h2, h3, h4, h5⟩ := fits_true hf
  have := hb.cut at_.toNat (at_.toNat + n.toNat) (by omega) (by omega)
  rwa [Nat.add_sub_cancel_left] at this

theorem get1_ok (p0 p1 p2 p3 : Addr) (a : Addr) (len cap : Nat) (at_ n x : Int) (bs : List UInt8) (w : World) (hl : len ≤ cap) (hcp : cap ≤ 9223372036854775807) (hf : fits len at_ n = true)
    (c0 : w.cell? p0 = some (.slice (some a) len cap)) (c1 : w.cell? p1 = some (.int .i64 at_)) (c2 : w.cell? p2 = some (.int .i64 n)) (c3 : w.cell? p3 = some (.int .u64 x)) (hz : w.frozen? p3 = false) (hb : BytesAt w (some a) len bs) :
    Calls Try.prog 53 #[.pointer (some p0), .pointer (some p1), .pointer (some p2), .pointer (some p3)] w fun e w' => e = .returned (.tuple #[]) ∧ w' = w.setCell p3 (.int .u64 (num (sub bs at_ n) : Int)) := by
  have hs := sub_bytes hb hf
  have h8 : n.toNat ≤ 8 := by have := fits_true hf; omega
  have HS := Lib.hid hs
  have HF := Lib.hid hf
  clear hb hs hf
  go_enter Try.func53, Try.ntmps53
  go_wp2_with (first | (go_at_call 50; refine (part_ok _ _ _ _ _ _ hl hcp HF.out).mono ?_; rintro e w' ⟨rfl, rfl⟩) | (go_at_call 54; refine (number_any _ _ _ _ _ h8 HS.out).mono ?_; rintro e w' ⟨rfl, rfl⟩))
  go_end0
  exact ⟨rfl, rfl⟩
theorem get1_no (p0 p1 p2 p3 : Addr) (A : Option Addr) (len cap : Nat) (at_ n : Int) (w : World) (hl : len ≤ 9223372036854775807) (hf : fits len at_ n = false)
    (c0 : w.cell? p0 = some (.slice A len cap)) (c1 : w.cell? p1 = some (.int .i64 at_)) (c2 : w.cell? p2 = some (.int .i64 n)) :
    Calls Try.prog 53 #[.pointer (some p0), .pointer (some p1), .pointer (some p2), .pointer (some p3)] w fun e w' => e = .panicked [{ v := wrong 22, recovered := false }] ∧ w = w' := by
  have HF := Lib.hid hf
  clear hf
  go_enter Try.func53, Try.ntmps53
  go_wp2_with (first | (go_at_call 50; refine (part_no _ _ _ _ _ _ hl HF.out).mono ?_; rintro e w' ⟨rfl, rfl⟩))
  exact ⟨rfl, rfl, rfl⟩

/-- The four variables that a closure of Get or Put holds. -/
theorem boxes (w : World) (c0 c1 c2 c3 : Value) (t0 t1 t2 t3 : TypeId) (W : World) (hW : (((w.alloc (.cells #[c0] t0)).alloc (.cells #[c1] t1)).alloc (.cells #[c2] t2)).alloc (.cells #[c3] t3) = W) :
    Blk W w.heap.size t0 #[c0] ∧ Blk W (w.heap.size + 1) t1 #[c1] ∧ Blk W (w.heap.size + 1 + 1) t2 #[c2] ∧ Blk W (w.heap.size + 1 + 1 + 1) t3 #[c3] ∧ Below w.heap.size w W ∧ W.heap.size = w.heap.size + 1 + 1 + 1 + 1 := by
  subst hW
  refine ⟨(((Blk.new w t0 #[c0]).alloc _).alloc _).alloc _, ?_, ?_, ?_, ?_, by simp⟩
  · have := ((Blk.new (w.alloc (.cells #[c0] t0)) t1 #[c1]).alloc (.cells #[c2] t2)).alloc (.cells #[c3] t3)
    simpa using this
  · have := (Blk.new ((w.alloc (.cells #[c0] t0)).alloc (.cells #[c1] t1)) t2 #[c2]).alloc (.cells #[c3] t3)
    simpa using this
  · have := Blk.new (((w.alloc (.cells #[c0] t0)).alloc (.cells #[c1] t1)).alloc (.cells #[c2] t2)) t3 #[c3]
    simpa using this
  · exact ((((Below.refl w.heap.size w).alloc (Nat.le_refl _) _).alloc (by simp) _).alloc (by simp; omega) _).alloc (by simp; omega) _
theorem blk_cell0 {w : World} {g : Nat} {t : TypeId} {c : Value} (h : Blk w g t #[c]) : w.cell? ⟨g, 0, none⟩ = some c := h.cell 0

theorem get_any (A : Option Addr) (len cap : Nat) (at_ n : Int) (bs : List UInt8) (w : World) (hl : len ≤ cap) (hcp : cap ≤ 9223372036854775807) (hb : BytesAt w A len bs) :
    Calls Try.prog 40 #[.slice A len cap, .int .i64 at_, .int .i64 n] w fun e w' => e = .returned (.tuple #[.int .u64 (getX bs at_ n : Int), .int .i64 (getE len at_ n)]) ∧ Below w.heap.size w w' := by
  have hmf : ∀ (fn : Fn) (first cap : Array Value) (w : World), (Instr.makeFunc fn first cap).run Try.prog w = .ok (.func fn first cap) w := fun _ _ _ _ => rfl
  have hlen := hb.len
  have HBY := Lib.hid hb
  clear hb
  obtain ⟨W, hW⟩ : ∃ W, (((w.alloc (.cells #[.slice A len cap] 31)).alloc (.cells #[.int .i64 at_] 3)).alloc (.cells #[.int .i64 n] 3)).alloc (.cells #[.int .u64 0] 79) = W := ⟨_, rfl⟩
  obtain ⟨b0, b1, b2, b3, hbel, hsz⟩ := boxes w _ _ _ _ _ _ _ _ W hW
  have e0 := b0.alloc (.cells #[.int .i64 0] 26)
  have e1 := b1.alloc (.cells #[.int .i64 0] 26)
  have e2 := b2.alloc (.cells #[.int .i64 0] 26)
  have e3 := b3.alloc (.cells #[.int .i64 0] 26)
  have HW := Lib.hid hW
  have HSZ := Lib.hid hsz
  have HBEL := Lib.hid hbel
  have hbelA := hbel.alloc hbel.size (.cells #[.int .i64 0] 26)
  have HBA := Lib.hid hbelA
  clear hW hsz hbel hbelA b0 b1 b2 b3
  cases hf : fits len at_ n
  · have hx : getX bs at_ n = 0 := by simp [getX, hlen, hf]
    have he : getE len at_ n = 22 := by simp [getE, hf]
    have HX := Lib.hid hx
    have HE := Lib.hid he
    have HF := Lib.hid hf
    clear hx he hf hlen
    have hcall := get1_no ⟨w.heap.size, 0, none⟩ ⟨w.heap.size + 1, 0, none⟩ ⟨w.heap.size + 1 + 1, 0, none⟩ ⟨w.heap.size + 1 + 1 + 1, 0, none⟩ A len cap at_ n (W.alloc (.cells #[.int .i64 0] 26)) (by omega) HF.out (blk_cell0 e0) (blk_cell0 e1) (blk_cell0 e2)
    have htry := try_gives 53 _ W (fun w' => W.alloc (.cells #[.int .i64 0] 26) = w') 22 (enter_get _) hcall (fun w' h => by rw [← h]; exact Blk.new W _ _)
    have HT := Lib.hid htry
    clear htry hcall
    go_enter Try.func40, Try.ntmps40
    go_wp2_with fail
    rw [HW.out]
    refine HT.out.mono ?_
    rintro e w1 ⟨rfl, _, rfl, hg⟩
    have f3 := e3.grown hg (by rw [HSZ.out]; simp)
    have c3 := (blk_cell0 f3)
    have z3 := f3.frozen 0
    have HB := Lib.hid (below_only HBA.out hg (fun g hg => by have := HSZ.out; injection hg with hg; omega))
    clear hg e0 e1 e2 e3
    have F3 := Lib.hid f3
    clear f3
    go_wp2_with fail
    have hc4 : (w1.setCell ⟨w.heap.size + 1 + 1 + 1, 0, none⟩ (.int .u64 0)).cell? ⟨w.heap.size + 1 + 1 + 1, 0, none⟩ = some (.int .u64 0) := (F3.out.set_ 0 (.int .u64 0)).cell 0
    refine bodyPost_ret (v := .tuple #[.int .u64 0, .int .i64 22]) (by simp [results, Try.results40, go_sem, hc4]) rfl ⟨by rw [HX.out, HE.out]; rfl, HB.out.setCell (by simp; omega) _⟩
  · have hx : getX bs at_ n = num (sub bs at_ n) := by simp [getX, hlen, hf]
    have he : getE len at_ n = 0 := by simp [getE, hf]
    have hpos : 0 < len := by have := fits_true hf; omega
    obtain ⟨a, c, rfl, _, _⟩ := HBY.out.at_ hpos
    have HX := Lib.hid hx
    have HE := Lib.hid he
    have HF := Lib.hid hf
    have hba := (HBY.out.below (HBEL.out)).alloc (.cells #[.int .i64 0] 26)
    clear hx he hf hlen
    have hcall := get1_ok ⟨w.heap.size, 0, none⟩ ⟨w.heap.size + 1, 0, none⟩ ⟨w.heap.size + 1 + 1, 0, none⟩ ⟨w.heap.size + 1 + 1 + 1, 0, none⟩ a len cap at_ n 0 bs (W.alloc (.cells #[.int .i64 0] 26)) hl hcp HF.out (blk_cell0 e0) (blk_cell0 e1) (blk_cell0 e2) (blk_cell0 e3) (e3.frozen 0) hba
    obtain ⟨y, hy⟩ : ∃ y, (num (sub bs at_ n) : Int) = y := ⟨_, rfl⟩
    rw [hy] at hcall
    have HY := Lib.hid hy
    clear hy hba
    have htry := try_ok 53 _ W (fun w' => w' = (W.alloc (.cells #[.int .i64 0] 26)).setCell ⟨w.heap.size + 1 + 1 + 1, 0, none⟩ (.int .u64 y)) (enter_get _) hcall (fun w' h => by rw [h]; exact (Blk.new W _ _).far (by simp; have := HSZ.out; omega) _)
    have HT := Lib.hid htry
    clear htry hcall
    go_enter Try.func40, Try.ntmps40
    go_wp2_with fail
    rw [HW.out]
    refine HT.out.mono ?_
    rintro e w1 ⟨rfl, _, rfl, hg⟩
    have f3 := (e3.set_ 0 (.int .u64 y)).grown hg (by rw [HSZ.out]; simp)
    have c3 : w1.cell? ⟨w.heap.size + 1 + 1 + 1, 0, none⟩ = some (.int .u64 y) := f3.cell 0
    have z3 := f3.frozen 0
    have HB := Lib.hid (below_only (HBA.out.setCell (p := ⟨w.heap.size + 1 + 1 + 1, 0, none⟩) (by simp; omega) (.int .u64 y)) hg (fun g hg => by have := HSZ.out; injection hg with hg; omega))
    clear hg e0 e1 e2 e3
    have F3 := Lib.hid f3
    clear f3
    go_wp2_with fail
    have hc4 : (w1.setCell ⟨w.heap.size + 1 + 1 + 1, 0, none⟩ (.int .u64 y)).cell? ⟨w.heap.size + 1 + 1 + 1, 0, none⟩ = some (.int .u64 y) := (F3.out.set_ 0 (.int .u64 y)).cell 0
    refine bodyPost_ret (v := .tuple #[.int .u64 y, .int .i64 0]) (by simp [results, Try.results40, go_sem, hc4]) rfl ⟨by rw [HX.out, HE.out, HY.out], HB.out.setCell (by simp; omega) _⟩
end Go.Proofs.Ytifamhmiibhohaa.Wire

namespace Go.Proofs.Ytifamhmiibhohaa.Wire
open Go.RowKit
set_option maxHeartbeats 8000000
set_option maxRecDepth 100000
set_option linter.unusedVariables false
set_option linter.unusedSimpArgs false

theorem only_of_drew {w w' : World} {row : Option Nat} (h : w.drew.grownBy w' row) : w.grownBy w' row := ⟨h.os, h.tape, h.output, h.size, h.block⟩

theorem put1_ok (p0 p1 p2 p3 : Addr) (a : Addr) (len cap x : Nat) (at_ n : Int) (cs : Array Value) (w : World) (hl : len ≤ cap) (hcp : cap ≤ 9223372036854775807) (hf : fits len at_ n = true) (hx : x < 256 ^ n.toNat)
    (c0 : w.cell? p0 = some (.slice (some a) len cap)) (c1 : w.cell? p1 = some (.int .i64 at_)) (c2 : w.cell? p2 = some (.int .i64 n)) (c3 : w.cell? p3 = some (.int .u64 (x : Int)))
    (n0 : p0.block ≠ a.block) (n1 : p1.block ≠ a.block) (n2 : p2.block ≠ a.block) (n3 : p3.block ≠ a.block)
    (hs : a.spot = none) (hcs : a.off + len ≤ cs.size) (hb : Blk w a.block 5 cs) :
    Calls Try.prog 55 #[.pointer (some p0), .pointer (some p1), .pointer (some p2), .pointer (some p3)] w fun e w' => e = .returned (.tuple #[]) ∧
      Blk w' a.block 5 (putN cs (a.off + at_.toNat) (le n.toNat x) n.toNat) ∧ w.grownBy w' (some a.block) := by
  obtain ⟨h1, h2, h3, h4, h5⟩ := fits_true hf
  have hlay := fun wx (hbx : Blk wx a.block 5 cs) => lay_yes (a.add at_.toNat) n.toNat (cap - at_.toNat) x cs wx (by omega) (by omega) hx (by rw [add_spot hs]) (by rw [add_spot hs]; simp only; omega) (by rw [block_of_add]; exact hbx)
  rw [block_of_add, show (a.add at_.toNat).off = a.off + at_.toNat by rw [add_spot hs]] at hlay
  have HL := Lib.hid hlay
  have HF := Lib.hid hf
  have HB := Lib.hid hb
  clear hlay hf hx hb hcs hs
  go_enter Try.func55, Try.ntmps55
  go_wp2_with fail
  go_region_held3 (fun w' => w'.cell? p0 = some (.slice (some a) len cap) ∧ w'.cell? p1 = some (.int .i64 at_) ∧ w'.cell? p2 = some (.int .i64 n) ∧ w'.cell? p3 = some (.int .u64 (x : Int)))
    (first | go_keep | (refine ⟨?_, ?_, ?_, ?_⟩ <;> (rw [hg.cell_far _ (by first | exact World.block_lt_of_cell? w _ c0 | exact World.block_lt_of_cell? w _ c1 | exact World.block_lt_of_cell? w _ c2 | exact World.block_lt_of_cell? w _ c3) (by simpa)]; assumption)))
    (first | (go_simp; go_at_call 50; refine (part_ok _ _ _ _ _ _ hl hcp HF.out).mono ?_; rintro e w' ⟨rfl, rfl⟩) | (go_simp; go_at_call 48; refine (HL.out _ HB.out.drew).mono ?_; rintro e w' ⟨rfl, hbk, hg⟩))
  go_end0
  exact ⟨rfl, hbk, only_of_drew hg⟩

theorem put1_no (p0 p1 p2 p3 : Addr) (A : Option Addr) (len cap : Nat) (x : Int) (at_ n : Int) (w : World) (hl : len ≤ 9223372036854775807) (hf : fits len at_ n = false)
    (c0 : w.cell? p0 = some (.slice A len cap)) (c1 : w.cell? p1 = some (.int .i64 at_)) (c2 : w.cell? p2 = some (.int .i64 n)) (c3 : w.cell? p3 = some (.int .u64 x)) :
    Calls Try.prog 55 #[.pointer (some p0), .pointer (some p1), .pointer (some p2), .pointer (some p3)] w fun e w' => e = .panicked [{ v := wrong 22, recovered := false }] ∧ w' = w.drew := by
  have HF := Lib.hid hf
  clear hf
  go_enter Try.func55, Try.ntmps55
  go_wp2_with fail
  refine wp_region_held_drew (S := fun w' => w'.cell? p0 = some (.slice A len cap) ∧ w'.cell? p1 = some (.int .i64 at_) ∧ w'.cell? p2 = some (.int .i64 n) ∧ w'.cell? p3 = some (.int .u64 x)) (by kernel_rfl) ⟨c0, c1, c2, c3⟩ (fun hHeld => ?_)
  refine wpAnyH_take (i := 0) (v := ?_) rfl (by kernel_rfl) (by kernel_rfl) (by kernel_rfl) (fun _ _ _ h => h) (Or.inl ⟨by rfl, ?_⟩) (by assumption) ?_
  rotate_left
  · intro w' hSw
    (try dsimp only at hSw)
    go_simp
    with_reducible rfl
  simp only [Act.put, List.setIfInBounds_toArray, List.set_cons_zero, List.set_cons_succ]
  refine wpAnyH_take (i := 1) (v := ?_) rfl (by kernel_rfl) (by kernel_rfl) (by kernel_rfl) (fun _ _ _ h => h) (Or.inl ⟨by rfl, ?_⟩) (by assumption) ?_
  rotate_left
  · intro w' hSw
    (try dsimp only at hSw)
    go_simp
    with_reducible rfl
  simp only [Act.put, List.setIfInBounds_toArray, List.set_cons_zero, List.set_cons_succ]
  refine wpAnyH_take (i := 2) (v := ?_) rfl (by kernel_rfl) (by kernel_rfl) (by kernel_rfl) (fun _ _ _ h => h) (Or.inl ⟨by rfl, ?_⟩) (by assumption) ?_
  rotate_left
  · intro w' hSw
    (try dsimp only at hSw)
    go_simp
    with_reducible rfl
  simp only [Act.put, List.setIfInBounds_toArray, List.set_cons_zero, List.set_cons_succ]
  refine wpAnyH_take (i := 4) (v := ?_) rfl (by kernel_rfl) (by kernel_rfl) (by kernel_rfl) (fun _ _ _ h => h) (Or.inl ⟨by rfl, ?_⟩) (by assumption) ?_
  rotate_left
  · intro w' hSw
    (try dsimp only at hSw)
    go_simp
    with_reducible rfl
  simp only [Act.put, List.setIfInBounds_toArray, List.set_cons_zero, List.set_cons_succ]
  refine wpAnyH_ready (rs := [3]) (by kernel_rfl) (by simp) ?_
  refine AllReadyH.cons rfl (fun K hK => ?_) AllReadyH.nil
  go_simp
  go_at_call 50
  refine (part_no _ _ _ _ _ _ hl HF.out).mono ?_
  rintro e w' ⟨rfl, rfl⟩
  exact ⟨rfl, rfl, rfl⟩

theorem put1_big (p0 p1 p2 p3 : Addr) (a : Addr) (len cap x : Nat) (at_ n : Int) (w : World) (hl : len ≤ cap) (hcp : cap ≤ 9223372036854775807) (hf : fits len at_ n = true) (hx : ¬ x < 256 ^ n.toNat) (hx64 : x < 18446744073709551616)
    (c0 : w.cell? p0 = some (.slice (some a) len cap)) (c1 : w.cell? p1 = some (.int .i64 at_)) (c2 : w.cell? p2 = some (.int .i64 n)) (c3 : w.cell? p3 = some (.int .u64 (x : Int))) :
    Calls Try.prog 55 #[.pointer (some p0), .pointer (some p1), .pointer (some p2), .pointer (some p3)] w fun e w' => e = .panicked [{ v := wrong 34, recovered := false }] ∧ w' = w.drew := by
  obtain ⟨h1, h2, h3, h4, h5⟩ := fits_true hf
  have h7 : n.toNat < 8 := by
    rcases Nat.lt_or_ge n.toNat 8 with h | h
    · exact h
    · have h8 : n.toNat = 8 := by omega
      rw [h8] at hx
      exact absurd hx64 (by simpa using hx)
  have HX := Lib.hid hx
  have HF := Lib.hid hf
  clear hf hx hx64
  go_enter Try.func55, Try.ntmps55
  go_wp2_with fail
  refine wp_region_held_drew (S := fun w' => w'.cell? p0 = some (.slice (some a) len cap) ∧ w'.cell? p1 = some (.int .i64 at_) ∧ w'.cell? p2 = some (.int .i64 n) ∧ w'.cell? p3 = some (.int .u64 (x : Int))) (by kernel_rfl) ⟨c0, c1, c2, c3⟩ (fun hHeld => ?_)
  refine wpAnyH_take (i := 0) (v := ?_) rfl (by kernel_rfl) (by kernel_rfl) (by kernel_rfl) (fun _ _ _ h => h) (Or.inl ⟨by rfl, ?_⟩) (by assumption) ?_
  rotate_left
  · intro w' hSw
    (try dsimp only at hSw)
    go_simp
    with_reducible rfl
  simp only [Act.put, List.setIfInBounds_toArray, List.set_cons_zero, List.set_cons_succ]
  refine wpAnyH_take (i := 1) (v := ?_) rfl (by kernel_rfl) (by kernel_rfl) (by kernel_rfl) (fun _ _ _ h => h) (Or.inl ⟨by rfl, ?_⟩) (by assumption) ?_
  rotate_left
  · intro w' hSw
    (try dsimp only at hSw)
    go_simp
    with_reducible rfl
  simp only [Act.put, List.setIfInBounds_toArray, List.set_cons_zero, List.set_cons_succ]
  refine wpAnyH_take (i := 2) (v := ?_) rfl (by kernel_rfl) (by kernel_rfl) (by kernel_rfl) (fun _ _ _ h => h) (Or.inl ⟨by rfl, ?_⟩) (by assumption) ?_
  rotate_left
  · intro w' hSw
    (try dsimp only at hSw)
    go_simp
    with_reducible rfl
  simp only [Act.put, List.setIfInBounds_toArray, List.set_cons_zero, List.set_cons_succ]
  refine wpAnyH_take (i := 4) (v := ?_) rfl (by kernel_rfl) (by kernel_rfl) (by kernel_rfl) (fun _ _ _ h => h) (Or.inl ⟨by rfl, ?_⟩) (by assumption) ?_
  rotate_left
  · intro w' hSw
    (try dsimp only at hSw)
    go_simp
    with_reducible rfl
  simp only [Act.put, List.setIfInBounds_toArray, List.set_cons_zero, List.set_cons_succ]
  refine wpAnyH_ready (rs := [3]) (by kernel_rfl) (by simp) ?_
  refine AllReadyH.cons rfl (fun K hK => ?_) AllReadyH.nil
  go_simp
  go_at_call 50
  refine (part_ok _ _ _ _ _ _ hl hcp HF.out).mono ?_
  rintro e w' ⟨rfl, rfl⟩
  refine hK.out _ _ hHeld (fun hHeld => ?_)
  clear hK K
  try simp only [Act.put, List.setIfInBounds_toArray, List.set_cons_zero, List.set_cons_succ]
  refine wpAnyH_ready (rs := [5]) (by kernel_rfl) (by simp) ?_
  refine AllReadyH.cons rfl (fun K hK => ?_) AllReadyH.nil
  go_simp
  go_at_call 48
  refine (lay_no _ _ _ _ _ h7 HX.out).mono ?_
  rintro e w' ⟨rfl, rfl⟩
  exact ⟨rfl, rfl, rfl⟩

/-- What Put's boxes leave: the walk of Put over any outcome of what is done. -/
theorem put_of (A : Option Addr) (len cap : Nat) (at_ n x c : Int) (w : World) (R : World → World → Prop)
    (h : ∀ W, (((w.alloc (.cells #[.slice A len cap] 31)).alloc (.cells #[.int .i64 at_] 3)).alloc (.cells #[.int .i64 n] 3)).alloc (.cells #[.int .u64 x] 79) = W →
      Calls Try.prog 45 #[.func (.func 55) #[] #[.pointer (some ⟨w.heap.size, 0, none⟩), .pointer (some ⟨w.heap.size + 1, 0, none⟩), .pointer (some ⟨w.heap.size + 1 + 1, 0, none⟩), .pointer (some ⟨w.heap.size + 1 + 1 + 1, 0, none⟩)]] W
        fun e w' => e = .returned (.int .i64 c) ∧ R W w') :
    Calls Try.prog 41 #[.slice A len cap, .int .i64 at_, .int .i64 n, .int .u64 x] w fun e w' => e = .returned (.int .i64 c) ∧
      ∃ W, (((w.alloc (.cells #[.slice A len cap] 31)).alloc (.cells #[.int .i64 at_] 3)).alloc (.cells #[.int .i64 n] 3)).alloc (.cells #[.int .u64 x] 79) = W ∧ R W w' := by
  have hmf : ∀ (fn : Fn) (first cap : Array Value) (w : World), (Instr.makeFunc fn first cap).run Try.prog w = .ok (.func fn first cap) w := fun _ _ _ _ => rfl
  have H := Lib.hid (h _ rfl)
  clear h
  go_enter Try.func41, Try.ntmps41
  go_wp2_with fail
  refine H.out.mono ?_
  rintro e w1 ⟨rfl, hr⟩
  have HR := Lib.hid hr
  clear hr
  go_wp2_with fail
  go_ret
  exact ⟨rfl, _, rfl, HR.out⟩

theorem put_no (A : Option Addr) (len cap : Nat) (at_ n x : Int) (w : World) (hl : len ≤ 9223372036854775807) (hf : fits len at_ n = false) :
    Calls Try.prog 41 #[.slice A len cap, .int .i64 at_, .int .i64 n, .int .u64 x] w fun e w' => e = .returned (.int .i64 22) ∧ Below w.heap.size w w' := by
  refine (put_of A len cap at_ n x 22 w (fun W w' => (W.alloc (.cells #[.int .i64 0] 26)).drew.grownBy w' (some W.heap.size)) (fun W hW => ?_)).mono ?_
  · obtain ⟨b0, b1, b2, b3, hbel, hsz⟩ := boxes w _ _ _ _ _ _ _ _ W hW
    refine (try_gives 55 _ W (fun w' => w' = (W.alloc (.cells #[.int .i64 0] 26)).drew) 22 (enter_put _) (put1_no _ _ _ _ A len cap x at_ n _ hl hf (blk_cell0 (b0.alloc _)) (blk_cell0 (b1.alloc _)) (blk_cell0 (b2.alloc _)) (blk_cell0 (b3.alloc _))) (fun w' h => by rw [h]; exact Blk.new W _ _)).mono ?_
    rintro e w' ⟨he, w1, rfl, hg⟩
    exact ⟨he, hg⟩
  · rintro e w' ⟨he, W, hW, hg⟩
    obtain ⟨b0, b1, b2, b3, hbel, hsz⟩ := boxes w _ _ _ _ _ _ _ _ W hW
    exact ⟨he, below_only ((hbel.alloc hbel.size _).drew) hg (fun g hg => by injection hg with hg; omega)⟩

theorem put_big (a : Addr) (len cap x : Nat) (at_ n : Int) (w : World) (hl : len ≤ cap) (hcp : cap ≤ 9223372036854775807) (hf : fits len at_ n = true) (hx : ¬ x < 256 ^ n.toNat) (hx64 : x < 18446744073709551616) :
    Calls Try.prog 41 #[.slice (some a) len cap, .int .i64 at_, .int .i64 n, .int .u64 (x : Int)] w fun e w' => e = .returned (.int .i64 34) ∧ Below w.heap.size w w' := by
  refine (put_of (some a) len cap at_ n (x : Int) 34 w (fun W w' => (W.alloc (.cells #[.int .i64 0] 26)).drew.grownBy w' (some W.heap.size)) (fun W hW => ?_)).mono ?_
  · obtain ⟨b0, b1, b2, b3, hbel, hsz⟩ := boxes w _ _ _ _ _ _ _ _ W hW
    refine (try_gives 55 _ W (fun w' => w' = (W.alloc (.cells #[.int .i64 0] 26)).drew) 34 (enter_put _) (put1_big _ _ _ _ a len cap x at_ n _ hl hcp hf hx hx64 (blk_cell0 (b0.alloc _)) (blk_cell0 (b1.alloc _)) (blk_cell0 (b2.alloc _)) (blk_cell0 (b3.alloc _))) (fun w' h => by rw [h]; exact Blk.new W _ _)).mono ?_
    rintro e w' ⟨he, w1, rfl, hg⟩
    exact ⟨he, hg⟩
  · rintro e w' ⟨he, W, hW, hg⟩
    obtain ⟨b0, b1, b2, b3, hbel, hsz⟩ := boxes w _ _ _ _ _ _ _ _ W hW
    exact ⟨he, below_only ((hbel.alloc hbel.size _).drew) hg (fun g hg => by injection hg with hg; omega)⟩

theorem put_ok (a : Addr) (len cap x : Nat) (at_ n : Int) (cs : Array Value) (w : World) (hl : len ≤ cap) (hcp : cap ≤ 9223372036854775807) (hf : fits len at_ n = true) (hx : x < 256 ^ n.toNat)
    (hs : a.spot = none) (hcs : a.off + len ≤ cs.size) (hb : Blk w a.block 5 cs) :
    Calls Try.prog 41 #[.slice (some a) len cap, .int .i64 at_, .int .i64 n, .int .u64 (x : Int)] w fun e w' => e = .returned (.int .i64 0) ∧
      Blk w' a.block 5 (putN cs (a.off + at_.toNat) (le n.toNat x) n.toNat) ∧ w.grownBy w' (some a.block) := by
  have hlt := hb.lt
  refine (put_of (some a) len cap at_ n (x : Int) 0 w (fun W w' => ∃ w1, (Blk w1 a.block 5 (putN cs (a.off + at_.toNat) (le n.toNat x) n.toNat) ∧ (W.alloc (.cells #[.int .i64 0] 26)).grownBy w1 (some a.block)) ∧ w1.grownBy w' (some W.heap.size)) (fun W hW => ?_)).mono ?_
  · obtain ⟨b0, b1, b2, b3, hbel, hsz⟩ := boxes w _ _ _ _ _ _ _ _ W hW
    have hbW := (hb.belowAll hbel).alloc (.cells #[.int .i64 0] 26)
    exact try_ok 55 _ W (fun w1 => Blk w1 a.block 5 (putN cs (a.off + at_.toNat) (le n.toNat x) n.toNat) ∧ (W.alloc (.cells #[.int .i64 0] 26)).grownBy w1 (some a.block)) (enter_put _)
      (put1_ok _ _ _ _ a len cap x at_ n cs _ hl hcp hf hx (blk_cell0 (b0.alloc _)) (blk_cell0 (b1.alloc _)) (blk_cell0 (b2.alloc _)) (blk_cell0 (b3.alloc _)) (by simp; omega) (by simp; omega) (by simp; omega) (by simp; omega) hs hcs hbW)
      (fun w' h => (Blk.new W _ _).grown h.2 (by simp; omega))
  · rintro e w' ⟨he, W, hW, w1, ⟨hbk, hg1⟩, hg2⟩
    obtain ⟨b0, b1, b2, b3, hbel, hsz⟩ := boxes w _ _ _ _ _ _ _ _ W hW
    have hba := hbel.alloc hbel.size (.cells #[.int .i64 0] 26)
    refine ⟨he, hbk.grown hg2 (by simp; omega), ?_⟩
    have h1 := only_trans (only_of_below hba (some a.block)) hg1
    exact ⟨hg2.os.trans h1.os, hg2.tape.trans h1.tape, hg2.output.trans h1.output, Nat.le_trans h1.size hg2.size, fun i hi hne => (hg2.block i (Nat.lt_of_lt_of_le hi h1.size) (by simp; omega)).trans (h1.block i hi hne)⟩
end Go.Proofs.Ytifamhmiibhohaa.Wire

namespace Go.Proofs.Ytifamhmiibhohaa.Wire
open Go.RowKit
set_option maxHeartbeats 8000000
set_option maxRecDepth 100000
set_option linter.unusedVariables false
set_option linter.unusedSimpArgs false

theorem enter_seal (caps : Array Value) (w : World) : (callFunc 49 caps).run Try.prog w = .ok (.enter 49 caps) w := by simp [go_sem]
theorem boxes3 (w : World) (c0 c1 c2 : Value) (t0 t1 t2 : TypeId) (W : World) (hW : ((w.alloc (.cells #[c0] t0)).alloc (.cells #[c1] t1)).alloc (.cells #[c2] t2) = W) :
    Blk W w.heap.size t0 #[c0] ∧ Blk W (w.heap.size + 1) t1 #[c1] ∧ Blk W (w.heap.size + 1 + 1) t2 #[c2] ∧ Below w.heap.size w W ∧ W.heap.size = w.heap.size + 1 + 1 + 1 := by
  subst hW
  refine ⟨((Blk.new w t0 #[c0]).alloc _).alloc _, ?_, ?_, ?_, by simp⟩
  · have := (Blk.new (w.alloc (.cells #[c0] t0)) t1 #[c1]).alloc (.cells #[c2] t2)
    simpa using this
  · have := Blk.new ((w.alloc (.cells #[c0] t0)).alloc (.cells #[c1] t1)) t2 #[c2]
    simpa using this
  · exact (((Below.refl w.heap.size w).alloc (Nat.le_refl _) _).alloc (by simp) _).alloc (by simp; omega) _

theorem fits4 {len : Nat} (h : 4 ≤ len) : fits len ((len : Int) - 4) 4 = true := fits_mk (by omega) (by omega) (by omega) (by omega)
theorem fits4_no {len : Nat} (h : ¬ 4 ≤ len) : fits len ((len : Int) - 4) 4 = false := by
  cases e : fits len ((len : Int) - 4) 4
  · rfl
  · have := fits_true e; omega

theorem seal1_ok (p0 p1 p2 : Addr) (a : Addr) (len cap : Nat) (seed : BitVec 32) (bs : List UInt8) (cs : Array Value) (w : World) (hl : len ≤ cap) (hcp : cap ≤ 9223372036854775807) (h4 : 4 ≤ len)
    (c0 : w.cell? p0 = some (.slice (some a) len cap)) (c1 : w.cell? p1 = some (.int .i64 ((len : Int) - 4))) (c2 : w.cell? p2 = some (.int .u32 (seed.toNat : Int)))
    (n0 : p0.block ≠ a.block) (n1 : p1.block ≠ a.block) (n2 : p2.block ≠ a.block)
    (hs : a.spot = none) (hcs : a.off + len ≤ cs.size) (hb : Blk w a.block 5 cs) (hby : BytesAt w (some a) len bs) :
    Calls Try.prog 49 #[.pointer (some p0), .pointer (some p1), .pointer (some p2)] w fun e w' => e = .returned (.tuple #[]) ∧
      Blk w' a.block 5 (putN cs (a.off + (len - 4)) (le 4 (crc seed (bs.take (len - 4))).toNat) 4) ∧ w.grownBy w' (some a.block) := by
  have hto : ((len : Int) - 4).toNat = len - 4 := by omega
  have hpart := part_ok a len cap ((len : Int) - 4) 4 w hl hcp (fits4 h4)
  rw [hto] at hpart
  have hx : (crc seed (bs.take (len - 4))).toNat < 256 ^ 4 := (crc seed (bs.take (len - 4))).isLt
  have hlay := fun wx (hbx : Blk wx a.block 5 cs) => lay_yes (a.add (len - 4)) 4 (cap - (len - 4)) (crc seed (bs.take (len - 4))).toNat cs wx (by omega) (by omega) hx (by rw [add_spot hs]) (by rw [add_spot hs]; simp only; omega) (by rw [block_of_add]; exact hbx)
  rw [block_of_add, show (a.add (len - 4)).off = a.off + (len - 4) by rw [add_spot hs]] at hlay
  have hcrc := fun wx (hbx : BytesAt wx (some a) len bs) => crc_any seed (some a) (len - 4) cap (bs.take (len - 4)) wx (by omega) (hbx.take_ (len - 4) (by omega))
  have hdr : BytesAt w.drew (some a) len bs := hby
  have HC := Lib.hid (hcrc _ hdr)
  have HL := Lib.hid (hlay _ hb.drew)
  have HP := Lib.hid hpart
  have h32 : IntKind.u64.wrap ((crc seed (bs.take (len - 4))).toNat : Int) = ((crc seed (bs.take (len - 4))).toNat : Int) := by
    have := (crc seed (bs.take (len - 4))).isLt
    rw [IntKind.wrap_u64]; omega
  have i0 : (0 : Int) ≤ (len : Int) - 4 := by omega
  have i1 : (len : Int) - 4 ≤ (cap : Int) := by omega
  have i2 : (4 : Int) ≤ (len : Int) := by omega
  have i3 : (len : Int) ≤ (cap : Int) + 4 := by omega
  clear hlay hpart hb hcs hs hx hcrc hby hdr
  go_enter Try.func49, Try.ntmps49
  go_wp2_with (go_at_call 50; refine HP.out.mono ?_; rintro e w' ⟨rfl, rfl⟩)
  go_region_held3 (fun w' => w'.cell? p0 = some (.slice (some a) len cap) ∧ w'.cell? p1 = some (.int .i64 ((len : Int) - 4)) ∧ w'.cell? p2 = some (.int .u32 (seed.toNat : Int)))
    (first | go_keep | (refine ⟨?_, ?_, ?_⟩ <;> (rw [hg.cell_far _ (by first | exact World.block_lt_of_cell? w _ c0 | exact World.block_lt_of_cell? w _ c1 | exact World.block_lt_of_cell? w _ c2) (by simpa)]; assumption)))
    (first | (go_simp; go_at_call 18; refine HC.out.mono ?_; rintro e w' ⟨rfl, rfl⟩) | (go_simp; go_at_call 48; refine HL.out.mono ?_; rintro e w' ⟨rfl, hbk, hg⟩))
  go_end0
  exact ⟨rfl, hbk, only_of_drew hg⟩

theorem seal1_no (p0 p1 p2 : Addr) (A : Option Addr) (len cap : Nat) (w : World) (hl : len ≤ 9223372036854775807) (h4 : ¬ 4 ≤ len)
    (c0 : w.cell? p0 = some (.slice A len cap)) (c1 : w.cell? p1 = some (.int .i64 ((len : Int) - 4))) :
    Calls Try.prog 49 #[.pointer (some p0), .pointer (some p1), .pointer (some p2)] w fun e w' => e = .panicked [{ v := wrong 22, recovered := false }] ∧ w = w' := by
  have HP := Lib.hid (part_no A len cap ((len : Int) - 4) 4 w hl (fits4_no h4))
  go_enter Try.func49, Try.ntmps49
  go_wp2_with (go_at_call 50; refine HP.out.mono ?_; rintro e w' ⟨rfl, rfl⟩)
  exact ⟨rfl, rfl, rfl⟩

theorem seal_of (A : Option Addr) (len cap : Nat) (seed : BitVec 32) (c : Int) (w : World) (R : World → World → Prop) (hl : len ≤ 9223372036854775807)
    (h : ∀ W, ((w.alloc (.cells #[.slice A len cap] 31)).alloc (.cells #[.int .u32 (seed.toNat : Int)] 34)).alloc (.cells #[.int .i64 ((len : Int) - 4)] 3) = W →
      Calls Try.prog 45 #[.func (.func 49) #[] #[.pointer (some ⟨w.heap.size, 0, none⟩), .pointer (some ⟨w.heap.size + 1 + 1, 0, none⟩), .pointer (some ⟨w.heap.size + 1, 0, none⟩)]] W
        fun e w' => e = .returned (.int .i64 c) ∧ R W w') :
    Calls Try.prog 31 #[.slice A len cap, .int .u32 (seed.toNat : Int)] w fun e w' => e = .returned (.int .i64 c) ∧
      ∃ W, ((w.alloc (.cells #[.slice A len cap] 31)).alloc (.cells #[.int .u32 (seed.toNat : Int)] 34)).alloc (.cells #[.int .i64 ((len : Int) - 4)] 3) = W ∧ R W w' := by
  have hmf : ∀ (fn : Fn) (first cap : Array Value) (w : World), (Instr.makeFunc fn first cap).run Try.prog w = .ok (.func fn first cap) w := fun _ _ _ _ => rfl
  have H := Lib.hid (h _ rfl)
  clear h
  go_enter Try.func31, Try.ntmps31
  go_wp2_with fail
  refine H.out.mono ?_
  rintro e w1 ⟨rfl, hr⟩
  have HR := Lib.hid hr
  clear hr
  go_wp2_with fail
  go_ret
  exact ⟨rfl, _, rfl, HR.out⟩

theorem seal_no (A : Option Addr) (len cap : Nat) (seed : BitVec 32) (w : World) (hl : len ≤ 9223372036854775807) (h4 : ¬ 4 ≤ len) :
    Calls Try.prog 31 #[.slice A len cap, .int .u32 (seed.toNat : Int)] w fun e w' => e = .returned (.int .i64 22) ∧ Below w.heap.size w w' := by
  refine (seal_of A len cap seed 22 w (fun W w' => (W.alloc (.cells #[.int .i64 0] 26)).grownBy w' (some W.heap.size)) hl (fun W hW => ?_)).mono ?_
  · obtain ⟨b0, b1, b2, hbel, hsz⟩ := boxes3 w _ _ _ _ _ _ W hW
    refine (try_gives 49 _ W (fun w' => W.alloc (.cells #[.int .i64 0] 26) = w') 22 (enter_seal _) (seal1_no _ _ _ A len cap _ hl h4 (blk_cell0 (b0.alloc _)) (blk_cell0 (b2.alloc _))) (fun w' h => by rw [← h]; exact Blk.new W _ _)).mono ?_
    rintro e w' ⟨he, w1, rfl, hg⟩
    exact ⟨he, hg⟩
  · rintro e w' ⟨he, W, hW, hg⟩
    obtain ⟨b0, b1, b2, hbel, hsz⟩ := boxes3 w _ _ _ _ _ _ W hW
    exact ⟨he, below_only (hbel.alloc hbel.size _) hg (fun g hg => by injection hg with hg; omega)⟩

theorem seal_ok (a : Addr) (len cap : Nat) (seed : BitVec 32) (bs : List UInt8) (cs : Array Value) (w : World) (hl : len ≤ cap) (hcp : cap ≤ 9223372036854775807) (h4 : 4 ≤ len)
    (hs : a.spot = none) (hcs : a.off + len ≤ cs.size) (hb : Blk w a.block 5 cs) (hby : BytesAt w (some a) len bs) :
    Calls Try.prog 31 #[.slice (some a) len cap, .int .u32 (seed.toNat : Int)] w fun e w' => e = .returned (.int .i64 0) ∧
      Blk w' a.block 5 (putN cs (a.off + (len - 4)) (le 4 (crc seed (bs.take (len - 4))).toNat) 4) ∧ w.grownBy w' (some a.block) := by
  have hlt := hb.lt
  refine (seal_of (some a) len cap seed 0 w (fun W w' => ∃ w1, (Blk w1 a.block 5 (putN cs (a.off + (len - 4)) (le 4 (crc seed (bs.take (len - 4))).toNat) 4) ∧ (W.alloc (.cells #[.int .i64 0] 26)).grownBy w1 (some a.block)) ∧ w1.grownBy w' (some W.heap.size)) (by omega) (fun W hW => ?_)).mono ?_
  · obtain ⟨b0, b1, b2, hbel, hsz⟩ := boxes3 w _ _ _ _ _ _ W hW
    have hbW := (hb.belowAll hbel).alloc (.cells #[.int .i64 0] 26)
    have hyW := (hby.below hbel).alloc (.cells #[.int .i64 0] 26)
    exact try_ok 49 _ W (fun w1 => Blk w1 a.block 5 (putN cs (a.off + (len - 4)) (le 4 (crc seed (bs.take (len - 4))).toNat) 4) ∧ (W.alloc (.cells #[.int .i64 0] 26)).grownBy w1 (some a.block)) (enter_seal _)
      (seal1_ok _ _ _ a len cap seed bs cs _ hl hcp h4 (blk_cell0 (b0.alloc _)) (blk_cell0 (b2.alloc _)) (blk_cell0 (b1.alloc _)) (by simp; omega) (by simp; omega) (by simp; omega) hs hcs hbW hyW)
      (fun w' h => (Blk.new W _ _).grown h.2 (by simp; omega))
  · rintro e w' ⟨he, W, hW, w1, ⟨hbk, hg1⟩, hg2⟩
    obtain ⟨b0, b1, b2, hbel, hsz⟩ := boxes3 w _ _ _ _ _ _ W hW
    have hba := hbel.alloc hbel.size (.cells #[.int .i64 0] 26)
    refine ⟨he, hbk.grown hg2 (by simp; omega), ?_⟩
    have h1 := only_trans (only_of_below hba (some a.block)) hg1
    exact ⟨hg2.os.trans h1.os, hg2.tape.trans h1.tape, hg2.output.trans h1.output, Nat.le_trans h1.size hg2.size, fun i hi hne => (hg2.block i (Nat.lt_of_lt_of_le hi h1.size) (by simp; omega)).trans (h1.block i hi hne)⟩

end Go.Proofs.Ytifamhmiibhohaa.Wire

namespace Go.Proofs.Ytifamhmiibhohaa.Wire
open Go.RowKit
set_option maxHeartbeats 8000000
set_option maxRecDepth 100000
set_option linter.unusedVariables false
set_option linter.unusedSimpArgs false

theorem whole_ok (A : Option Addr) (n cap : Nat) (ws : List Int) (w : World) (hn : n ≤ 1125899906842624) (hr : RowAt w A n (ints ws)) (hw : wok ws = true) :
    Calls Try.prog 47 #[.slice A n cap] w fun e w' => e = .returned (.int .i64 ws.sum) ∧ w = w' := by
  have hlen : ws.length = n := by have := hr.len; simpa [ints] using this
  have HR := Lib.hid hr
  have HW := Lib.hid hw
  clear hr hw
  go_enter Try.func47, Try.ntmps47
  go_wp2_with fail
  go_loop [3, 8] (fun x i => ∃ k : Nat, k ≤ n ∧ i = .int .i64 k ∧ x = .int .i64 (ws.take k).sum) (fun _ i => n - (intOf i).toNat)
  case atStart => exact ⟨0, by omega, rfl, rfl⟩
  case round =>
    obtain ⟨k, hk, rfl, rfl⟩ := hrel
    obtain ⟨s0, s1⟩ := wsum_mono HW.out k
    have s2 := (wsum_le _ HW.out).2
    by_cases hlt : k < n
    · obtain ⟨a, z, rfl, hz, hc⟩ := HR.out.int_at hlt
      obtain ⟨z1, z2⟩ := wok_at HW.out hz
      have hs := wsum_succ hz
      have HS := Lib.hid hs
      have HZ := Lib.hid hz
      clear hs hz
      have hd : decide (z < 1) = false := by simp; omega
      have hd2 : decide (8 < z) = false := by simp; omega
      go_wp2_with fail
      go_round
      case rel => exact ⟨k + 1, by omega, by go_num, by rw [HS.out]⟩
      case measure => simp [intOf]; omega
    · obtain rfl : k = n := by omega
      have hs : ws.take k = ws := List.take_of_length_le (by omega)
      rw [hs]
      clear hs
      go_wp2_with fail
      go_ret
      exact ⟨rfl, rfl⟩

theorem whole_no (A : Option Addr) (n cap : Nat) (ws : List Int) (w : World) (hn : n ≤ 1125899906842624) (hr : RowAt w A n (ints ws)) (hw : wok ws = false) :
    Calls Try.prog 47 #[.slice A n cap] w fun e w' => e = .panicked [{ v := wrong 22, recovered := false }] ∧ w = w' := by
  have hlen : ws.length = n := by have := hr.len; simpa [ints] using this
  obtain ⟨j, y, hj, hy, hpre⟩ := wok_false ws hw
  have hjn : j < n := by rw [← hlen]; exact (List.getElem?_eq_some_iff.1 hj).1
  have HR := Lib.hid hr
  have HJ := Lib.hid hj
  have HP := Lib.hid hpre
  have hbad : y < 1 ∨ 8 < y := by simp [wok1] at hy; omega
  have HBAD := Lib.hid hbad
  clear hr hw hj hpre hy hbad
  go_enter Try.func47, Try.ntmps47
  go_wp2_with fail
  go_loop [3, 8] (fun x i => ∃ k : Nat, k ≤ j ∧ i = .int .i64 k ∧ x = .int .i64 (ws.take k).sum) (fun _ i => n - (intOf i).toNat)
  case atStart => exact ⟨0, by omega, rfl, rfl⟩
  case round =>
    obtain ⟨k, hk, rfl, rfl⟩ := hrel
    have hlt : k < n := by omega
    have hsk : 0 ≤ (ws.take k).sum ∧ (ws.take k).sum ≤ 8 * k := by
      have h1 := wok_take HP.out k
      rw [List.take_take, Nat.min_eq_left hk] at h1
      have := wsum_le _ h1
      have h3 : (ws.take k).length ≤ k := List.length_take_le _ _
      omega
    obtain ⟨s0, s1⟩ := hsk
    by_cases hkj : k < j
    · obtain ⟨a, z, rfl, hz, hc⟩ := HR.out.int_at hlt
      have hz' : (ws.take j)[k]? = some z := by rw [List.getElem?_take, if_pos hkj]; exact hz
      obtain ⟨z1, z2⟩ := wok_at HP.out hz'
      have hs := wsum_succ hz
      have HS := Lib.hid hs
      have HZ := Lib.hid hz
      clear hs hz hz'
      have hd : decide (z < 1) = false := by simp; omega
      have hd2 : decide (8 < z) = false := by simp; omega
      go_wp2_with fail
      go_round
      case rel => exact ⟨k + 1, by omega, by go_num, by rw [HS.out]⟩
      case measure => simp [intOf]; omega
    · obtain rfl : k = j := by omega
      obtain ⟨a, z, rfl, hz, hc⟩ := HR.out.int_at hlt
      obtain rfl : z = y := by have := HJ.out; rw [hz] at this; injection this
      have HZ := Lib.hid hz
      clear hz
      rcases HBAD.out with hb | hb
      · go_wp2_with fail
        exact ⟨rfl, rfl, rfl⟩
      · have hb1 : ¬ z < 1 := by omega
        go_wp2_with fail
        exact ⟨rfl, rfl, rfl⟩

theorem enter_pack (caps : Array Value) (w : World) : (callFunc 46 caps).run Try.prog w = .ok (.enter 46 caps) w := by simp [go_sem]

/-- Bytes, and noughts behind them. -/
def roomOf (bs : List UInt8) (size : Nat) : Array Value := (bvl (bs ++ List.replicate (size - bs.length) 0)).toArray
theorem roomOf_size {bs : List UInt8} {size : Nat} (h : bs.length ≤ size) : (roomOf bs size).size = size := by
  simp [roomOf, bvl]; omega
theorem roomOf_nil (size : Nat) : madeCells (Value.int .u8 0).cells size = roomOf [] size := by
  apply Array.ext
  · rw [size_madeCells, roomOf_size (by simp)]
  · intro i h1 h2
    simp [madeCells, roomOf, bvl, bval, Value.cells]
    rw [Nat.mod_one]; rfl
theorem roomOf_put {bs new : List UInt8} {size : Nat} (h : bs.length + new.length ≤ size) : putN (roomOf bs size) bs.length new new.length = roomOf (bs ++ new) size := by
  apply Array.ext_getElem?
  intro j
  rw [putN_get _ _ _ _ _ (by rw [roomOf_size (by omega)]; omega)]
  simp only [roomOf, List.getElem?_toArray, bvl_get]
  by_cases h1 : bs.length ≤ j ∧ j < bs.length + new.length
  · rw [if_pos h1, List.getElem?_append_left (by simp; omega), List.getElem?_append_right (by omega), List.getD_eq_getElem?_getD, List.getElem?_eq_getElem (by omega : j - bs.length < new.length)]
    simp
  · rw [if_neg h1]
    by_cases h2 : j < bs.length
    · rw [List.getElem?_append_left h2, List.append_assoc, List.getElem?_append_left h2]
    · rw [List.getElem?_append_right (by omega), List.getElem?_append_right (by simp; omega)]
      simp only [List.length_append, List.getElem?_replicate]
      by_cases h3 : j < size
      · rw [if_pos (by omega), if_pos (by omega)]
      · rw [if_neg (by omega), if_neg (by omega)]

theorem whole_q (A : Option Addr) (n cap : Nat) (ws : List Int) (w : World) (hn : n ≤ 1125899906842624) (hr : RowAt w A n (ints ws)) (hw : wok ws = true) :
    Calls Try.prog 47 #[.slice A n cap] w fun e w' => e = .returned (.int .i64 ws.sum) ∧ w' = w :=
  (whole_ok A n cap ws w hn hr hw).mono fun _ _ h => ⟨h.1, h.2.symm⟩

theorem pack1_len (p0 p1 p2 p3 : Addr) (A0 A1 : Option Addr) (n0 c0 n1 c1 : Nat) (size : Int) (w : World) (hne : n0 ≠ n1)
    (h0 : w.cell? p0 = some (.slice A0 n0 c0)) (h1 : w.cell? p1 = some (.slice A1 n1 c1)) (h2 : w.cell? p2 = some (.int .i64 size)) :
    Calls Try.prog 46 #[.pointer (some p0), .pointer (some p1), .pointer (some p2), .pointer (some p3)] w fun e w' => e = .panicked [{ v := wrong 22, recovered := false }] ∧ ∃ n, w' = w.drewN n := by
  have hd : ((n0 : Int) != (n1 : Int)) = true := by simp; omega
  clear hne
  go_enter Try.func46, Try.ntmps46
  go_wp2_with fail
  go_quiet (fail)
  go_wp2_with fail
  exact ⟨rfl, rfl, _, rfl⟩

theorem pack1_bad (p0 p1 p2 p3 : Addr) (A0 A1 : Option Addr) (n c0 c1 : Nat) (size : Int) (ws : List Int) (w : World) (hn : n ≤ 1125899906842624) (hr : RowAt w A1 n (ints ws)) (hw : wok ws = false)
    (h0 : w.cell? p0 = some (.slice A0 n c0)) (h1 : w.cell? p1 = some (.slice A1 n c1)) (h2 : w.cell? p2 = some (.int .i64 size)) :
    Calls Try.prog 46 #[.pointer (some p0), .pointer (some p1), .pointer (some p2), .pointer (some p3)] w fun e w' => e = .panicked [{ v := wrong 22, recovered := false }] ∧ ∃ n, w' = w.drewN n := by
  have HC := Lib.hid (whole_no A1 n c1 ws w.drew hn hr hw)
  clear hr hw
  go_enter Try.func46, Try.ntmps46
  go_wp2_with fail
  refine wp_region_held_drew (S := fun w' => w'.cell? p0 = some (.slice A0 n c0) ∧ w'.cell? p1 = some (.slice A1 n c1) ∧ w'.cell? p2 = some (.int .i64 size)) (by kernel_rfl) ⟨h0, h1, h2⟩ (fun hHeld => ?_)
  refine wpAnyH_take (i := 0) (v := ?_) rfl (by kernel_rfl) (by kernel_rfl) (by kernel_rfl) (fun _ _ _ h => h) (Or.inl ⟨by rfl, ?_⟩) (by assumption) ?_
  rotate_left
  · intro w' hSw
    (try dsimp only at hSw)
    go_simp
    with_reducible rfl
  try simp only [Act.put, List.setIfInBounds_toArray, List.set_cons_zero, List.set_cons_succ]
  refine wpAnyH_take (i := 1) (v := ?_) rfl (by kernel_rfl) (by kernel_rfl) (by kernel_rfl) (fun _ _ _ h => h) (Or.inl ⟨by rfl, ?_⟩) (by assumption) ?_
  rotate_left
  · intro w' hSw
    (try dsimp only at hSw)
    go_simp
    with_reducible rfl
  try simp only [Act.put, List.setIfInBounds_toArray, List.set_cons_zero, List.set_cons_succ]
  refine wpAnyH_take (i := 2) (v := ?_) rfl (by kernel_rfl) (by kernel_rfl) (by kernel_rfl) (fun _ _ _ h => h) (Or.inl ⟨by rfl, ?_⟩) (by assumption) ?_
  rotate_left
  · intro w' hSw
    (try dsimp only at hSw)
    go_simp
    with_reducible rfl
  try simp only [Act.put, List.setIfInBounds_toArray, List.set_cons_zero, List.set_cons_succ]
  refine wpAnyH_take (i := 3) (v := ?_) rfl (by kernel_rfl) (by kernel_rfl) (by kernel_rfl) (fun _ _ _ h => h) (Or.inl ⟨by rfl, ?_⟩) (by assumption) ?_
  rotate_left
  · intro w' hSw
    (try dsimp only at hSw)
    go_simp
    with_reducible rfl
  try simp only [Act.put, List.setIfInBounds_toArray, List.set_cons_zero, List.set_cons_succ]
  refine wpAnyH_take (i := 4) (v := ?_) rfl (by kernel_rfl) (by kernel_rfl) (by kernel_rfl) (fun _ _ _ h => h) (Or.inl ⟨by rfl, ?_⟩) (by assumption) ?_
  rotate_left
  · intro w' hSw
    (try dsimp only at hSw)
    go_simp
    with_reducible rfl
  try simp only [Act.put, List.setIfInBounds_toArray, List.set_cons_zero, List.set_cons_succ]
  refine wpAnyH_take (i := 5) (v := ?_) rfl (by kernel_rfl) (by kernel_rfl) (by kernel_rfl) (fun _ _ _ h => h) (Or.inl ⟨by rfl, ?_⟩) (by assumption) ?_
  rotate_left
  · intro w' hSw
    (try dsimp only at hSw)
    go_simp
    with_reducible rfl
  try simp only [Act.put, List.setIfInBounds_toArray, List.set_cons_zero, List.set_cons_succ]
  refine wpAnyH_take (i := 6) (v := ?_) rfl (by kernel_rfl) (by kernel_rfl) (by kernel_rfl) (fun _ _ _ h => h) (Or.inl ⟨by rfl, ?_⟩) (by assumption) ?_
  rotate_left
  · intro w' hSw
    (try dsimp only at hSw)
    go_simp
    with_reducible rfl
  try simp only [Act.put, List.setIfInBounds_toArray, List.set_cons_zero, List.set_cons_succ]
  refine wpAnyH_take (i := 8) (v := ?_) rfl (by kernel_rfl) (by kernel_rfl) (by kernel_rfl) (fun _ _ _ h => h) (Or.inl ⟨by rfl, ?_⟩) (by assumption) ?_
  rotate_left
  · intro w' hSw
    (try dsimp only at hSw)
    go_simp
    with_reducible rfl
  try simp only [Act.put, List.setIfInBounds_toArray, List.set_cons_zero, List.set_cons_succ]
  refine wpAnyH_ready (rs := [7]) (by kernel_rfl) (by simp) ?_
  refine AllReadyH.cons rfl (fun K hK => ?_) AllReadyH.nil
  go_simp
  go_at_call 47
  refine HC.out.mono ?_
  rintro e w' ⟨rfl, rfl⟩
  exact ⟨rfl, rfl, 1, rfl⟩

theorem pack1_size (p0 p1 p2 p3 : Addr) (A0 A1 : Option Addr) (n c0 c1 : Nat) (size : Int) (ws : List Int) (w : World) (hn : n ≤ 1125899906842624) (hr : RowAt w A1 n (ints ws)) (hw : wok ws = true) (hs : size < ws.sum ∨ 4096 < size)
    (h0 : w.cell? p0 = some (.slice A0 n c0)) (h1 : w.cell? p1 = some (.slice A1 n c1)) (h2 : w.cell? p2 = some (.int .i64 size)) :
    Calls Try.prog 46 #[.pointer (some p0), .pointer (some p1), .pointer (some p2), .pointer (some p3)] w fun e w' => e = .panicked [{ v := wrong 22, recovered := false }] ∧ ∃ n, w' = w.drewN n := by
  have HC := Lib.hid (fun k => whole_q A1 n c1 ws (w.drewN k) hn (hr.drewN k) hw)
  clear hr hw
  by_cases hs1 : size < ws.sum
  · clear hs
    go_enter Try.func46, Try.ntmps46
    go_wp2_with fail
    go_quiet ((go_at_call 47; exact Calls.quiet_of_same (HC.out _)))
    go_wp2_with fail
    exact ⟨rfl, rfl, _, rfl⟩
  · have hs2 : 4096 < size := by omega
    have hd1 : decide (size < ws.sum) = false := by simpa using hs1
    clear hs
    go_enter Try.func46, Try.ntmps46
    go_wp2_with fail
    go_quiet ((go_at_call 47; exact Calls.quiet_of_same (HC.out _)))
    go_wp2_with fail
    exact ⟨rfl, rfl, _, rfl⟩
end Go.Proofs.Ytifamhmiibhohaa.Wire

namespace Go.Proofs.Ytifamhmiibhohaa.Wire
open Go.RowKit
set_option maxHeartbeats 16000000
set_option maxRecDepth 100000
set_option linter.unusedVariables false
set_option linter.unusedSimpArgs false

theorem info_u8 : (Try.prog.info? 5).map (fun i => (i.zero, i.size, i.bytes)) = some (some (.int .u8 0), 1, 1) := by kernel_rfl
theorem make_bytes (N : Nat) (hN : N ≤ 140737488355328) (w : World) :
    (Instr.makeSlice 31 (.int .i64 (N : Int)) (.int .i64 (N : Int))).run Try.prog w = .ok (.slice (some ⟨w.heap.size, 0, none⟩) N N) (w.alloc (.cells (roomOf [] N) 5)) := by
  obtain ⟨i0, hi, hz0, hz1, hz2⟩ := info_parts info_u8
  have := run_make (P := Try.prog) w 31 5 i0 (.int .u8 0) Try.underlying31 hi hz0 .i64 .i64 N N (by omega) (by omega) (by rw [hz2]; omega) (by omega)
  rw [hz1, Nat.mul_one, Int.toNat_natCast, roomOf_nil] at this
  exact this

/-- The loop of Pack: what each round keeps. -/
def PackR (W0 : World) (g N : Nat) (l : List Nat) (ws : List Int) (k : Nat) (wr : World) : Prop :=
  Blk wr g 5 (roomOf (pre l ws k) N) ∧ W0.grownBy wr (some g)

theorem pre_zero (l : List Nat) (ws : List Int) : pre l ws 0 = [] := by cases l <;> cases ws <;> rfl

/-- How Pack's closure is left: bytes laid out, or an error. -/
theorem pack1_ok (p0 p1 p2 p3 : Addr) (A0 A1 : Option Addr) (n c0 c1 N : Nat) (l : List Nat) (ws : List Int) (v3 : Value) (w : World) (hn : n ≤ 1125899906842624)
    (hl : RowAt w A0 n (nums l)) (hr : RowAt w A1 n (ints ws)) (hw : wok ws = true) (hs : ws.sum ≤ (N : Int)) (hN : N ≤ 4096)
    (hbig : ∀ (k x : Nat) (z : Int), l[k]? = some x → ws[k]? = some z → x < 256 ^ z.toNat)
    (h0 : w.cell? p0 = some (.slice A0 n c0)) (h1 : w.cell? p1 = some (.slice A1 n c1)) (h2 : w.cell? p2 = some (.int .i64 (N : Int))) (h3 : w.cell? p3 = some v3) (hz3 : w.frozen? p3 = false) :
    Calls Try.prog 46 #[.pointer (some p0), .pointer (some p1), .pointer (some p2), .pointer (some p3)] w fun e w' => e = .returned (.tuple #[]) ∧
      ∃ wr, w' = wr.setCell p3 (.slice (some ⟨w.heap.size, 0, none⟩) N N) ∧ Blk wr w.heap.size 5 (roomOf (pre l ws n) N) ∧ w.grownBy wr none := by
  have hll : l.length = n := by have := hl.len; simpa [nums] using this
  have hlw : ws.length = n := by have := hr.len; simpa [ints] using this
  have HC := Lib.hid (fun k => whole_q A1 n c1 ws (w.drewN k) hn (hr.drewN k) hw)
  have HW := Lib.hid hw
  have HBIG := Lib.hid hbig
  have HL := Lib.hid hl
  have HRR := Lib.hid hr
  have hmk := make_bytes N (by omega)
  have hd1 : decide ((N : Int) < ws.sum) = false := by simp; omega
  have hd2 : decide ((4096 : Int) < (N : Int)) = false := by simp; omega
  have lt0 := World.block_lt_of_cell? w _ h0
  have lt1 := World.block_lt_of_cell? w _ h1
  have lt3 := World.block_lt_of_cell? w _ h3
  have q1 : ∀ (k : Nat) (o : Obj), ((w.drewN k).alloc o).cell? p1 = some (.slice A1 n c1) := fun k o => (World.cell?_alloc_lt (w.drewN k) o p1 lt1).trans h1
  have HLL := Lib.hid hll
  have HLW := Lib.hid hlw
  clear hw hbig hl hr hll hlw
  go_enter Try.func46, Try.ntmps46
  go_wp2_with fail
  go_quiet ((go_at_call 47; exact Calls.quiet_of_same (HC.out _)))
  clear hd1 hd2
  go_wp2_with fail
  clear hmk q1
  obtain ⟨W0, hW0⟩ : ∃ W0, (w.drewN nq).alloc (.cells (roomOf [] N) 5) = W0 := ⟨_, rfl⟩
  rw [hW0]
  have b0 : Blk W0 w.heap.size 5 (roomOf [] N) := by rw [← hW0]; exact Blk.new (w.drewN nq) _ _
  have g0 : w.grownBy W0 none := by rw [← hW0]; exact only_alloc (only_drewN (World.grownBy.refl w none) nq) _
  have sz0 : W0.heap.size = w.heap.size + 1 := by rw [← hW0]; simp
  have B0 := Lib.hid b0
  have G0 := Lib.hid g0
  have SZ0 := Lib.hid sz0
  clear b0 g0 sz0 hW0
  go_loopw [5, 29] (fun a i wr => ∃ k : Nat, k ≤ n ∧ i = .int .i64 k ∧ a = .int .i64 (ws.take k).sum ∧ PackR W0 w.heap.size N l ws k wr) (fun _ i _ => n - (intOf i).toNat)
  case atStart => exact ⟨0, by omega, rfl, rfl, by rw [pre_zero]; exact B0.out, World.grownBy.refl _ _⟩
  case round =>
    obtain ⟨k, hk, rfl, rfl, hbk, hgr⟩ := hrel
    have HBK := Lib.hid hbk
    have hgA : w.grownBy wr none := ⟨hgr.os.trans G0.out.os, hgr.tape.trans G0.out.tape, hgr.output.trans G0.out.output, Nat.le_trans G0.out.size hgr.size, fun i hi hne => (hgr.block i (Nat.lt_of_lt_of_le hi G0.out.size) (by intro e; injection e with e; omega)).trans (G0.out.block i hi hne)⟩
    have HG := Lib.hid hgr
    have HGA := Lib.hid hgA
    clear hbk hgr hgA
    have r0 : wr.cell? p0 = some (.slice A0 n c0) := (HGA.out.cell_far p0 lt0 (by simp)).trans h0
    obtain ⟨s0, s1⟩ := wsum_mono HW.out k
    have s2 := (wsum_le _ HW.out).2
    by_cases hlt : k < n
    · obtain ⟨al, x, rfl, hx, hcx⟩ := (HL.out.grown HGA.out (by simp)).num_at hlt
      obtain ⟨aw, z, rfl, hz, hcz⟩ := (HRR.out.grown HGA.out (by simp)).int_at hlt
      obtain ⟨z1, z2⟩ := wok_at HW.out hz
      obtain ⟨zn, rfl⟩ := Int.eq_ofNat_of_zero_le (by omega : 0 ≤ z)
      obtain ⟨s3, s4⟩ := wsum_mono HW.out (k + 1)
      have hss := wsum_succ hz
      have hlen := pre_length l ws k (by rw [HLL.out, HLW.out]) HW.out
      obtain ⟨at_, hat⟩ := Int.eq_ofNat_of_zero_le s0
      have hpl : (pre l ws k).length = at_ := by omega
      have hxb := HBIG.out k x _ hx hz
      have hps := pre_succ l ws k x _ hx hz
      rw [Int.toNat_natCast] at hps hxb
      have hput := roomOf_put (bs := pre l ws k) (new := le zn x) (size := N) (by rw [le_length]; omega)
      rw [le_length, hpl, ← hps] at hput
      have hlay := lay_yes ⟨w.heap.size, at_, none⟩ zn (N - at_) x (roomOf (pre l ws k) N) wr.drew (by omega) (by omega) hxb rfl (by rw [roomOf_size (by omega)]; simp only; omega) HBK.out
      simp only [hput] at hlay
      rw [hat] at hss ⊢
      have hal := (HL.out.lt (by omega) : al.block < w.heap.size)
      have HLAY := Lib.hid hlay
      have HSS := Lib.hid hss
      have X1 := Lib.hid hx
      have X2 := Lib.hid hz
      rw [hat] at s1 s0
      have hsum : ((at_ : Int) + (zn : Int)) ≤ N := by omega
      clear hlay hss hx hz hps hput hxb hpl hlen hat
      have hd : decide ((zn : Int) < 1) = false := by simp; omega
      have hN2 : ¬ N = at_ := by omega
      go_wp2_with fail
      have f1 : IntKind.i64.wrap ((at_ : Int) + (zn : Int)) = (at_ : Int) + (zn : Int) := by rw [IntKind.wrap_i64]; omega
      have f2 : ((at_ : Int) + (zn : Int)).toNat = at_ + zn := by omega
      have f3 : (at_ : Int) ≤ (at_ : Int) + (zn : Int) := by omega
      have f4 : (0 : Int) ≤ (k : Int) := by omega
      have f5 : (k : Int) < (n : Int) := by omega
      have f6 : (0 : Int) ≤ (at_ : Int) + (zn : Int) := by omega
      go_region_held3 (fun w' => w'.cell? p0 = some (.slice (some al) n c0) ∧ w'.cell? (al.add k) = some (.int .u64 (x : Int)))
        (first | go_keep | (refine ⟨?_, ?_⟩ <;> (rw [hg.cell_far _ (by first | exact Nat.lt_of_lt_of_le lt0 HGA.out.size | (rw [block_of_add]; exact Nat.lt_of_lt_of_le hal HGA.out.size)) (by first | (simp; omega) | (rw [block_of_add]; simp; omega))]; assumption)))
        (first | (go_simp; go_at_call 48; refine HLAY.out.mono ?_; rintro e w2 ⟨rfl, hbk, hg⟩))
      clear f1 f2 f6
      have hbk2 := hbk
      have hg2 : wr.grownBy w2 (some w.heap.size) := only_of_drew hg
      have HB2 := Lib.hid hbk
      have HG2 := Lib.hid hg2
      clear hbk hbk2 hg hg2
      go_wp2_with fail
      go_roundw
      case rel => exact ⟨k + 1, by omega, by go_num, by rw [HSS.out], HB2.out, only_trans HG.out HG2.out⟩
      case measure => simp [intOf]; omega
    · obtain rfl : k = n := by omega
      have hz : wr.frozen? p3 = false := (HGA.out.frozen_far p3 lt3 (by simp)).trans hz3
      have r3 : wr.cell? p3 = some v3 := (HGA.out.cell_far p3 lt3 (by simp)).trans h3
      go_wp2_with fail
      go_end0
      exact ⟨rfl, wr, rfl, HBK.out, HGA.out⟩

/-- A number does not go in. -/
theorem pack1_over (p0 p1 p2 p3 : Addr) (A0 A1 : Option Addr) (n c0 c1 N : Nat) (l : List Nat) (ws : List Int) (v3 : Value) (w : World) (hn : n ≤ 1125899906842624)
    (hl : RowAt w A0 n (nums l)) (hr : RowAt w A1 n (ints ws)) (hw : wok ws = true) (hs : ws.sum ≤ (N : Int)) (hN : N ≤ 4096)
    (j xj : Nat) (zj : Int) (hj1 : l[j]? = some xj) (hj2 : ws[j]? = some zj) (hj3 : ¬ xj < 256 ^ zj.toNat) (h64 : ∀ x ∈ l, x < 18446744073709551616)
    (hbig : ∀ (k x : Nat) (z : Int), k < j → l[k]? = some x → ws[k]? = some z → x < 256 ^ z.toNat)
    (h0 : w.cell? p0 = some (.slice A0 n c0)) (h1 : w.cell? p1 = some (.slice A1 n c1)) (h2 : w.cell? p2 = some (.int .i64 (N : Int))) (h3 : w.cell? p3 = some v3) (hz3 : w.frozen? p3 = false) :
    Calls Try.prog 46 #[.pointer (some p0), .pointer (some p1), .pointer (some p2), .pointer (some p3)] w fun e w' => e = .panicked [{ v := wrong 34, recovered := false }] ∧ w.grownBy w' none := by
  have hll : l.length = n := by have := hl.len; simpa [nums] using this
  have hlw : ws.length = n := by have := hr.len; simpa [ints] using this
  have HC := Lib.hid (fun k => whole_q A1 n c1 ws (w.drewN k) hn (hr.drewN k) hw)
  have HW := Lib.hid hw
  have HBIG := Lib.hid hbig
  have HL := Lib.hid hl
  have HRR := Lib.hid hr
  have hmk := make_bytes N (by omega)
  have hd1 : decide ((N : Int) < ws.sum) = false := by simp; omega
  have hd2 : decide ((4096 : Int) < (N : Int)) = false := by simp; omega
  have lt0 := World.block_lt_of_cell? w _ h0
  have lt1 := World.block_lt_of_cell? w _ h1
  have lt3 := World.block_lt_of_cell? w _ h3
  have q1 : ∀ (k : Nat) (o : Obj), ((w.drewN k).alloc o).cell? p1 = some (.slice A1 n c1) := fun k o => (World.cell?_alloc_lt (w.drewN k) o p1 lt1).trans h1
  have HLL := Lib.hid hll
  have HLW := Lib.hid hlw
  have hjn : j < n := by rw [← hll]; exact (List.getElem?_eq_some_iff.1 hj1).1
  have hx64 : xj < 18446744073709551616 := h64 xj (List.mem_of_getElem? hj1)
  have HJ1 := Lib.hid hj1
  have HJ2 := Lib.hid hj2
  have HJ3 := Lib.hid hj3
  clear hw hbig hl hr hll hlw hj1 hj2 hj3 h64
  go_enter Try.func46, Try.ntmps46
  go_wp2_with fail
  go_quiet ((go_at_call 47; exact Calls.quiet_of_same (HC.out _)))
  clear hd1 hd2
  go_wp2_with fail
  clear hmk q1
  obtain ⟨W0, hW0⟩ : ∃ W0, (w.drewN nq).alloc (.cells (roomOf [] N) 5) = W0 := ⟨_, rfl⟩
  rw [hW0]
  have b0 : Blk W0 w.heap.size 5 (roomOf [] N) := by rw [← hW0]; exact Blk.new (w.drewN nq) _ _
  have g0 : w.grownBy W0 none := by rw [← hW0]; exact only_alloc (only_drewN (World.grownBy.refl w none) nq) _
  have sz0 : W0.heap.size = w.heap.size + 1 := by rw [← hW0]; simp
  have B0 := Lib.hid b0
  have G0 := Lib.hid g0
  have SZ0 := Lib.hid sz0
  clear b0 g0 sz0 hW0
  go_loopw [5, 29] (fun a i wr => ∃ k : Nat, k ≤ j ∧ i = .int .i64 k ∧ a = .int .i64 (ws.take k).sum ∧ PackR W0 w.heap.size N l ws k wr) (fun _ i _ => n - (intOf i).toNat)
  case atStart => exact ⟨0, by omega, rfl, rfl, by rw [pre_zero]; exact B0.out, World.grownBy.refl _ _⟩
  case round =>
    obtain ⟨k, hk, rfl, rfl, hbk, hgr⟩ := hrel
    have HBK := Lib.hid hbk
    have hgA : w.grownBy wr none := ⟨hgr.os.trans G0.out.os, hgr.tape.trans G0.out.tape, hgr.output.trans G0.out.output, Nat.le_trans G0.out.size hgr.size, fun i hi hne => (hgr.block i (Nat.lt_of_lt_of_le hi G0.out.size) (by intro e; injection e with e; omega)).trans (G0.out.block i hi hne)⟩
    have HG := Lib.hid hgr
    have HGA := Lib.hid hgA
    clear hbk hgr hgA
    have r0 : wr.cell? p0 = some (.slice A0 n c0) := (HGA.out.cell_far p0 lt0 (by simp)).trans h0
    obtain ⟨s0, s1⟩ := wsum_mono HW.out k
    have s2 := (wsum_le _ HW.out).2
    have hlt : k < n := by omega
    by_cases hkj : k < j
    · obtain ⟨al, x, rfl, hx, hcx⟩ := (HL.out.grown HGA.out (by simp)).num_at hlt
      obtain ⟨aw, z, rfl, hz, hcz⟩ := (HRR.out.grown HGA.out (by simp)).int_at hlt
      obtain ⟨z1, z2⟩ := wok_at HW.out hz
      obtain ⟨zn, rfl⟩ := Int.eq_ofNat_of_zero_le (by omega : 0 ≤ z)
      obtain ⟨s3, s4⟩ := wsum_mono HW.out (k + 1)
      have hss := wsum_succ hz
      have hlen := pre_length l ws k (by rw [HLL.out, HLW.out]) HW.out
      obtain ⟨at_, hat⟩ := Int.eq_ofNat_of_zero_le s0
      have hpl : (pre l ws k).length = at_ := by omega
      have hxb := HBIG.out k x _ hkj hx hz
      have hps := pre_succ l ws k x _ hx hz
      rw [Int.toNat_natCast] at hps hxb
      have hput := roomOf_put (bs := pre l ws k) (new := le zn x) (size := N) (by rw [le_length]; omega)
      rw [le_length, hpl, ← hps] at hput
      have hlay := lay_yes ⟨w.heap.size, at_, none⟩ zn (N - at_) x (roomOf (pre l ws k) N) wr.drew (by omega) (by omega) hxb rfl (by rw [roomOf_size (by omega)]; simp only; omega) HBK.out
      simp only [hput] at hlay
      rw [hat] at hss ⊢
      have hal := (HL.out.lt (by omega) : al.block < w.heap.size)
      have HLAY := Lib.hid hlay
      have HSS := Lib.hid hss
      have X1 := Lib.hid hx
      have X2 := Lib.hid hz
      rw [hat] at s1 s0
      have hsum : ((at_ : Int) + (zn : Int)) ≤ N := by omega
      clear hlay hss hx hz hps hput hxb hpl hlen hat
      have hd : decide ((zn : Int) < 1) = false := by simp; omega
      have hN2 : ¬ N = at_ := by omega
      go_wp2_with fail
      have f1 : IntKind.i64.wrap ((at_ : Int) + (zn : Int)) = (at_ : Int) + (zn : Int) := by rw [IntKind.wrap_i64]; omega
      have f2 : ((at_ : Int) + (zn : Int)).toNat = at_ + zn := by omega
      have f3 : (at_ : Int) ≤ (at_ : Int) + (zn : Int) := by omega
      have f4 : (0 : Int) ≤ (k : Int) := by omega
      have f5 : (k : Int) < (n : Int) := by omega
      have f6 : (0 : Int) ≤ (at_ : Int) + (zn : Int) := by omega
      go_region_held3 (fun w' => w'.cell? p0 = some (.slice (some al) n c0) ∧ w'.cell? (al.add k) = some (.int .u64 (x : Int)))
        (first | go_keep | (refine ⟨?_, ?_⟩ <;> (rw [hg.cell_far _ (by first | exact Nat.lt_of_lt_of_le lt0 HGA.out.size | (rw [block_of_add]; exact Nat.lt_of_lt_of_le hal HGA.out.size)) (by first | (simp; omega) | (rw [block_of_add]; simp; omega))]; assumption)))
        (first | (go_simp; go_at_call 48; refine HLAY.out.mono ?_; rintro e w2 ⟨rfl, hbk, hg⟩))
      clear f1 f2 f6
      have hbk2 := hbk
      have hg2 : wr.grownBy w2 (some w.heap.size) := only_of_drew hg
      have HB2 := Lib.hid hbk
      have HG2 := Lib.hid hg2
      clear hbk hbk2 hg hg2
      go_wp2_with fail
      go_roundw
      case rel => exact ⟨k + 1, by omega, by go_num, by rw [HSS.out], HB2.out, only_trans HG.out HG2.out⟩
      case measure => simp [intOf]; omega
    · obtain rfl : k = j := by omega
      obtain ⟨al, x, rfl, hx, hcx⟩ := (HL.out.grown HGA.out (by simp)).num_at hlt
      obtain ⟨aw, z, rfl, hz, hcz⟩ := (HRR.out.grown HGA.out (by simp)).int_at hlt
      obtain ⟨z1, z2⟩ := wok_at HW.out hz
      obtain rfl : x = xj := by have := HJ1.out; rw [hx] at this; injection this
      obtain rfl : z = zj := by have := HJ2.out; rw [hz] at this; injection this
      obtain ⟨zn, rfl⟩ := Int.eq_ofNat_of_zero_le (by omega : 0 ≤ z)
      obtain ⟨s3, s4⟩ := wsum_mono HW.out (k + 1)
      have hss := wsum_succ hz
      obtain ⟨at_, hat⟩ := Int.eq_ofNat_of_zero_le s0
      have hxb := HJ3.out
      rw [Int.toNat_natCast] at hxb
      have h7 : zn < 8 := by
        rcases Nat.lt_or_ge zn 8 with h | h
        · exact h
        · have h8 : zn = 8 := by omega
          rw [h8] at hxb
          exact absurd hx64 (by simpa using hxb)
      have HXB := Lib.hid hxb
      rw [hat] at hss ⊢
      rw [hat] at s1 s0
      have hsum : ((at_ : Int) + (zn : Int)) ≤ N := by omega
      clear hss hx hz hxb hat hx64
      have hd : decide ((zn : Int) < 1) = false := by simp; omega
      have hN2 : ¬ N = at_ := by omega
      go_wp2_with fail
      have f1 : IntKind.i64.wrap ((at_ : Int) + (zn : Int)) = (at_ : Int) + (zn : Int) := by rw [IntKind.wrap_i64]; omega
      have f2 : ((at_ : Int) + (zn : Int)).toNat = at_ + zn := by omega
      have f3 : (at_ : Int) ≤ (at_ : Int) + (zn : Int) := by omega
      have f4 : (0 : Int) ≤ (k : Int) := by omega
      have f5 : (k : Int) < (n : Int) := by omega
      have f6 : (0 : Int) ≤ (at_ : Int) + (zn : Int) := by omega
      refine wp_region_held_drew (S := fun w' => w'.cell? p0 = some (.slice (some al) n c0) ∧ w'.cell? (al.add k) = some (.int .u64 (x : Int))) (by kernel_rfl) ⟨r0, hcx⟩ (fun hHeld => ?_)
      refine wpAnyH_take (i := 0) (v := ?_) rfl (by kernel_rfl) (by kernel_rfl) (by kernel_rfl) (fun _ _ _ h => h) (Or.inl ⟨by rfl, ?_⟩) (by assumption) ?_
      rotate_left
      · intro w' hSw
        (try dsimp only at hSw)
        go_simp
        with_reducible rfl
      try simp only [Act.put, List.setIfInBounds_toArray, List.set_cons_zero, List.set_cons_succ]
      refine wpAnyH_take (i := 1) (v := ?_) rfl (by kernel_rfl) (by kernel_rfl) (by kernel_rfl) (fun _ _ _ h => h) (Or.inl ⟨by rfl, ?_⟩) (by assumption) ?_
      rotate_left
      · intro w' hSw
        (try dsimp only at hSw)
        go_simp
        with_reducible rfl
      try simp only [Act.put, List.setIfInBounds_toArray, List.set_cons_zero, List.set_cons_succ]
      refine wpAnyH_take (i := 2) (v := ?_) rfl (by kernel_rfl) (by kernel_rfl) (by kernel_rfl) (fun _ _ _ h => h) (Or.inl ⟨by rfl, ?_⟩) (by assumption) ?_
      rotate_left
      · intro w' hSw
        (try dsimp only at hSw)
        go_simp
        with_reducible rfl
      try simp only [Act.put, List.setIfInBounds_toArray, List.set_cons_zero, List.set_cons_succ]
      refine wpAnyH_take (i := 3) (v := ?_) rfl (by kernel_rfl) (by kernel_rfl) (by kernel_rfl) (fun _ _ _ h => h) (Or.inl ⟨by rfl, ?_⟩) (by assumption) ?_
      rotate_left
      · intro w' hSw
        (try dsimp only at hSw)
        go_simp
        with_reducible rfl
      try simp only [Act.put, List.setIfInBounds_toArray, List.set_cons_zero, List.set_cons_succ]
      refine wpAnyH_take (i := 4) (v := ?_) rfl (by kernel_rfl) (by kernel_rfl) (by kernel_rfl) (fun _ _ _ h => h) (Or.inl ⟨by rfl, ?_⟩) (by assumption) ?_
      rotate_left
      · intro w' hSw
        (try dsimp only at hSw)
        go_simp
        with_reducible rfl
      try simp only [Act.put, List.setIfInBounds_toArray, List.set_cons_zero, List.set_cons_succ]
      refine wpAnyH_take (i := 5) (v := ?_) rfl (by kernel_rfl) (by kernel_rfl) (by kernel_rfl) (fun _ _ _ h => h) (Or.inl ⟨by rfl, ?_⟩) (by assumption) ?_
      rotate_left
      · intro w' hSw
        (try dsimp only at hSw)
        go_simp
        with_reducible rfl
      try simp only [Act.put, List.setIfInBounds_toArray, List.set_cons_zero, List.set_cons_succ]
      refine wpAnyH_take (i := 6) (v := ?_) rfl (by kernel_rfl) (by kernel_rfl) (by kernel_rfl) (fun _ _ _ h => h) (Or.inl ⟨by rfl, ?_⟩) (by assumption) ?_
      rotate_left
      · intro w' hSw
        (try dsimp only at hSw)
        go_simp
        with_reducible rfl
      try simp only [Act.put, List.setIfInBounds_toArray, List.set_cons_zero, List.set_cons_succ]
      refine wpAnyH_take (i := 7) (v := ?_) rfl (by kernel_rfl) (by kernel_rfl) (by kernel_rfl) (fun _ _ _ h => h) (Or.inl ⟨by rfl, ?_⟩) (by assumption) ?_
      rotate_left
      · intro w' hSw
        (try dsimp only at hSw)
        go_simp
        with_reducible rfl
      try simp only [Act.put, List.setIfInBounds_toArray, List.set_cons_zero, List.set_cons_succ]
      refine wpAnyH_take (i := 8) (v := ?_) rfl (by kernel_rfl) (by kernel_rfl) (by kernel_rfl) (fun _ _ _ h => h) (Or.inl ⟨by rfl, ?_⟩) (by assumption) ?_
      rotate_left
      · intro w' hSw
        (try dsimp only at hSw)
        go_simp
        with_reducible rfl
      try simp only [Act.put, List.setIfInBounds_toArray, List.set_cons_zero, List.set_cons_succ]
      refine wpAnyH_take (i := 9) (v := ?_) rfl (by kernel_rfl) (by kernel_rfl) (by kernel_rfl) (fun _ _ _ h => h) (Or.inl ⟨by rfl, ?_⟩) (by assumption) ?_
      rotate_left
      · intro w' hSw
        (try dsimp only at hSw)
        go_simp
        with_reducible rfl
      try simp only [Act.put, List.setIfInBounds_toArray, List.set_cons_zero, List.set_cons_succ]
      refine wpAnyH_ready (rs := [10]) (by kernel_rfl) (by simp) ?_
      refine AllReadyH.cons rfl (fun K hK => ?_) AllReadyH.nil
      go_simp
      go_at_call 48
      refine (lay_no _ _ _ _ _ h7 HXB.out).mono ?_
      rintro e w' ⟨rfl, rfl⟩
      exact ⟨rfl, rfl, only_drew HGA.out⟩
end Go.Proofs.Ytifamhmiibhohaa.Wire

namespace Go.Proofs.Ytifamhmiibhohaa.Wire
open Go.RowKit
set_option maxHeartbeats 16000000
set_option maxRecDepth 100000
set_option linter.unusedVariables false
set_option linter.unusedSimpArgs false

theorem pack_of (A0 A1 : Option Addr) (n0 c0 n1 c1 : Nat) (size c : Int) (v : Value) (w : World) (R : World → World → Prop)
    (h : ∀ W, (((w.alloc (.cells #[.slice A0 n0 c0] 68)).alloc (.cells #[.slice A1 n1 c1] 23)).alloc (.cells #[.int .i64 size] 3)).alloc (.cells #[.slice none 0 0] 31) = W →
      Calls Try.prog 45 #[.func (.func 46) #[] #[.pointer (some ⟨w.heap.size, 0, none⟩), .pointer (some ⟨w.heap.size + 1, 0, none⟩), .pointer (some ⟨w.heap.size + 1 + 1, 0, none⟩), .pointer (some ⟨w.heap.size + 1 + 1 + 1, 0, none⟩)]] W
        fun e w' => e = .returned (.int .i64 c) ∧ R W w' ∧ w'.cell? ⟨w.heap.size + 1 + 1 + 1, 0, none⟩ = some v) :
    Calls Try.prog 30 #[.slice A0 n0 c0, .slice A1 n1 c1, .int .i64 size] w fun e w' => e = .returned (.tuple #[v, .int .i64 c]) ∧ ∃ W, (((w.alloc (.cells #[.slice A0 n0 c0] 68)).alloc (.cells #[.slice A1 n1 c1] 23)).alloc (.cells #[.int .i64 size] 3)).alloc (.cells #[.slice none 0 0] 31) = W ∧ R W w' := by
  have hmf : ∀ (fn : Fn) (first cap : Array Value) (w : World), (Instr.makeFunc fn first cap).run Try.prog w = .ok (.func fn first cap) w := fun _ _ _ _ => rfl
  have H := Lib.hid (h _ rfl)
  clear h
  go_enter Try.func30, Try.ntmps30
  go_wp2_with fail
  refine H.out.mono ?_
  rintro e w1 ⟨rfl, hr, hc⟩
  have HR := Lib.hid hr
  clear hr
  go_wp2_with fail
  go_ret2
  exact ⟨rfl, _, rfl, HR.out⟩

/-- Where Pack's closure gives up, nothing is packed. -/
theorem pack_gives (A0 A1 : Option Addr) (n0 c0 n1 c1 : Nat) (size c : Int) (w : World)
    (h : ∀ W, (((w.alloc (.cells #[.slice A0 n0 c0] 68)).alloc (.cells #[.slice A1 n1 c1] 23)).alloc (.cells #[.int .i64 size] 3)).alloc (.cells #[.slice none 0 0] 31) = W →
      Calls Try.prog 46 #[.pointer (some ⟨w.heap.size, 0, none⟩), .pointer (some ⟨w.heap.size + 1, 0, none⟩), .pointer (some ⟨w.heap.size + 1 + 1, 0, none⟩), .pointer (some ⟨w.heap.size + 1 + 1 + 1, 0, none⟩)] (W.alloc (.cells #[.int .i64 0] 26))
        fun e w' => e = .panicked [{ v := wrong c, recovered := false }] ∧ (W.alloc (.cells #[.int .i64 0] 26)).grownBy w' none) :
    Calls Try.prog 30 #[.slice A0 n0 c0, .slice A1 n1 c1, .int .i64 size] w fun e w' => e = .returned (.tuple #[.slice none 0 0, .int .i64 c]) ∧ Below w.heap.size w w' := by
  refine (pack_of A0 A1 n0 c0 n1 c1 size c (.slice none 0 0) w (fun W w' => Below w.heap.size w w') (fun W hW => ?_)).mono ?_
  · obtain ⟨b0, b1, b2, b3, hbel, hsz⟩ := boxes w _ _ _ _ _ _ _ _ W hW
    refine (try_gives 46 _ W (fun w' => (W.alloc (.cells #[.int .i64 0] 26)).grownBy w' none) c (enter_pack _) (h W hW) (fun w' h => (Blk.new W _ _).grown h (by simp))).mono ?_
    rintro e w' ⟨he, w1, hg1, hg⟩
    have hb1 : Below w.heap.size w w1 := below_only (hbel.alloc hbel.size _) hg1 (fun g hg => by cases hg)
    refine ⟨he, below_only hb1 hg (fun g hg => by injection hg with hg; omega), ?_⟩
    exact blk_cell0 (((b3.alloc (.cells #[.int .i64 0] 26)).grown hg1 (by simp)).grown hg (by simp; omega))
  · rintro e w' ⟨he, W, hW, hb⟩
    exact ⟨he, hb⟩

theorem pack_any (A0 A1 : Option Addr) (n0 c0 n1 c1 : Nat) (l : List Nat) (ws : List Int) (size : Int) (w : World) (hn : n1 ≤ 1125899906842624) (h64 : ∀ x ∈ l, x < 18446744073709551616)
    (hl : RowAt w A0 n0 (nums l)) (hr : RowAt w A1 n1 (ints ws)) :
    Calls Try.prog 30 #[.slice A0 n0 c0, .slice A1 n1 c1, .int .i64 size] w fun e w' => ∃ v, e = .returned (.tuple #[v, .int .i64 (packE l ws size)]) ∧ Below w.heap.size w w' ∧
      w'.ownsRow w.heap.size 5 1 v (packB l ws size).length (bvl (packB l ws size)) := by
  have hll : l.length = n0 := by have := hl.len; simpa [nums] using this
  have hlw : ws.length = n1 := by have := hr.len; simpa [ints] using this
  have none_ : ∀ c, packE l ws size = c → packB l ws size = [] →
      Calls Try.prog 30 #[.slice A0 n0 c0, .slice A1 n1 c1, .int .i64 size] w (fun e w' => e = .returned (.tuple #[.slice none 0 0, .int .i64 c]) ∧ Below w.heap.size w w') →
      Calls Try.prog 30 #[.slice A0 n0 c0, .slice A1 n1 c1, .int .i64 size] w (fun e w' => ∃ v, e = .returned (.tuple #[v, .int .i64 (packE l ws size)]) ∧ Below w.heap.size w w' ∧ w'.ownsRow w.heap.size 5 1 v (packB l ws size).length (bvl (packB l ws size))) := by
    intro c hc hb h
    refine h.mono fun e w' ⟨he, hbel⟩ => ⟨.slice none 0 0, by rw [he, hc], hbel, ?_⟩
    rw [hb]
    exact World.ownsRow_nil _ _ _ _
  cases hm : pmay l ws size
  · have hE : packE l ws size = 22 := by simp [packE, hm]
    have hB : packB l ws size = [] := by simp [packB, hm]
    refine none_ 22 hE hB (pack_gives A0 A1 n0 c0 n1 c1 size 22 w (fun W hW => ?_))
    obtain ⟨b0, b1, b2, b3, hbel, hsz⟩ := boxes w _ _ _ _ _ _ _ _ W hW
    have fin : ∀ (e : Ending) (w' : World), (e = .panicked [{ v := wrong 22, recovered := false }] ∧ ∃ n, w' = (W.alloc (.cells #[.int .i64 0] 26)).drewN n) → (e = .panicked [{ v := wrong 22, recovered := false }] ∧ (W.alloc (.cells #[.int .i64 0] 26)).grownBy w' none) := by
      rintro e w' ⟨he, n, rfl⟩
      exact ⟨he, only_drewN (World.grownBy.refl _ _) n⟩
    have k0 := blk_cell0 (b0.alloc (.cells #[.int .i64 0] 26))
    have k1 := blk_cell0 (b1.alloc (.cells #[.int .i64 0] 26))
    have k2 := blk_cell0 (b2.alloc (.cells #[.int .i64 0] 26))
    by_cases hne : n0 = n1
    · subst hne
      have hrW := (hr.below hbel).alloc (.cells #[.int .i64 0] 26)
      cases hw : wok ws
      · exact (pack1_bad _ _ _ _ A0 A1 n0 c0 c1 size ws _ hn hrW hw k0 k1 k2).mono fin
      · refine (pack1_size _ _ _ _ A0 A1 n0 c0 c1 size ws _ hn hrW hw ?_ k0 k1 k2).mono fin
        simp [pmay, hw, hll, hlw] at hm
        omega
    · exact (pack1_len _ _ _ _ A0 A1 n0 c0 n1 c1 size _ hne k0 k1 k2).mono fin
  · have hm' := hm
    simp only [pmay, Bool.and_eq_true, decide_eq_true_eq] at hm'
    obtain ⟨m1, m2, m3, m4⟩ := hm'
    obtain rfl : n0 = n1 := by omega
    have hsum := wsum_le ws m2
    obtain ⟨N, rfl⟩ := Int.eq_ofNat_of_zero_le (by omega : 0 ≤ size)
    rcases first_big l ws m1 with hbig | ⟨j, x, z, j1, j2, j3, j4⟩
    · have hp := packs_some l ws m1 hbig
      have hE : packE l ws (N : Int) = 0 := by simp [packE, hm, hp]
      have hB : packB l ws (N : Int) = pre l ws l.length ++ List.replicate (N - (pre l ws l.length).length) 0 := by simp [packB, hm, hp]
      have hpl := pre_length l ws l.length m1 m2
      rw [m1, List.take_length, ← m1] at hpl
      have hBl : (packB l ws (N : Int)).length = N := by rw [hB]; simp; omega
      refine (pack_of A0 A1 n0 c0 n0 c1 (N : Int) 0 (.slice (some ⟨w.heap.size + 1 + 1 + 1 + 1 + 1, 0, none⟩) N N) w
        (fun W w' => Below w.heap.size w w' ∧ Blk w' (w.heap.size + 1 + 1 + 1 + 1 + 1) 5 (roomOf (pre l ws n0) N)) (fun W hW => ?_)).mono ?_
      · obtain ⟨b0, b1, b2, b3, hbel, hsz⟩ := boxes w _ _ _ _ _ _ _ _ W hW
        have hsz' : (W.alloc (.cells #[.int .i64 0] 26)).heap.size = w.heap.size + 1 + 1 + 1 + 1 + 1 := by simp [hsz]
        have k0 := blk_cell0 (b0.alloc (.cells #[.int .i64 0] 26))
        have k1 := blk_cell0 (b1.alloc (.cells #[.int .i64 0] 26))
        have k2 := blk_cell0 (b2.alloc (.cells #[.int .i64 0] 26))
        have b3' := b3.alloc (.cells #[.int .i64 0] 26)
        have hcl := pack1_ok _ _ _ _ A0 A1 n0 c0 c1 N l ws (.slice none 0 0) _ hn ((hl.below hbel).alloc (.cells #[.int .i64 0] 26)) ((hr.below hbel).alloc (.cells #[.int .i64 0] 26)) m2 m3 (by omega) hbig k0 k1 k2 (blk_cell0 b3') (b3'.frozen 0)
        rw [hsz'] at hcl
        refine (try_ok 46 _ W (fun w' => ∃ wr, w' = wr.setCell ⟨w.heap.size + 1 + 1 + 1, 0, none⟩ (.slice (some ⟨w.heap.size + 1 + 1 + 1 + 1 + 1, 0, none⟩) N N) ∧ Blk wr (w.heap.size + 1 + 1 + 1 + 1 + 1) 5 (roomOf (pre l ws n0) N) ∧ (W.alloc (.cells #[.int .i64 0] 26)).grownBy wr none)
          (enter_pack _) hcl (fun w' ⟨wr, h1, h2, h3⟩ => by rw [h1]; exact ((Blk.new W _ _).grown h3 (by simp)).far (by simp; omega) _)).mono ?_
        rintro e w' ⟨he, w1, ⟨wr, h1, h2, h3⟩, hg⟩
        have hb1 : Below w.heap.size w wr := below_only (hbel.alloc hbel.size _) h3 (fun g hg => by cases hg)
        subst h1
        refine ⟨he, ⟨below_only (hb1.setCell (by simp; omega) _) hg (fun g hg => by injection hg with hg; omega), ?_⟩, ?_⟩
        · exact (h2.far (by simp; omega) _).grown hg (by simp; omega)
        · exact (((b3'.grown h3 (by simp)).set_ 0 _).grown hg (by simp; omega)).cell 0
      · rintro e w' ⟨he, W, hW, hb, hk⟩
        refine ⟨_, by rw [he, hE], hb, ?_⟩
        rw [hBl]
        refine ⟨by rw [bvl_length, hBl]; omega, .inr ⟨_, N, _, rfl, by omega, hk, Nat.le_refl _, by unfold maxLen; omega, by rw [roomOf_size (by rw [← hll]; omega)]; omega, ?_⟩⟩
        rw [← hll, hB, roomOf]
        simp only [Nat.mul_one]
        exact List.take_of_length_le (by rw [bvl_length, List.length_append, List.length_replicate]; omega)
    · have hp := packs_none l ws j x z j1 j2 j3
      have hE : packE l ws (N : Int) = 34 := by simp [packE, hm, hp]
      have hB : packB l ws (N : Int) = [] := by simp [packB, hm, hp]
      refine none_ 34 hE hB (pack_gives A0 A1 n0 c0 n0 c1 (N : Int) 34 w (fun W hW => ?_))
      obtain ⟨b0, b1, b2, b3, hbel, hsz⟩ := boxes w _ _ _ _ _ _ _ _ W hW
      have k0 := blk_cell0 (b0.alloc (.cells #[.int .i64 0] 26))
      have k1 := blk_cell0 (b1.alloc (.cells #[.int .i64 0] 26))
      have k2 := blk_cell0 (b2.alloc (.cells #[.int .i64 0] 26))
      have b3' := b3.alloc (.cells #[.int .i64 0] 26)
      exact pack1_over _ _ _ _ A0 A1 n0 c0 c1 N l ws (.slice none 0 0) _ hn ((hl.below hbel).alloc (.cells #[.int .i64 0] 26)) ((hr.below hbel).alloc (.cells #[.int .i64 0] 26)) m2 m3 (by omega) j x z j1 j2 j3 h64 j4 k0 k1 k2 (blk_cell0 b3') (b3'.frozen 0)
end Go.Proofs.Ytifamhmiibhohaa.Wire

namespace Go.Proofs.Ytifamhmiibhohaa.Wire
open Go.RowKit
set_option maxHeartbeats 8000000
set_option maxRecDepth 100000
set_option linter.unusedVariables false
set_option linter.unusedSimpArgs false

theorem take_ne {α : Type} {x y : List α} {k : Nat} {c d : α} (hx : x[k]? = some c) (hy : y[k]? = some d) (h : c ≠ d) : x ≠ y := by
  rintro rfl; rw [hx] at hy; injection hy with hy; exact h hy
theorem take_eq {α : Type} {x y : List α} {k : Nat} {c : α} (hx : x[k]? = some c) (hy : y[k]? = some c) (h : x.take k = y.take k) : x.take (k + 1) = y.take (k + 1) := by
  rw [List.take_add_one, List.take_add_one, hx, hy, h]
theorem take_all {α : Type} {x y : List α} {n : Nat} (hx : x.length = n) (hy : y.length = n) (h : x.take n = y.take n) : x = y := by
  rw [List.take_of_length_le (by omega), List.take_of_length_le (by omega)] at h; exact h

theorem same_any (A B : Option Addr) (n m ca cb : Nat) (x y : List UInt8) (w : World) (hn : n ≤ 1125899906842624000) (ha : BytesAt w A n x) (hb : BytesAt w B m y) :
    Calls Try.prog 10 #[.slice A n ca, .slice B m cb] w fun e w' => e = .returned (.bool (x == y)) ∧ ∃ k, w' = w.drewN k := by
  have lx : x.length = n := by have := ha.len; exact this
  have ly : y.length = m := by have := hb.len; exact this
  by_cases hnm : n = m
  · subst hnm
    have HA := Lib.hid ha
    have HB := Lib.hid hb
    have HL := Lib.hid (And.intro lx ly)
    clear ha hb lx ly
    go_enter Try.func10, Try.ntmps10
    go_wp2_with fail
    go_loopw [5] (fun i wr => ∃ k : Nat, k ≤ n ∧ i = .int .i64 k ∧ x.take k = y.take k ∧ ∃ q, wr = w.drewN q) (fun i _ => n - (intOf i).toNat)
    case atStart => exact ⟨0, by omega, rfl, by simp, 0, rfl⟩
    case round =>
      obtain ⟨k, hk, rfl, htk, q, rfl⟩ := hrel
      have HT := Lib.hid htk
      clear htk
      by_cases hlt : k < n
      · obtain ⟨a, c, rfl, hx, hc⟩ := HA.out.at_ hlt
        obtain ⟨b, d, rfl, hy, hd⟩ := HB.out.at_ hlt
        have HX := Lib.hid hx
        have HY := Lib.hid hy
        clear hx hy
        by_cases hcd : c = d
        · subst hcd
          have hq : ((c.toNat : Int) != (c.toNat : Int)) = false := by simp
          go_wp2_with fail
          go_quiet (fail)
          go_wp2_with fail
          go_roundw
          case rel => exact ⟨k + 1, by omega, by go_num, take_eq HX.out HY.out HT.out, _, by first | rfl | rw [World.drewN_drewN]⟩
          case measure => simp [intOf]; omega
        · have hq : ((c.toNat : Int) != (d.toNat : Int)) = true := by
            simp only [bne_iff_ne, ne_eq]
            intro h; exact hcd (UInt8.toNat_inj.mp (by omega))
          have hxy := take_ne HX.out HY.out hcd
          go_wp2_with fail
          go_quiet (fail)
          go_wp2_with fail
          go_ret
          exact ⟨ret_bool (by simpa using hxy), _, by first | rfl | rw [World.drewN_drewN]⟩
      · obtain rfl : k = n := by omega
        have hxy := take_all HL.out.1 HL.out.2 HT.out
        go_wp2_with fail
        go_ret
        exact ⟨ret_bool (by simpa using hxy), _, by first | rfl | rw [World.drewN_drewN]⟩
  · have hd : ((n : Int) != (m : Int)) = true := by simp; omega
    have hxy : x ≠ y := by rintro rfl; omega
    have HXY := Lib.hid hxy
    clear hxy hnm ha hb
    go_enter Try.func10, Try.ntmps10
    go_wp2_with fail
    go_ret
    exact ⟨ret_bool (by simpa using HXY.out), 0, rfl⟩

end Go.Proofs.Ytifamhmiibhohaa.Wire

namespace Go.Proofs.Ytifamhmiibhohaa.Wire
open Go.RowKit
set_option maxHeartbeats 8000000
set_option maxRecDepth 100000
set_option linter.unusedVariables false
set_option linter.unusedSimpArgs false

attribute [local irreducible] stpN

theorem rem2 (a : BitVec 32) : (Int.tmod (a.toNat : Int) 2 == 1) = a.getLsbD 0 := by
  have h : Int.tmod (a.toNat : Int) 2 = ((a.toNat % 2 : Nat) : Int) := by rw [Int.tmod_eq_emod_of_nonneg (by omega)]; omega
  rw [h, BitVec.getLsbD, Nat.testBit_zero]
  rcases Nat.mod_two_eq_zero_or_one a.toNat with e | e <;> simp [e]
theorem rem2e (a : BitVec 32) : (((a.toNat : Int) % 2) == 1) = a.getLsbD 0 := by
  have h : (a.toNat : Int) % 2 = ((a.toNat % 2 : Nat) : Int) := by omega
  rw [h, BitVec.getLsbD, Nat.testBit_zero]
  rcases Nat.mod_two_eq_zero_or_one a.toNat with e | e <;> simp [e]

theorem ref_crc (s : BitVec 32) (A : Option Addr) (n cap : Nat) (bs : List UInt8) (w : World) (hn : n ≤ 9223372036854775807) (hb : BytesAt w A n bs) :
    Calls Try.prog 12 #[.int .u32 (s.toNat : Int), .slice A n cap] w fun e w' => e = .returned (.int .u32 ((crc s bs).toNat : Int)) ∧ w = w' := by
  have HBY := Lib.hid hb
  clear hb
  have hsg : IntKind.u32.signed = false := rfl
  have hnot := u32_not s
  go_enter Try.func12, Try.ntmps12
  go_wp2_with fail
  go_loop [5, 6] (fun x i => ∃ k : Nat, k ≤ n ∧ i = .int .i64 k ∧ x = .int .u32 ((crcF (~~~ s) (bs.take k)).toNat : Int)) (fun _ i => n - (intOf i).toNat)
  case atStart => exact ⟨0, by omega, rfl, by rw [List.take_zero, crcF_nil]; simp⟩
  case round =>
    clear hnot
    obtain ⟨k, hk, rfl, rfl⟩ := hrel
    by_cases hlt : k < n
    · obtain ⟨a, c, rfl, hx, hc⟩ := HBY.out.at_ hlt
      have hs : crcF (~~~ s) (bs.take (k + 1)) = stpN 8 (xb (crcF (~~~ s) (bs.take k)) c) := by
        rw [List.take_add_one, hx]; exact crcF_snoc _ _ _
      have HS := Lib.hid hs
      have HX := Lib.hid hx
      clear hs hx
      generalize crcF (~~~ s) (bs.take k) = y at HS ⊢
      have q1 := u32_xb y c
      have c1 : (c.toNat : Int) < 256 := by have := c.toNat_lt; omega
      have c2 : (y.toNat : Int) < 4294967296 := by have := y.isLt; omega
      go_wp2_with fail
      clear q1
      generalize xb y c = z at HS ⊢
      go_loop [5, 7] (fun x i => ∃ j : Nat, j ≤ 8 ∧ i = .int .i64 j ∧ x = .int .u32 ((stpN j z).toNat : Int)) (fun _ i => 8 - (intOf i).toNat)
      case atStart => exact ⟨0, by omega, rfl, by rw [stpN_zero]⟩
      case round =>
        obtain ⟨j, hj, rfl, rfl⟩ := hrel
        by_cases hj8 : (j : Int) < 8
        · have h0 := rem2 (stpN j z)
          have h0' := rem2e (stpN j z)
          have h1 : ((stpN j z).toNat : Int) < 4294967296 := by have := (stpN j z).isLt; omega
          have hp : bits .xor .u32 (((stpN j z).toNat : Int) / 2) 2197175160 = (((stpN j z >>> 1) ^^^ poly).toNat : Int) := by
            rw [u32_half]; exact u32_xor (stpN j z >>> 1) poly
          have hs := stpN_succ j z
          have hq := u32_half (stpN j z)
          have HS2 := Lib.hid hs
          have HP := Lib.hid hp
          have HQ := Lib.hid hq
          clear hs hp hq
          cases hb : (stpN j z).getLsbD 0
          · rw [hb] at h0 h0'
            have HB := Lib.hid hb
            clear hb
            go_wp2_with fail
            go_round
            case rel => exact ⟨j + 1, by omega, by go_num, by rw [HQ.out, HS2.out, HB.out]; simp⟩
            case measure => simp [intOf]; omega
          · rw [hb] at h0 h0'
            have HB := Lib.hid hb
            clear hb
            go_wp2_with fail
            go_round
            case rel => exact ⟨j + 1, by omega, by go_num, by rw [HP.out, HS2.out, HB.out]; simp⟩
            case measure => simp [intOf]; omega
        · obtain rfl : j = 8 := by omega
          go_wp2_with fail
          go_round
          case rel => exact ⟨k + 1, by omega, by go_num, by rw [HS.out]⟩
          case measure => simp [intOf]; omega
    · obtain rfl : k = n := by omega
      have hs : bs.take k = bs := List.take_of_length_le (by have := HBY.out.len; omega)
      rw [hs]
      have hcr := crc_eq s bs
      have HC := Lib.hid hcr
      clear hs hcr
      generalize crcF (~~~ s) bs = y at HC ⊢
      have hnot := u32_not y
      go_wp2_with fail
      go_ret
      exact ⟨ret_int (by rw [HC.out]; simp), rfl⟩
end Go.Proofs.Ytifamhmiibhohaa.Wire
