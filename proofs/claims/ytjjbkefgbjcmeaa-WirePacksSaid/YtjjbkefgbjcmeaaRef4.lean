/-
  THE WALKS of layer 1's reference: Unpack, Pack.
-/
import Derived.Test.YtjjbkefgbjcmeaaWire10
import Derived.Test.YtjjbkefgbjcmeaaLaw2
namespace Go.Proofs.Ytjjbkefgbjcmeaa.Wire
open Go.RowKit
set_option maxHeartbeats 16000000
set_option maxRecDepth 100000
set_option linter.unusedVariables false
set_option linter.unusedSimpArgs false

theorem ref_unpack_no (A0 A1 : Option Addr) (n c0 len c1 : Nat) (ws : List Int) (bs : List UInt8) (w : World) (hn : n ≤ 1125899906842624) (hlen : len ≤ 9223372036854775807) (hr : RowAt w A0 n (ints ws)) (hbl : bs.length = len) (hm : umay bs ws = false) :
    Calls Try.prog 29 #[.slice A1 len c1, .slice A0 n c0] w fun e w' => e = .returned (.tuple #[.slice none 0 0, .int .i64 22]) ∧ w = w' := by
  have HS := Lib.hid (ref_sum A0 n c0 ws w hn hr)
  cases hw : wok ws
  · rw [hw] at HS
    simp only [Bool.false_eq_true, if_false] at HS
    clear hr hm hw
    go_enter Try.func29, Try.ntmps29
    go_wp2_with (go_at_call 43; refine HS.out.mono ?_; rintro e w' ⟨rfl, rfl⟩)
    go_ret2
    exact ⟨rfl, rfl⟩
  · rw [hw] at HS
    simp only [if_true] at HS
    have hne : ((len : Int) != ws.sum) = true := by
      simp [umay, hw, hbl] at hm
      simp; omega
    clear hr hm hw
    go_enter Try.func29, Try.ntmps29
    go_wp2_with (go_at_call 43; refine HS.out.mono ?_; rintro e w' ⟨rfl, rfl⟩)
    go_ret2
    exact ⟨rfl, rfl⟩

theorem ref_unpack_ok (A0 A1 : Option Addr) (n c0 len c1 : Nat) (ws : List Int) (bs : List UInt8) (w : World) (hn : n ≤ 17592186044415) (hl : len ≤ c1) (hc1 : c1 ≤ 9223372036854775807)
    (hr : RowAt w A0 n (ints ws)) (hb : BytesAt w A1 len bs) (hw : wok ws = true) (hs : ws.sum = (len : Int)) :
    Calls Try.prog 29 #[.slice A1 len c1, .slice A0 n c0] w fun e w' => ∃ v, e = .returned (.tuple #[v, .int .i64 0]) ∧ Below w.heap.size w w' ∧
      w'.ownsRow w.heap.size 30 1 v n (nums (unpacks bs ws)) := by
  have hlw : ws.length = n := by have := hr.len; simpa [ints] using this
  have hbl := hb.len
  have HSM := Lib.hid (ref_sum A0 n c0 ws w (by omega) hr)
  rw [hw, hs] at HSM
  simp only [if_true] at HSM
  have hd : ((len : Int) != (len : Int)) = false := by simp
  have HW := Lib.hid hw
  have HR := Lib.hid hr
  have HB := Lib.hid hb
  have HS := Lib.hid hs
  have HLW := Lib.hid hlw
  have HBL := Lib.hid hbl
  clear hr hb hw hs hlw hbl
  go_enter Try.func29, Try.ntmps29
  go_wp2_with (go_at_call 43; refine HSM.out.mono ?_; rintro e w' ⟨rfl, rfl⟩)
  clear hd HSM
  go_loopw [8, 9, 10] (fun o a i wr => ∃ (k s : Nat), k ≤ n ∧ i = .int .i64 k ∧ (s : Int) = (ws.take k).sum ∧ a = .int .i64 s ∧
    wr.ownsRow w.heap.size 30 1 o k (nums ((unpacks bs ws).take k)) ∧ Below w.heap.size w wr) (fun _ _ i _ => n - (intOf i).toNat)
  case atStart => exact ⟨0, 0, by omega, rfl, by simp, rfl, World.ownsRow_nil _ _ _ _, Below.refl _ _⟩
  case round =>
    obtain ⟨k, s, hk, rfl, hs, rfl, hown, hbel⟩ := hrel
    obtain ⟨s0, s1⟩ := wsum_mono HW.out k
    have hS := HS.out
    have hsz := hbel.size
    by_cases hlt : k < n
    · obtain ⟨aw, z, rfl, hz, hcz0⟩ := HR.out.int_at hlt
      have hlt0 := World.block_lt_of_cell? w _ hcz0
      have hcz := (hbel.cell hlt0).trans hcz0
      obtain ⟨z1, z2⟩ := wok_at HW.out hz
      obtain ⟨zn, rfl⟩ := Int.eq_ofNat_of_zero_le (by omega : 0 ≤ z)
      obtain ⟨s3, s4⟩ := wsum_mono HW.out (k + 1)
      have hss := wsum_succ hz
      have hrest : s + zn ≤ len := by omega
      have hun := unpacks_at ws bs k _ HW.out hz
      rw [← hs, Int.toNat_natCast, Int.toNat_natCast] at hun
      have hf : fits len (s : Int) (zn : Int) = true := fits_mk (by omega) (by omega) (by omega) (by omega)
      have hgx : getX bs (s : Int) (zn : Int) = num ((bs.drop s).take zn) := by rw [getX, HBL.out, if_pos hf, sub, Int.toNat_natCast, Int.toNat_natCast]
      have hge : getE len (s : Int) (zn : Int) = 0 := by rw [getE, if_pos hf]
      have HG := Lib.hid (ref_get A1 len c1 (s : Int) (zn : Int) bs wr hl hc1 (HB.out.below hbel))
      rw [hgx, hge] at HG
      generalize num ((bs.drop s).take zn) = y at hun HG
      have htk : (unpacks bs ws).take (k + 1) = (unpacks bs ws).take k ++ [y] := by rw [List.take_add_one, hun]; rfl
      have X5 := Lib.hid hown
      have X6 := Lib.hid hbel
      have X7 := Lib.hid htk
      have X9 := Lib.hid hs
      have XS := Lib.hid hss
      have hS2 := Lib.hid hS
      clear hown hbel htk hun hz hs hss hf hgx hge hS
      have i1 : IntKind.i64.wrap ((s : Int) + (zn : Int)) = (s : Int) + (zn : Int) := by rw [IntKind.wrap_i64]; omega
      go_wp2_with (first
        | (go_at_call 19; refine HG.out.mono ?_; rintro e w' ⟨rfl, rfl⟩)
        | (at_builtin
           refine app_u64 _ rfl (.tmp 42) (.tmp 44) rfl w.heap.size u8 k (nums ((unpacks bs ws).take k)) rfl (X5.out.alloc _) ⟨wr.heap.size, 0, none⟩ 1 y rfl (by simp) (by omega) (by simp; omega) ?_
           intro v' w2 hown2 hg2
           have bel2 := Lib.hid (below_row (X6.out.alloc hsz (.cells #[.int .u64 (y : Int)] 30)) hg2 (fun g e => (X5.out.lt g e).1) (by simp; omega))
           have own2 := Lib.hid hown2
           have hc2 := (bel2.out.cell hlt0).trans hcz0
           clear hown2 hg2))
      go_roundw
      case rel => exact ⟨k + 1, s + zn, by omega, by go_num, by rw [XS.out, ← X9.out]; omega, by go_num, by rw [X7.out, nums, List.map_append]; exact own2.out, bel2.out⟩
      case measure => simp [intOf]; omega
    · obtain rfl : k = n := by omega
      have hul : (unpacks bs ws).take k = unpacks bs ws := List.take_of_length_le (by rw [unpacks_length, HLW.out]; exact Nat.le_refl _)
      rw [hul] at hown
      have X5 := Lib.hid hown
      have X6 := Lib.hid hbel
      clear hown hbel hul hs hS
      go_wp2_with fail
      go_ret2
      exact ⟨_, rfl, X6.out, X5.out⟩

theorem ref_unpack_any (A0 A1 : Option Addr) (n c0 len c1 : Nat) (ws : List Int) (bs : List UInt8) (w : World) (hn : n ≤ 17592186044415) (hl : len ≤ c1) (hc1 : c1 ≤ 9223372036854775807)
    (hr : RowAt w A0 n (ints ws)) (hb : BytesAt w A1 len bs) :
    Calls Try.prog 29 #[.slice A1 len c1, .slice A0 n c0] w fun e w' => ∃ v, e = .returned (.tuple #[v, .int .i64 (unpackE bs ws)]) ∧ Below w.heap.size w w' ∧
      w'.ownsRow w.heap.size 30 1 v (unpackX bs ws).length (nums (unpackX bs ws)) := by
  have hlw : ws.length = n := by have := hr.len; simpa [ints] using this
  have hbl := hb.len
  cases hm : umay bs ws
  · have hE : unpackE bs ws = 22 := by simp [unpackE, hm]
    have hX : unpackX bs ws = [] := by simp [unpackX, hm]
    rw [hE, hX]
    exact (ref_unpack_no A0 A1 n c0 len c1 ws bs w (by omega) (by omega) hr hbl hm).mono fun e w' ⟨he, hbel⟩ => ⟨_, he, hbel ▸ Below.refl _ _, World.ownsRow_nil _ _ _ _⟩
  · have hE : unpackE bs ws = 0 := by simp [unpackE, hm]
    have hX : unpackX bs ws = unpacks bs ws := by simp [unpackX, hm]
    simp only [umay, Bool.and_eq_true, decide_eq_true_eq] at hm
    obtain ⟨hw, hs⟩ := hm
    rw [hbl] at hs
    rw [hE, hX, unpacks_length, hlw]
    exact ref_unpack_ok A0 A1 n c0 len c1 ws bs w hn hl hc1 hr hb hw hs
end Go.Proofs.Ytjjbkefgbjcmeaa.Wire
