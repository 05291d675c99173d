
/-
  THE WALK of layer 1's law: awake.
-/
import Derived.Test.YtafonjnanfekkaaRef1
import Derived.Test.YtafonjnanfekkaaLaw2
import Derived.Test.YtafonjnanfekkaaWire8
import Derived.Lib.SlBytesConst
namespace Go.Proofs.Ytafonjnanfekkaa.Wire
open Go.RowKit
set_option maxHeartbeats 16000000
set_option maxRecDepth 100000
set_option linter.unusedVariables false
set_option linter.unusedSimpArgs false

theorem ex_crc : (((crc 0#32 [49, 50, 51, 52, 53, 54, 55, 56, 57]).toNat : Nat) : Int) = 3808858755 := by decide +kernel
theorem ex_getX : ((getX [1, 2, 3] 1 2 : Nat) : Int) = 770 := by decide +kernel
theorem ex_getE : getE 3 1 2 = 0 := by decide +kernel
theorem ex_getE2 : getE 3 2 2 = 22 := by decide +kernel
theorem ex_putE : putE 2 0 1 256 = 34 := by decide +kernel
theorem ex_packE : packE [5, 258] [1, 2] 4 = 0 := by decide +kernel
theorem ex_packB : packB [5, 258] [1, 2] 4 = [5, 2, 1, 0] := by decide +kernel
theorem ex_same : (([5, 2, 1, 0] : List UInt8) == [5, 2, 1, 0]) = true := by decide +kernel

theorem lit_bytes (w : World) (bs : List UInt8) (n : Nat) (hn : bs.length = n) (hm : n ≤ maxLen) : BytesAt (w.alloc (.cells (bvl bs).toArray 5)) (some ⟨w.heap.size, 0, none⟩) n bs := by
  have := World.ownsRow_lit (base := 0) (e := 5) (size := 1) w (bvl bs).toArray n (Nat.zero_le _) hm (by simp [bvl]; omega)
  exact BytesAt.of_own (by simpa using this)
theorem lit_own (w : World) (bs : List UInt8) (n : Nat) (hn : bs.length = n) (hm : n ≤ maxLen) : (w.alloc (.cells (bvl bs).toArray 5)).ownsRow w.heap.size 5 1 (.slice (some ⟨w.heap.size, 0, none⟩) n n) n (bvl bs) := by
  have := World.ownsRow_lit (base := w.heap.size) (e := 5) (size := 1) w (bvl bs).toArray n (Nat.le_refl _) hm (by simp [bvl]; omega)
  simpa using this
theorem lit_row (w : World) (t : TypeId) (vs : List Value) (n : Nat) (hn : vs.length = n) (hm : n ≤ maxLen) : RowAt (w.alloc (.cells vs.toArray t)) (some ⟨w.heap.size, 0, none⟩) n vs := by
  have := World.ownsRow_lit (base := 0) (e := t) (size := 1) w vs.toArray n (Nat.zero_le _) hm (by simp; omega)
  exact RowAt.of_own (by simpa using this)

theorem lit_row' (w : World) (t : TypeId) (vs : List Value) (n g : Nat) (hn : vs.length = n) (hm : n ≤ maxLen) (hg : g = w.heap.size) : RowAt (w.alloc (.cells vs.toArray t)) (some ⟨g, 0, none⟩) n vs := by
  subst hg; exact lit_row w t vs n hn hm
theorem lit_bytes' (w : World) (bs : List UInt8) (n g : Nat) (hn : bs.length = n) (hm : n ≤ maxLen) (hg : g = w.heap.size) : BytesAt (w.alloc (.cells (bvl bs).toArray 5)) (some ⟨g, 0, none⟩) n bs := by
  subst hg; exact lit_bytes w bs n hn hm

theorem lit_marked (w : World) (bs : List UInt8) (n : Nat) (fz : Nat × Nat) (hn : bs.length = n) : BytesAt (w.alloc (.cells (bvl bs).toArray 5 fz)) (some ⟨w.heap.size, 0, none⟩) n bs := by
  refine ⟨hn, fun _ => ⟨_, rfl, fun i c hi => ?_⟩⟩
  rw [add_plain, Nat.zero_add, cell_of_row _ _ i _ _ fz (heap_alloc_new w _), List.getElem?_toArray, bvl_get, hi]
  rfl

attribute [local irreducible] crc getX getE putE packE packB

theorem awake_true (w : World) : Calls Try.prog 15 #[] w fun e w' => e = .returned (.bool true) ∧ Below w.heap.size w w' := by
  have hmax : (9 : Nat) ≤ maxLen := by unfold maxLen; omega
  have kc := fun (w : World) (C : Array Value) (n c : Nat) => Lib.run_convert_bytes_const (P := Try.prog) w 26 5 C n c Try.underlying26 Try.underlying5
  go_enter Try.func15, Try.ntmps15
  go_wp2_with fail
  refine (get_any _ 3 3 1 2 [1, 2, 3] _ (by omega) (by omega) (lit_bytes w [1, 2, 3] 3 rfl (by omega))).mono ?_
  rintro e w1 ⟨rfl, hb1⟩
  rw [ex_getX, ex_getE]
  have B1 := Lib.hid (below_of_new hb1)
  clear hb1
  go_wp2_with fail
  refine (get_any _ 3 3 2 2 [1, 2, 3] _ (by omega) (by omega) (lit_bytes w1 [1, 2, 3] 3 rfl (by omega))).mono ?_
  rintro e w2 ⟨rfl, hb2⟩
  rw [ex_getE2]
  generalize getX [1, 2, 3] 2 2 = junk
  have B2 := Lib.hid (below_all B1.out B1.out.size (below_of_new hb2))
  clear hb2 B1
  go_wp2_with fail
  refine (put_row w2.heap.size w2.heap.size 2 2 2 [0, 0] [] 0 1 256 _ (by omega) rfl (by omega) (lit_own w2 [0, 0] 2 rfl (by omega))).mono ?_
  rintro e w3 ⟨rfl, _, hg3⟩
  rw [ex_putE]
  have B3 := Lib.hid (below_only (B2.out.alloc B2.out.size _) hg3 (fun g e => by injection e with e; have := B2.out.size; omega))
  clear hg3 B2
  go_wp2_with fail
  refine (pack_any _ _ 2 2 2 2 [5, 258] [1, 2] 4 _ (by omega) (by simp) ((lit_row w3 84 (nums [5, 258]) 2 rfl (by omega)).alloc _) (lit_row' (w3.alloc _) 3 (ints [1, 2]) 2 _ rfl (by omega) (by simp))).mono ?_
  rintro e w4 ⟨v, rfl, hb4, hown⟩
  rw [ex_packB] at hown
  rw [ex_packE]
  obtain ⟨A, cap, rfl, hby, hc1, hc2, _, _⟩ := own_slice hown
  have B4 := Lib.hid (below_all (B3.out.alloc B3.out.size _) (by have := B3.out.size; simp; omega) (below_of_new hb4))
  have HBY := Lib.hid hby
  clear hown hby hb4 B3
  have h63 : cap ≤ 9223372036854775807 := by unfold maxLen at hc2; omega
  clear hc2
  simp only [List.length_cons, List.length_nil, Nat.zero_add, Nat.reduceAdd]
  go_wp2_with fail
  refine (crc_any 0#32 _ 9 9 [49, 50, 51, 52, 53, 54, 55, 56, 57] _ (by omega) (lit_marked w4 [49, 50, 51, 52, 53, 54, 55, 56, 57] 9 (9, 10) rfl)).mono ?_
  rintro e w5 ⟨rfl, rfl⟩
  rw [ex_crc]
  go_wp2_with fail
  refine (same_any _ _ 4 4 cap 4 [5, 2, 1, 0] [5, 2, 1, 0] _ (by omega) ((HBY.out.alloc _).alloc _) (lit_bytes' (w4.alloc _) [5, 2, 1, 0] 4 _ rfl (by omega) (by simp))).mono ?_
  rintro e w6 ⟨rfl, q, rfl⟩
  rw [ex_same]
  go_wp2_with fail
  go_ret
  exact ⟨rfl, below_drewN ((B4.out.alloc B4.out.size _).alloc (by have := B4.out.size; simp; omega) _) _⟩
end Go.Proofs.Ytafonjnanfekkaa.Wire
