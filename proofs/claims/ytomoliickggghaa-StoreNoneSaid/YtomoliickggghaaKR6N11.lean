
/-
  layer 6 (store): a store that was never made: nil, or a box of noughts.
-/
import Derived.Test.YtomoliickggghaaKR6N10
namespace Go.Proofs.Ytomoliickggghaa.Mem
open Go.RowKit Go.Proofs.Ytomoliickggghaa Go.Proofs.Ytomoliickggghaa.Wire Go.Maps Go.Sort Go.Shelf Go.Proofs
set_option maxHeartbeats 8000000
set_option maxRecDepth 100000
set_option linter.unusedVariables false
set_option linter.unusedSimpArgs false

def zcells : Array Value := #[.pointer none, .int .i64 0, .map none, .map none, .map none, .slice none 0 0, .slice none 0 0, .int .i64 0, .int .i64 0]
def Never (w : World) (v : Value) : Prop := v = .pointer none ∨ ∃ g, v = ptr g ∧ Blk w g 60 zcells
theorem Never.below {w w' : World} {v : Value} (h : Never w v) (hb : Below w.heap.size w w') : Never w' v := by
  rcases h with h | ⟨g, h, k⟩
  · exact .inl h
  · exact .inr ⟨g, h, k.belowAll hb⟩
theorem nblocks (w : World) (v : Value) (h : Never w v) : Calls Try.prog 29 #[v] w fun e w' => e = .returned (.int .i64 0) ∧ w = w' := by
  rcases h with rfl | ⟨g, rfl, k⟩
  · exact sblocks_nil w
  · have c0 : w.cell? ⟨g, 0, none⟩ = some (.pointer none) := k.cell 0
    clear k
    unfold ptr
    go_enter Try.func29, Try.ntmps29
    go_wp2_with fail
    refine (blocks_nil w).mono ?_
    rintro e w' ⟨rfl, rfl⟩
    go_wp2_with fail
    go_ret
    exact ⟨rfl, rfl⟩
theorem nhas (w : World) (v : Value) (n : Int) (h : Never w v) : Calls Try.prog 38 #[v, .int .i64 n] w fun e w' => e = .returned (.bool false) ∧ w = w' := by
  have HB := Lib.hid (nblocks w v h)
  by_cases h0 : 0 ≤ n
  · have hd : decide (n < 0) = false := by simp; omega
    have hd2 : ¬ n < 0 := by omega
    rcases h with rfl | ⟨g, rfl, k⟩
    · go_enter Try.func38, Try.ntmps38
      go_wp2_with fail
      refine HB.out.mono ?_
      rintro e w' ⟨rfl, rfl⟩
      go_wp2_with fail
      go_ret
      first | exact ⟨rfl, rfl⟩ | exact ⟨ret_bool hd, rfl⟩
    · clear k
      unfold ptr at *
      go_enter Try.func38, Try.ntmps38
      go_wp2_with fail
      refine HB.out.mono ?_
      rintro e w' ⟨rfl, rfl⟩
      go_wp2_with fail
      go_ret
      first | exact ⟨rfl, rfl⟩ | exact ⟨ret_bool hd, rfl⟩
  · go_enter Try.func38, Try.ntmps38
    go_wp2_with fail
    go_ret
    exact ⟨rfl, rfl⟩
theorem nread (w : World) (v : Value) (n : Int) (h : Never w v) : Calls Try.prog 17 #[v, .int .i64 n] w fun e w' => e = .returned (.tuple #[.slice none 0 0, .int .i64 5]) ∧ w = w' := by
  have HH := Lib.hid (nhas w v n h)
  rcases h with rfl | ⟨g, rfl, k⟩
  · go_enter Try.func17, Try.ntmps17
    go_wp2_with fail
    refine HH.out.mono ?_
    rintro e w' ⟨rfl, rfl⟩
    go_wp2_with fail
    go_ret2
    exact ⟨rfl, rfl⟩
  · clear k
    unfold ptr at *
    go_enter Try.func17, Try.ntmps17
    go_wp2_with fail
    refine HH.out.mono ?_
    rintro e w' ⟨rfl, rfl⟩
    go_wp2_with fail
    go_ret2
    exact ⟨rfl, rfl⟩
theorem nwrite (w : World) (v : Value) (n : Int) (A : Option Addr) (l c : Nat) (h : Never w v) : Calls Try.prog 12 #[v, .int .i64 n, .slice A l c] w fun e w' => e = .returned (.int .i64 5) ∧ Below w.heap.size w w' := by
  obtain ⟨w1, hw1⟩ : ∃ w1, (w.alloc (.cells #[v] 28)).alloc (.cells #[.int .i64 n] 3) = w1 := ⟨_, rfl⟩
  have B1 := Lib.hid (show Below w.heap.size w w1 by rw [← hw1]; exact (((Below.refl w.heap.size w).alloc (Nat.le_refl _) _).alloc (by simp) _))
  have c3 : w1.cell? ⟨w.heap.size, 0, none⟩ = some v := by rw [← hw1]; exact ((Blk.new w _ _).alloc _).cell 0
  have c4 : w1.cell? ⟨w.heap.size + 1, 0, none⟩ = some (.int .i64 n) := by
    rw [← hw1]
    simp
  have HH := Lib.hid (nhas w1 v n (h.below B1.out))
  have HW1 := Lib.hid hw1
  clear hw1
  rcases h with rfl | ⟨g, rfl, k⟩
  · go_enter Try.func12, Try.ntmps12
    go_wp2_with (rw [HW1.out])
    refine HH.out.mono ?_
    rintro e w' ⟨rfl, rfl⟩
    go_wp2_with fail
    go_ret
    exact ⟨rfl, B1.out⟩
  · clear k
    unfold ptr at *
    go_enter Try.func12, Try.ntmps12
    go_wp2_with (rw [HW1.out])
    refine HH.out.mono ?_
    rintro e w' ⟨rfl, rfl⟩
    go_wp2_with fail
    go_ret
    exact ⟨rfl, B1.out⟩
theorem nhold (w : World) (v : Value) (n : Int) (h : Never w v) : Calls Try.prog 14 #[v, .int .i64 n] w fun e w' => e = .returned (.int .i64 22) ∧ Below w.heap.size w w' := by
  obtain ⟨w1, hw1⟩ : ∃ w1, w.alloc (.cells #[.int .i64 n] 3) = w1 := ⟨_, rfl⟩
  have B1 := Lib.hid (show Below w.heap.size w w1 by rw [← hw1]; exact (Below.refl w.heap.size w).alloc (Nat.le_refl _) _)
  have c3 : w1.cell? ⟨w.heap.size, 0, none⟩ = some (.int .i64 n) := by rw [← hw1]; exact (Blk.new w _ _).cell 0
  have HH := Lib.hid (nhas w1 v n (h.below B1.out))
  have HW1 := Lib.hid hw1
  clear hw1
  rcases h with rfl | ⟨g, rfl, k⟩
  · go_enter Try.func14, Try.ntmps14
    go_wp2_with (rw [HW1.out])
    refine HH.out.mono ?_
    rintro e w' ⟨rfl, rfl⟩
    go_wp2_with fail
    go_ret
    exact ⟨rfl, B1.out⟩
  · clear k
    unfold ptr at *
    go_enter Try.func14, Try.ntmps14
    go_wp2_with (rw [HW1.out])
    refine HH.out.mono ?_
    rintro e w' ⟨rfl, rfl⟩
    go_wp2_with fail
    go_ret
    exact ⟨rfl, B1.out⟩
theorem nheld (w : World) (v : Value) (n : Int) (h : Never w v) : Calls Try.prog 20 #[v, .int .i64 n] w fun e w' => e = .returned (.bool false) ∧ w = w' := by
  have HH := Lib.hid (nhas w v n h)
  rcases h with rfl | ⟨g, rfl, k⟩
  · go_enter Try.func20, Try.ntmps20
    go_wp2_with fail
    refine HH.out.mono ?_
    rintro e w' ⟨rfl, rfl⟩
    go_wp2_with fail
    go_ret
    exact ⟨rfl, rfl⟩
  · clear k
    unfold ptr at *
    go_enter Try.func20, Try.ntmps20
    go_wp2_with fail
    refine HH.out.mono ?_
    rintro e w' ⟨rfl, rfl⟩
    go_wp2_with fail
    go_ret
    exact ⟨rfl, rfl⟩
theorem nmark (w : World) (v : Value) (h : Never w v) : Calls Try.prog 18 #[v] w fun e w' => e = .returned (.int .i64 0) ∧ w = w' := by
  rcases h with rfl | ⟨g, rfl, k⟩
  · exact smark_nil w
  · have c5 : w.cell? ⟨g, 5, none⟩ = some (.slice none 0 0) := k.cell 5
    clear k
    unfold ptr
    go_enter Try.func18, Try.ntmps18
    go_wp2_with fail
    go_ret
    exact ⟨rfl, rfl⟩
theorem nback (w : World) (v : Value) (m : Int) (h : Never w v) : Calls Try.prog 21 #[v, .int .i64 m] w fun e w' => e = .returned (.int .i64 22) ∧ w = w' := by
  have HB := Lib.hid (nblocks w v h)
  rcases h with rfl | ⟨g, rfl, k⟩
  · go_enter Try.func21, Try.ntmps21
    go_wp2_with fail
    refine HB.out.mono ?_
    rintro e w' ⟨rfl, rfl⟩
    go_wp2_with fail
    go_ret
    exact ⟨rfl, rfl⟩
  · clear k
    unfold ptr at *
    go_enter Try.func21, Try.ntmps21
    go_wp2_with fail
    refine HB.out.mono ?_
    rintro e w' ⟨rfl, rfl⟩
    go_wp2_with fail
    go_ret
    exact ⟨rfl, rfl⟩
theorem nhome (w : World) (v : Value) (n : Int) (h : Never w v) : Calls Try.prog 16 #[v, .int .i64 n] w fun e w' => e = .returned (.int .i64 22) ∧ w = w' := by
  have HH := Lib.hid (nhas w v n h)
  rcases h with rfl | ⟨g, rfl, k⟩
  · go_enter Try.func16, Try.ntmps16
    go_wp2_with fail
    refine HH.out.mono ?_
    rintro e w' ⟨rfl, rfl⟩
    go_wp2_with fail
    go_ret
    exact ⟨rfl, rfl⟩
  · clear k
    unfold ptr at *
    go_enter Try.func16, Try.ntmps16
    go_wp2_with fail
    refine HH.out.mono ?_
    rintro e w' ⟨rfl, rfl⟩
    go_wp2_with fail
    go_ret
    exact ⟨rfl, rfl⟩
theorem ncommit (w : World) (v : Value) (h : Never w v) : Calls Try.prog 15 #[v] w fun e w' => e = .returned (.slice none 0 0) ∧ w = w' := by
  have HB := Lib.hid (nblocks w v h)
  rcases h with rfl | ⟨g, rfl, k⟩
  · go_enter Try.func15, Try.ntmps15
    go_wp2_with fail
    refine HB.out.mono ?_
    rintro e w' ⟨rfl, rfl⟩
    go_wp2_with fail
    go_ret
    exact ⟨rfl, rfl⟩
  · clear k
    unfold ptr at *
    go_enter Try.func15, Try.ntmps15
    go_wp2_with fail
    refine HB.out.mono ?_
    rintro e w' ⟨rfl, rfl⟩
    go_wp2_with fail
    go_ret
    exact ⟨rfl, rfl⟩
theorem nrelease (w : World) (v : Value) (h : Never w v) : Calls Try.prog 26 #[v] w fun e w' => e = .returned (.tuple #[]) ∧ w = w' := by
  have HB := Lib.hid (nblocks w v h)
  rcases h with rfl | ⟨g, rfl, k⟩
  · go_enter Try.func26, Try.ntmps26
    go_wp2_with fail
    refine HB.out.mono ?_
    rintro e w' ⟨rfl, rfl⟩
    go_wp2_with fail
    go_end0
    exact ⟨rfl, rfl⟩
  · clear k
    unfold ptr at *
    go_enter Try.func26, Try.ntmps26
    go_wp2_with fail
    refine HB.out.mono ?_
    rintro e w' ⟨rfl, rfl⟩
    go_wp2_with fail
    go_end0
    exact ⟨rfl, rfl⟩
theorem ncounts (w : World) (v : Value) (h : Never w v) : Calls Try.prog 27 #[v] w fun e w' => e = .returned (.tuple #[.int .i64 0, .int .i64 0]) ∧ ∃ k, w' = w.drewN k := by
  rcases h with rfl | ⟨g, rfl, k⟩
  · refine (scounts_nil w).mono ?_
    rintro e w' ⟨rfl, rfl⟩
    exact ⟨rfl, 0, rfl⟩
  · have c7 : w.drew.cell? ⟨g, 7, none⟩ = some (.int .i64 0) := k.cell 7
    have c8 : w.drew.cell? ⟨g, 8, none⟩ = some (.int .i64 0) := k.cell 8
    clear k
    unfold ptr
    go_enter Try.func27, Try.ntmps27
    go_wp2_with fail
    refine region_still (by kernel_rfl) (by kernel_rfl) ?_
    iterate 10 (refine still_take (v := ?_) (by kernel_rfl) ?_ (fun K hK => ?_); rotate_left; (· (go_simp; with_reducible rfl)); simp only [Act.put, List.setIfInBounds_toArray, List.set_cons_zero, List.set_cons_succ]; refine hK _ ?_; clear hK K)
    refine still_end ?_
    go_wp2_with fail
    go_ret2
    exact ⟨rfl, 1, rfl⟩
theorem sorted_nil (w : World) : Calls Try.prog 48 #[.func (.func 68) #[] #[.pointer (some ⟨w.heap.size, 0, none⟩)]] (w.alloc (.cells #[.map none] 55)) fun e w' => ∃ A c, e = .returned (.slice A 0 c) ∧ Below w.heap.size w w' := by
  have hseq : SeqGives Fence.wide 2 Try.prog 68 #[.pointer (some ⟨w.heap.size, 0, none⟩)] encZ (fun ss => ss = []) 0 (w.alloc (.cells #[.map none] 55)) :=
    AnyZI.keys_gives_nil (ρ := Try.keysA_ren) { Try.keysA with } Fence.wide _ trivial rfl w.heap.size _ (by simp) (by simp)
  have cS := AnyZI.sorted_in Try.sortedA Fence.wide 5 trivial trivial trivial trivial rfl (by omega) (sorts _) (enters_of Try.func67 (by kernel_rfl) rfl) 68 #[.pointer (some ⟨w.heap.size, 0, none⟩)] trivial (enters_of Try.func68 (by kernel_rfl) rfl) _ _ (by unfold maxLen; omega) (by omega) _ hseq
  change CallsIn _ _ Try.prog 48 _ _ _ at cS
  refine (callsIn_wide.1 cS).mono ?_
  rintro e w' ⟨v, ss, rfl, rfl, hrow, hnil, hb⟩
  simp only [List.mergeSort_nil, List.map_nil, List.length_nil] at hrow
  obtain ⟨A, c, rfl, _⟩ := row_len (show Row w' (fun _ => 0) 0 0 3 1 v 0 [] from ⟨ownsRow_base_a hrow (by simp), fun g _ => rfl⟩)
  exact ⟨A, c, rfl, ((Below.refl _ w).alloc (Nat.le_refl _) _).trans (hb.mono (by simp))⟩
theorem nchanged (w : World) (v : Value) (h : Never w v) : Calls Try.prog 19 #[v] w fun e w' => ∃ A c, e = .returned (.slice A 0 c) ∧ Below w.heap.size w w' := by
  rcases h with rfl | ⟨g, rfl, k⟩
  · refine (schanged_nil w).mono ?_
    rintro e w' ⟨rfl, rfl⟩
    exact ⟨none, 0, rfl, Below.refl _ _⟩
  · have c2 : w.cell? ⟨g, 2, none⟩ = some (.map none) := k.cell 2
    clear k
    unfold ptr
    go_enter Try.func19, Try.ntmps19
    go_wp2_with fail
    refine (keys_call none w).mono ?_
    rintro e w' ⟨rfl, rfl⟩
    go_wp2_with fail
    refine (sorted_nil w).mono ?_
    rintro e w' ⟨A, c, rfl, hb⟩
    have HB := Lib.hid hb
    clear hb
    go_wp2_with fail
    go_ret
    exact ⟨A, c, rfl, HB.out⟩
theorem nwrites (w : World) : Calls Try.prog 44 #[.map none] w fun e w' => e = .returned (.slice none 0 0) ∧ Below w.heap.size w w' := by
  go_enter Try.func44, Try.ntmps44
  go_wp2_with fail
  refine (keys_call none w).mono ?_
  rintro e w' ⟨rfl, rfl⟩
  go_wp2_with fail
  refine (sorted_nil w).mono ?_
  rintro e w2 ⟨A, c, rfl, hb⟩
  have HB := Lib.hid hb
  clear hb
  go_wp2_with fail
  go_loopw [3, 5, 10] (fun oo _ ii wr => oo = .slice none 0 0 ∧ ii = .int .i64 0 ∧ wr = w2) (fun _ _ ii _ => 0)
  case atStart => exact ⟨rfl, rfl, rfl⟩
  case round =>
    obtain ⟨rfl, rfl, rfl⟩ := hrel
    go_wp2_with fail
    go_ret
    exact ⟨rfl, HB.out⟩
theorem nwaiting (w : World) (v : Value) (h : Never w v) : Calls Try.prog 28 #[v] w fun e w' => e = .returned (.slice none 0 0) ∧ Below w.heap.size w w' := by
  rcases h with rfl | ⟨g, rfl, k⟩
  · refine (swaiting_nil w).mono ?_
    rintro e w' ⟨rfl, rfl⟩
    exact ⟨rfl, Below.refl _ _⟩
  · have c3 : w.cell? ⟨g, 3, none⟩ = some (.map none) := k.cell 3
    clear k
    unfold ptr
    go_enter Try.func28, Try.ntmps28
    go_wp2_with fail
    refine (nwrites w).mono ?_
    rintro e w' ⟨rfl, hb⟩
    have HB := Lib.hid hb
    clear hb
    go_wp2_with fail
    go_ret
    exact ⟨rfl, HB.out⟩
end Go.Proofs.Ytomoliickggghaa.Mem
