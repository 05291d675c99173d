
/-
  THE WALKS of the document's layer 4, the first block: number, superMay, PackSuper.
-/
import Derived.Test.YtafonjnanfekkaaLay2
import Derived.Test.YtafonjnanfekkaaLayS
import Derived.Test.YtafonjnanfekkaaRef5
import Derived.Test.YtafonjnanfekkaaLaw3
namespace Go.Proofs.Ytafonjnanfekkaa.Lay
open Go.RowKit Go.Proofs.Ytafonjnanfekkaa.Wire
set_option maxHeartbeats 8000000
set_option maxRecDepth 100000
set_option linter.unusedVariables false
set_option linter.unusedSimpArgs false

theorem number_ref (A : Option Addr) (len cap : Nat) (p n : Int) (bs : List UInt8) (w : World) (hl : len ≤ cap) (hc : cap ≤ 9223372036854775807) (hb : BytesAt w A len bs) (hn : n ≤ 4) :
    Calls Try.prog 73 #[.slice A len cap, .int .i64 p, .int .i64 n] w fun e w' => e = .returned (.int .i64 (uf bs p n)) ∧ w' = w := by
  have HG := Lib.hid (ref_get A len cap p n bs w hl hc hb)
  have hx := getX_lt bs p n hn
  have hu : ((getX bs p n : Nat) : Int) = uf bs p n := rfl
  have HU := Lib.hid hu
  generalize getX bs p n = y at *
  clear hb hu
  go_enter Try.func73, Try.ntmps73
  go_wp2_with (first | (go_at_call 98; refine HG.out.mono ?_; rintro e w' ⟨rfl, rfl⟩))
  go_ret
  exact ⟨ret_int HU.out, rfl⟩

theorem wq {x lo hi : Int} {b : Bool} (h : rg x lo hi = b) (w : World) : Calls Try.prog 75 #[.int .i64 x, .int .i64 lo, .int .i64 hi] w fun e w' => e = .returned (.bool b) ∧ w' = w :=
  (within_any x lo hi w).mono fun _ _ ⟨he, hw⟩ => ⟨by rw [he, h], hw.symm⟩

theorem superMay_geo (B P I J fb fi o m : Int) (cl : Bool) (w : World) (hg : gok B P I J = false) :
    Calls Try.prog 68 #[.agg #[.int .i64 B, .int .i64 P, .int .i64 I, .int .i64 J, .int .i64 fb, .int .i64 fi, .int .i64 o, .int .i64 m, .bool cl]] w fun e w' =>  e = .returned (.bool false) ∧ Below w.heap.size w w' := by
  obtain ⟨W, hW⟩ : ∃ W, w.alloc (.cells #[.int .i64 B, .int .i64 P, .int .i64 I, .int .i64 J, .int .i64 fb, .int .i64 fi, .int .i64 o, .int .i64 m, .bool cl] 39) = W := ⟨_, rfl⟩
  have b0 : Blk W w.heap.size 39 #[.int .i64 B, .int .i64 P, .int .i64 I, .int .i64 J, .int .i64 fb, .int .i64 fi, .int .i64 o, .int .i64 m, .bool cl] := by rw [← hW]; exact Blk.new w _ _
  have B0 := Lib.hid (show Below w.heap.size w W by rw [← hW]; exact (Below.refl w.heap.size w).alloc (Nat.le_refl _) _)
  obtain ⟨q0, q1, q2, q3, q4, q5, q6, q7, q8⟩ := sup_cells b0
  have HW := Lib.hid hW
  have K0 := Lib.hid b0
  clear hW b0
  have hz : (grp B P I J == 0) = true := by rw [grp_no hg]; rfl
  clear hg
  go_enter Try.func68, Try.ntmps68
  go_wp2_with fail
  rw [HW.out]
  refine (rGroups_any _ _ _ _ _).mono ?_
  rintro e w1 ⟨rfl, hb1⟩
  have B1 := Lib.hid (below_all B0.out B0.out.size hb1)
  have s1 := K0.out.belowAll hb1
  clear hb1 q0 q1 q2 q3 q4 q5 q6 q7 q8
  go_wp2_with fail
  go_ret
  exact ⟨rfl, B1.out⟩

theorem superMay_1 (B P I J fb fi o m : Int) (cl : Bool) (w : World) (hg : gok B P I J = true) (c1 : rg fb 0 (B - fixd B P I J) = false) :
    Calls Try.prog 68 #[.agg #[.int .i64 B, .int .i64 P, .int .i64 I, .int .i64 J, .int .i64 fb, .int .i64 fi, .int .i64 o, .int .i64 m, .bool cl]] w fun e w' =>  e = .returned (.bool false) ∧ Below w.heap.size w w' := by
  obtain ⟨W, hW⟩ : ∃ W, w.alloc (.cells #[.int .i64 B, .int .i64 P, .int .i64 I, .int .i64 J, .int .i64 fb, .int .i64 fi, .int .i64 o, .int .i64 m, .bool cl] 39) = W := ⟨_, rfl⟩
  have b0 : Blk W w.heap.size 39 #[.int .i64 B, .int .i64 P, .int .i64 I, .int .i64 J, .int .i64 fb, .int .i64 fi, .int .i64 o, .int .i64 m, .bool cl] := by rw [← hW]; exact Blk.new w _ _
  have B0 := Lib.hid (show Below w.heap.size w W by rw [← hW]; exact (Below.refl w.heap.size w).alloc (Nat.le_refl _) _)
  obtain ⟨q0, q1, q2, q3, q4, q5, q6, q7, q8⟩ := sup_cells b0
  have HW := Lib.hid hW
  have K0 := Lib.hid b0
  clear hW b0
  have G := Geo.of hg
  have i1 := G.i1; have i2 := G.i2; have bb1 := G.b1; have bb2 := G.b2
  obtain ⟨gr1, gr2⟩ : 1 ≤ grp B P I J ∧ grp B P I J ≤ 14 := by rw [grp_yes hg]; have := G.n1; have := G.n2; omega
  have m1 : grp B P I J * I ≤ 14 * 512 := Int.mul_le_mul gr2 i2 (by omega) (by omega)
  have m0 : 1 * 8 ≤ grp B P I J * I := Int.mul_le_mul gr1 i1 (by omega) (by omega)
  obtain ⟨f0, f1⟩ := fixd_le hg
  have hw : IntKind.i64.wrap (grp B P I J * I) = grp B P I J * I := by rw [IntKind.wrap_i64]; omega
  have hz : (grp B P I J == 0) = false := by simp; omega
  have hw2 : IntKind.i64.wrap (B - fixd B P I J) = B - fixd B P I J := by rw [IntKind.wrap_i64]; omega
  have C1 := Lib.hid c1
  clear G hg c1
  go_enter Try.func68, Try.ntmps68
  go_wp2_with fail
  rw [HW.out]
  refine (rGroups_any _ _ _ _ _).mono ?_
  rintro e w1 ⟨rfl, hb1⟩
  have B1 := Lib.hid (below_all B0.out B0.out.size hb1)
  have s1 := K0.out.belowAll hb1
  clear hb1 q0 q1 q2 q3 q4 q5 q6 q7 q8
  have SC := sup_cells s1
  obtain ⟨q0, q1, q2, q3, q4, q5, q6, q7, q8⟩ := SC
  go_wp2_with fail
  clear q0 q1 q2 q3 q4 q5 q6 q7 q8 hw
  have SC := sup_cells s1
  refine region_mix [true, true, true, true, true, true, true, false] (S := fun w' => w'.cell? ⟨w.heap.size, 0, none⟩ = some (.int .i64 B) ∧ w'.cell? ⟨w.heap.size, 1, none⟩ = some (.int .i64 P) ∧ w'.cell? ⟨w.heap.size, 2, none⟩ = some (.int .i64 I) ∧ w'.cell? ⟨w.heap.size, 3, none⟩ = some (.int .i64 J) ∧ w'.cell? ⟨w.heap.size, 4, none⟩ = some (.int .i64 fb) ∧ w'.cell? ⟨w.heap.size, 5, none⟩ = some (.int .i64 fi) ∧ w'.cell? ⟨w.heap.size, 6, none⟩ = some (.int .i64 o) ∧ w'.cell? ⟨w.heap.size, 7, none⟩ = some (.int .i64 m) ∧ w'.cell? ⟨w.heap.size, 8, none⟩ = some (.bool cl)) (by kernel_rfl) (by kernel_rfl) (fun _ _ d _ _ h => by cases d <;> exact h) SC ?_
  clear SC
  iterate 7 (refine mix_take (v := ?_) (by kernel_rfl) ?_ (fun K hK => ?_); rotate_left; (· (intro w' hSw; (try dsimp only at hSw); go_simp; with_reducible rfl)); simp only [Act.put, List.setIfInBounds_toArray, List.set_cons_zero, List.set_cons_succ]; refine hK _ ?_; clear hK K)
  refine mix_do (E := False) (fun K hK => ?_) (by kernel_rfl)
  go_simp
  go_at_call 95
  refine (rfixed_any _ _ _ _ _).mono ?_
  rintro e w2 ⟨rfl, hb2⟩
  have s2 := s1.drew.belowAll hb2
  have B2 := Lib.hid (below_all B1.out.drew B1.out.size hb2)
  clear hb2 s1
  refine hK.out _ _ (sup_cells s2) ?_
  clear hK K
  try simp only [Act.put, List.setIfInBounds_toArray, List.set_cons_zero, List.set_cons_succ]
  refine mix_still ?_
  obtain ⟨q0, q1, q2, q3, q4, q5, q6, q7, q8⟩ := sup_cells s2
  iterate 1 (refine still_take (v := ?_) (by kernel_rfl) ?_ (fun K hK => ?_); rotate_left; (· (go_simp; with_reducible rfl)); simp only [Act.put, List.setIfInBounds_toArray, List.set_cons_zero, List.set_cons_succ]; refine hK _ ?_; clear hK K)
  refine still_call_ (v := ?_) (f := ?_) (args := ?_) (by kernel_rfl) ?_ ?_ (fun K hK => ?_)
  rotate_left 3
  · (go_simp; constructor <;> rfl)
  · exact wq C1.out w2
  simp only [Act.put, List.setIfInBounds_toArray, List.set_cons_zero, List.set_cons_succ]
  refine hK _ ?_
  clear hK K
  iterate 1 (refine still_take (v := ?_) (by kernel_rfl) ?_ (fun K hK => ?_); rotate_left; (· (go_simp; with_reducible rfl)); simp only [Act.put, List.setIfInBounds_toArray, List.set_cons_zero, List.set_cons_succ]; refine hK _ ?_; clear hK K)
  iterate 4 (refine still_skip ?_ ?_; (· kernel_rfl); intro K hK; simp only [Act.put, List.setIfInBounds_toArray, List.set_cons_zero, List.set_cons_succ]; apply hK; clear hK K)
  iterate 2 (refine still_take (v := ?_) (by kernel_rfl) ?_ (fun K hK => ?_); rotate_left; (· (go_simp; with_reducible rfl)); simp only [Act.put, List.setIfInBounds_toArray, List.set_cons_zero, List.set_cons_succ]; refine hK _ ?_; clear hK K)
  iterate 4 (refine still_skip ?_ ?_; (· kernel_rfl); intro K hK; simp only [Act.put, List.setIfInBounds_toArray, List.set_cons_zero, List.set_cons_succ]; apply hK; clear hK K)
  iterate 2 (refine still_take (v := ?_) (by kernel_rfl) ?_ (fun K hK => ?_); rotate_left; (· (go_simp; with_reducible rfl)); simp only [Act.put, List.setIfInBounds_toArray, List.set_cons_zero, List.set_cons_succ]; refine hK _ ?_; clear hK K)
  iterate 3 (refine still_skip ?_ ?_; (· kernel_rfl); intro K hK; simp only [Act.put, List.setIfInBounds_toArray, List.set_cons_zero, List.set_cons_succ]; apply hK; clear hK K)
  iterate 2 (refine still_take (v := ?_) (by kernel_rfl) ?_ (fun K hK => ?_); rotate_left; (· (go_simp; with_reducible rfl)); simp only [Act.put, List.setIfInBounds_toArray, List.set_cons_zero, List.set_cons_succ]; refine hK _ ?_; clear hK K)
  refine still_end ?_
  go_wp2
  go_ret
  exact ⟨rfl, B2.out⟩

theorem superMay_2 (B P I J fb fi o m : Int) (cl : Bool) (w : World) (hg : gok B P I J = true) (c1 : rg fb 0 (B - fixd B P I J) = true) (c2 : rg fi 0 (grp B P I J * I) = false) :
    Calls Try.prog 68 #[.agg #[.int .i64 B, .int .i64 P, .int .i64 I, .int .i64 J, .int .i64 fb, .int .i64 fi, .int .i64 o, .int .i64 m, .bool cl]] w fun e w' =>  e = .returned (.bool false) ∧ Below w.heap.size w w' := by
  obtain ⟨W, hW⟩ : ∃ W, w.alloc (.cells #[.int .i64 B, .int .i64 P, .int .i64 I, .int .i64 J, .int .i64 fb, .int .i64 fi, .int .i64 o, .int .i64 m, .bool cl] 39) = W := ⟨_, rfl⟩
  have b0 : Blk W w.heap.size 39 #[.int .i64 B, .int .i64 P, .int .i64 I, .int .i64 J, .int .i64 fb, .int .i64 fi, .int .i64 o, .int .i64 m, .bool cl] := by rw [← hW]; exact Blk.new w _ _
  have B0 := Lib.hid (show Below w.heap.size w W by rw [← hW]; exact (Below.refl w.heap.size w).alloc (Nat.le_refl _) _)
  obtain ⟨q0, q1, q2, q3, q4, q5, q6, q7, q8⟩ := sup_cells b0
  have HW := Lib.hid hW
  have K0 := Lib.hid b0
  clear hW b0
  have G := Geo.of hg
  have i1 := G.i1; have i2 := G.i2; have bb1 := G.b1; have bb2 := G.b2
  obtain ⟨gr1, gr2⟩ : 1 ≤ grp B P I J ∧ grp B P I J ≤ 14 := by rw [grp_yes hg]; have := G.n1; have := G.n2; omega
  have m1 : grp B P I J * I ≤ 14 * 512 := Int.mul_le_mul gr2 i2 (by omega) (by omega)
  have m0 : 1 * 8 ≤ grp B P I J * I := Int.mul_le_mul gr1 i1 (by omega) (by omega)
  obtain ⟨f0, f1⟩ := fixd_le hg
  have hw : IntKind.i64.wrap (grp B P I J * I) = grp B P I J * I := by rw [IntKind.wrap_i64]; omega
  have hz : (grp B P I J == 0) = false := by simp; omega
  have hw2 : IntKind.i64.wrap (B - fixd B P I J) = B - fixd B P I J := by rw [IntKind.wrap_i64]; omega
  have C1 := Lib.hid c1
  have C2 := Lib.hid c2
  clear G hg c1 c2
  go_enter Try.func68, Try.ntmps68
  go_wp2_with fail
  rw [HW.out]
  refine (rGroups_any _ _ _ _ _).mono ?_
  rintro e w1 ⟨rfl, hb1⟩
  have B1 := Lib.hid (below_all B0.out B0.out.size hb1)
  have s1 := K0.out.belowAll hb1
  clear hb1 q0 q1 q2 q3 q4 q5 q6 q7 q8
  have SC := sup_cells s1
  obtain ⟨q0, q1, q2, q3, q4, q5, q6, q7, q8⟩ := SC
  go_wp2_with fail
  clear q0 q1 q2 q3 q4 q5 q6 q7 q8 hw
  have SC := sup_cells s1
  refine region_mix [true, true, true, true, true, true, true, false] (S := fun w' => w'.cell? ⟨w.heap.size, 0, none⟩ = some (.int .i64 B) ∧ w'.cell? ⟨w.heap.size, 1, none⟩ = some (.int .i64 P) ∧ w'.cell? ⟨w.heap.size, 2, none⟩ = some (.int .i64 I) ∧ w'.cell? ⟨w.heap.size, 3, none⟩ = some (.int .i64 J) ∧ w'.cell? ⟨w.heap.size, 4, none⟩ = some (.int .i64 fb) ∧ w'.cell? ⟨w.heap.size, 5, none⟩ = some (.int .i64 fi) ∧ w'.cell? ⟨w.heap.size, 6, none⟩ = some (.int .i64 o) ∧ w'.cell? ⟨w.heap.size, 7, none⟩ = some (.int .i64 m) ∧ w'.cell? ⟨w.heap.size, 8, none⟩ = some (.bool cl)) (by kernel_rfl) (by kernel_rfl) (fun _ _ d _ _ h => by cases d <;> exact h) SC ?_
  clear SC
  iterate 7 (refine mix_take (v := ?_) (by kernel_rfl) ?_ (fun K hK => ?_); rotate_left; (· (intro w' hSw; (try dsimp only at hSw); go_simp; with_reducible rfl)); simp only [Act.put, List.setIfInBounds_toArray, List.set_cons_zero, List.set_cons_succ]; refine hK _ ?_; clear hK K)
  refine mix_do (E := False) (fun K hK => ?_) (by kernel_rfl)
  go_simp
  go_at_call 95
  refine (rfixed_any _ _ _ _ _).mono ?_
  rintro e w2 ⟨rfl, hb2⟩
  have s2 := s1.drew.belowAll hb2
  have B2 := Lib.hid (below_all B1.out.drew B1.out.size hb2)
  clear hb2 s1
  refine hK.out _ _ (sup_cells s2) ?_
  clear hK K
  try simp only [Act.put, List.setIfInBounds_toArray, List.set_cons_zero, List.set_cons_succ]
  refine mix_still ?_
  obtain ⟨q0, q1, q2, q3, q4, q5, q6, q7, q8⟩ := sup_cells s2
  iterate 1 (refine still_take (v := ?_) (by kernel_rfl) ?_ (fun K hK => ?_); rotate_left; (· (go_simp; with_reducible rfl)); simp only [Act.put, List.setIfInBounds_toArray, List.set_cons_zero, List.set_cons_succ]; refine hK _ ?_; clear hK K)
  refine still_call_ (v := ?_) (f := ?_) (args := ?_) (by kernel_rfl) ?_ ?_ (fun K hK => ?_)
  rotate_left 3
  · (go_simp; constructor <;> rfl)
  · exact wq C1.out w2
  simp only [Act.put, List.setIfInBounds_toArray, List.set_cons_zero, List.set_cons_succ]
  refine hK _ ?_
  clear hK K
  iterate 1 (refine still_take (v := ?_) (by kernel_rfl) ?_ (fun K hK => ?_); rotate_left; (· (go_simp; with_reducible rfl)); simp only [Act.put, List.setIfInBounds_toArray, List.set_cons_zero, List.set_cons_succ]; refine hK _ ?_; clear hK K)
  iterate 3 (refine still_take (v := ?_) (by kernel_rfl) ?_ (fun K hK => ?_); rotate_left; (· (go_simp; with_reducible rfl)); simp only [Act.put, List.setIfInBounds_toArray, List.set_cons_zero, List.set_cons_succ]; refine hK _ ?_; clear hK K)
  refine still_call_ (v := ?_) (f := ?_) (args := ?_) (by kernel_rfl) ?_ ?_ (fun K hK => ?_)
  rotate_left 3
  · (go_simp; constructor <;> rfl)
  · exact wq C2.out w2
  simp only [Act.put, List.setIfInBounds_toArray, List.set_cons_zero, List.set_cons_succ]
  refine hK _ ?_
  clear hK K
  iterate 2 (refine still_take (v := ?_) (by kernel_rfl) ?_ (fun K hK => ?_); rotate_left; (· (go_simp; with_reducible rfl)); simp only [Act.put, List.setIfInBounds_toArray, List.set_cons_zero, List.set_cons_succ]; refine hK _ ?_; clear hK K)
  iterate 4 (refine still_skip ?_ ?_; (· kernel_rfl); intro K hK; simp only [Act.put, List.setIfInBounds_toArray, List.set_cons_zero, List.set_cons_succ]; apply hK; clear hK K)
  iterate 2 (refine still_take (v := ?_) (by kernel_rfl) ?_ (fun K hK => ?_); rotate_left; (· (go_simp; with_reducible rfl)); simp only [Act.put, List.setIfInBounds_toArray, List.set_cons_zero, List.set_cons_succ]; refine hK _ ?_; clear hK K)
  iterate 3 (refine still_skip ?_ ?_; (· kernel_rfl); intro K hK; simp only [Act.put, List.setIfInBounds_toArray, List.set_cons_zero, List.set_cons_succ]; apply hK; clear hK K)
  iterate 2 (refine still_take (v := ?_) (by kernel_rfl) ?_ (fun K hK => ?_); rotate_left; (· (go_simp; with_reducible rfl)); simp only [Act.put, List.setIfInBounds_toArray, List.set_cons_zero, List.set_cons_succ]; refine hK _ ?_; clear hK K)
  refine still_end ?_
  go_wp2
  go_ret
  exact ⟨rfl, B2.out⟩

theorem superMay_3 (B P I J fb fi o m : Int) (cl : Bool) (w : World) (hg : gok B P I J = true) (c1 : rg fb 0 (B - fixd B P I J) = true) (c2 : rg fi 0 (grp B P I J * I) = true) (c3 : rg o 0 (grp B P I J * I) = false) :
    Calls Try.prog 68 #[.agg #[.int .i64 B, .int .i64 P, .int .i64 I, .int .i64 J, .int .i64 fb, .int .i64 fi, .int .i64 o, .int .i64 m, .bool cl]] w fun e w' =>  e = .returned (.bool false) ∧ Below w.heap.size w w' := by
  obtain ⟨W, hW⟩ : ∃ W, w.alloc (.cells #[.int .i64 B, .int .i64 P, .int .i64 I, .int .i64 J, .int .i64 fb, .int .i64 fi, .int .i64 o, .int .i64 m, .bool cl] 39) = W := ⟨_, rfl⟩
  have b0 : Blk W w.heap.size 39 #[.int .i64 B, .int .i64 P, .int .i64 I, .int .i64 J, .int .i64 fb, .int .i64 fi, .int .i64 o, .int .i64 m, .bool cl] := by rw [← hW]; exact Blk.new w _ _
  have B0 := Lib.hid (show Below w.heap.size w W by rw [← hW]; exact (Below.refl w.heap.size w).alloc (Nat.le_refl _) _)
  obtain ⟨q0, q1, q2, q3, q4, q5, q6, q7, q8⟩ := sup_cells b0
  have HW := Lib.hid hW
  have K0 := Lib.hid b0
  clear hW b0
  have G := Geo.of hg
  have i1 := G.i1; have i2 := G.i2; have bb1 := G.b1; have bb2 := G.b2
  obtain ⟨gr1, gr2⟩ : 1 ≤ grp B P I J ∧ grp B P I J ≤ 14 := by rw [grp_yes hg]; have := G.n1; have := G.n2; omega
  have m1 : grp B P I J * I ≤ 14 * 512 := Int.mul_le_mul gr2 i2 (by omega) (by omega)
  have m0 : 1 * 8 ≤ grp B P I J * I := Int.mul_le_mul gr1 i1 (by omega) (by omega)
  obtain ⟨f0, f1⟩ := fixd_le hg
  have hw : IntKind.i64.wrap (grp B P I J * I) = grp B P I J * I := by rw [IntKind.wrap_i64]; omega
  have hz : (grp B P I J == 0) = false := by simp; omega
  have hw2 : IntKind.i64.wrap (B - fixd B P I J) = B - fixd B P I J := by rw [IntKind.wrap_i64]; omega
  have C1 := Lib.hid c1
  have C2 := Lib.hid c2
  have C3 := Lib.hid c3
  clear G hg c1 c2 c3
  go_enter Try.func68, Try.ntmps68
  go_wp2_with fail
  rw [HW.out]
  refine (rGroups_any _ _ _ _ _).mono ?_
  rintro e w1 ⟨rfl, hb1⟩
  have B1 := Lib.hid (below_all B0.out B0.out.size hb1)
  have s1 := K0.out.belowAll hb1
  clear hb1 q0 q1 q2 q3 q4 q5 q6 q7 q8
  have SC := sup_cells s1
  obtain ⟨q0, q1, q2, q3, q4, q5, q6, q7, q8⟩ := SC
  go_wp2_with fail
  clear q0 q1 q2 q3 q4 q5 q6 q7 q8 hw
  have SC := sup_cells s1
  refine region_mix [true, true, true, true, true, true, true, false] (S := fun w' => w'.cell? ⟨w.heap.size, 0, none⟩ = some (.int .i64 B) ∧ w'.cell? ⟨w.heap.size, 1, none⟩ = some (.int .i64 P) ∧ w'.cell? ⟨w.heap.size, 2, none⟩ = some (.int .i64 I) ∧ w'.cell? ⟨w.heap.size, 3, none⟩ = some (.int .i64 J) ∧ w'.cell? ⟨w.heap.size, 4, none⟩ = some (.int .i64 fb) ∧ w'.cell? ⟨w.heap.size, 5, none⟩ = some (.int .i64 fi) ∧ w'.cell? ⟨w.heap.size, 6, none⟩ = some (.int .i64 o) ∧ w'.cell? ⟨w.heap.size, 7, none⟩ = some (.int .i64 m) ∧ w'.cell? ⟨w.heap.size, 8, none⟩ = some (.bool cl)) (by kernel_rfl) (by kernel_rfl) (fun _ _ d _ _ h => by cases d <;> exact h) SC ?_
  clear SC
  iterate 7 (refine mix_take (v := ?_) (by kernel_rfl) ?_ (fun K hK => ?_); rotate_left; (· (intro w' hSw; (try dsimp only at hSw); go_simp; with_reducible rfl)); simp only [Act.put, List.setIfInBounds_toArray, List.set_cons_zero, List.set_cons_succ]; refine hK _ ?_; clear hK K)
  refine mix_do (E := False) (fun K hK => ?_) (by kernel_rfl)
  go_simp
  go_at_call 95
  refine (rfixed_any _ _ _ _ _).mono ?_
  rintro e w2 ⟨rfl, hb2⟩
  have s2 := s1.drew.belowAll hb2
  have B2 := Lib.hid (below_all B1.out.drew B1.out.size hb2)
  clear hb2 s1
  refine hK.out _ _ (sup_cells s2) ?_
  clear hK K
  try simp only [Act.put, List.setIfInBounds_toArray, List.set_cons_zero, List.set_cons_succ]
  refine mix_still ?_
  obtain ⟨q0, q1, q2, q3, q4, q5, q6, q7, q8⟩ := sup_cells s2
  iterate 1 (refine still_take (v := ?_) (by kernel_rfl) ?_ (fun K hK => ?_); rotate_left; (· (go_simp; with_reducible rfl)); simp only [Act.put, List.setIfInBounds_toArray, List.set_cons_zero, List.set_cons_succ]; refine hK _ ?_; clear hK K)
  refine still_call_ (v := ?_) (f := ?_) (args := ?_) (by kernel_rfl) ?_ ?_ (fun K hK => ?_)
  rotate_left 3
  · (go_simp; constructor <;> rfl)
  · exact wq C1.out w2
  simp only [Act.put, List.setIfInBounds_toArray, List.set_cons_zero, List.set_cons_succ]
  refine hK _ ?_
  clear hK K
  iterate 1 (refine still_take (v := ?_) (by kernel_rfl) ?_ (fun K hK => ?_); rotate_left; (· (go_simp; with_reducible rfl)); simp only [Act.put, List.setIfInBounds_toArray, List.set_cons_zero, List.set_cons_succ]; refine hK _ ?_; clear hK K)
  iterate 3 (refine still_take (v := ?_) (by kernel_rfl) ?_ (fun K hK => ?_); rotate_left; (· (go_simp; with_reducible rfl)); simp only [Act.put, List.setIfInBounds_toArray, List.set_cons_zero, List.set_cons_succ]; refine hK _ ?_; clear hK K)
  refine still_call_ (v := ?_) (f := ?_) (args := ?_) (by kernel_rfl) ?_ ?_ (fun K hK => ?_)
  rotate_left 3
  · (go_simp; constructor <;> rfl)
  · exact wq C2.out w2
  simp only [Act.put, List.setIfInBounds_toArray, List.set_cons_zero, List.set_cons_succ]
  refine hK _ ?_
  clear hK K
  iterate 2 (refine still_take (v := ?_) (by kernel_rfl) ?_ (fun K hK => ?_); rotate_left; (· (go_simp; with_reducible rfl)); simp only [Act.put, List.setIfInBounds_toArray, List.set_cons_zero, List.set_cons_succ]; refine hK _ ?_; clear hK K)
  iterate 3 (refine still_take (v := ?_) (by kernel_rfl) ?_ (fun K hK => ?_); rotate_left; (· (go_simp; with_reducible rfl)); simp only [Act.put, List.setIfInBounds_toArray, List.set_cons_zero, List.set_cons_succ]; refine hK _ ?_; clear hK K)
  refine still_call_ (v := ?_) (f := ?_) (args := ?_) (by kernel_rfl) ?_ ?_ (fun K hK => ?_)
  rotate_left 3
  · (go_simp; constructor <;> rfl)
  · exact wq C3.out w2
  simp only [Act.put, List.setIfInBounds_toArray, List.set_cons_zero, List.set_cons_succ]
  refine hK _ ?_
  clear hK K
  iterate 2 (refine still_take (v := ?_) (by kernel_rfl) ?_ (fun K hK => ?_); rotate_left; (· (go_simp; with_reducible rfl)); simp only [Act.put, List.setIfInBounds_toArray, List.set_cons_zero, List.set_cons_succ]; refine hK _ ?_; clear hK K)
  iterate 3 (refine still_skip ?_ ?_; (· kernel_rfl); intro K hK; simp only [Act.put, List.setIfInBounds_toArray, List.set_cons_zero, List.set_cons_succ]; apply hK; clear hK K)
  iterate 2 (refine still_take (v := ?_) (by kernel_rfl) ?_ (fun K hK => ?_); rotate_left; (· (go_simp; with_reducible rfl)); simp only [Act.put, List.setIfInBounds_toArray, List.set_cons_zero, List.set_cons_succ]; refine hK _ ?_; clear hK K)
  refine still_end ?_
  go_wp2
  go_ret
  exact ⟨rfl, B2.out⟩

theorem superMay_4 (B P I J fb fi o m : Int) (cl : Bool) (w : World) (hg : gok B P I J = true) (c1 : rg fb 0 (B - fixd B P I J) = true) (c2 : rg fi 0 (grp B P I J * I) = true) (c3 : rg o 0 (grp B P I J * I) = true) (c4 : rg m 0 2147483647 = false) :
    Calls Try.prog 68 #[.agg #[.int .i64 B, .int .i64 P, .int .i64 I, .int .i64 J, .int .i64 fb, .int .i64 fi, .int .i64 o, .int .i64 m, .bool cl]] w fun e w' =>  e = .returned (.bool false) ∧ Below w.heap.size w w' := by
  obtain ⟨W, hW⟩ : ∃ W, w.alloc (.cells #[.int .i64 B, .int .i64 P, .int .i64 I, .int .i64 J, .int .i64 fb, .int .i64 fi, .int .i64 o, .int .i64 m, .bool cl] 39) = W := ⟨_, rfl⟩
  have b0 : Blk W w.heap.size 39 #[.int .i64 B, .int .i64 P, .int .i64 I, .int .i64 J, .int .i64 fb, .int .i64 fi, .int .i64 o, .int .i64 m, .bool cl] := by rw [← hW]; exact Blk.new w _ _
  have B0 := Lib.hid (show Below w.heap.size w W by rw [← hW]; exact (Below.refl w.heap.size w).alloc (Nat.le_refl _) _)
  obtain ⟨q0, q1, q2, q3, q4, q5, q6, q7, q8⟩ := sup_cells b0
  have HW := Lib.hid hW
  have K0 := Lib.hid b0
  clear hW b0
  have G := Geo.of hg
  have i1 := G.i1; have i2 := G.i2; have bb1 := G.b1; have bb2 := G.b2
  obtain ⟨gr1, gr2⟩ : 1 ≤ grp B P I J ∧ grp B P I J ≤ 14 := by rw [grp_yes hg]; have := G.n1; have := G.n2; omega
  have m1 : grp B P I J * I ≤ 14 * 512 := Int.mul_le_mul gr2 i2 (by omega) (by omega)
  have m0 : 1 * 8 ≤ grp B P I J * I := Int.mul_le_mul gr1 i1 (by omega) (by omega)
  obtain ⟨f0, f1⟩ := fixd_le hg
  have hw : IntKind.i64.wrap (grp B P I J * I) = grp B P I J * I := by rw [IntKind.wrap_i64]; omega
  have hz : (grp B P I J == 0) = false := by simp; omega
  have hw2 : IntKind.i64.wrap (B - fixd B P I J) = B - fixd B P I J := by rw [IntKind.wrap_i64]; omega
  have C1 := Lib.hid c1
  have C2 := Lib.hid c2
  have C3 := Lib.hid c3
  have C4 := Lib.hid c4
  clear G hg c1 c2 c3 c4
  go_enter Try.func68, Try.ntmps68
  go_wp2_with fail
  rw [HW.out]
  refine (rGroups_any _ _ _ _ _).mono ?_
  rintro e w1 ⟨rfl, hb1⟩
  have B1 := Lib.hid (below_all B0.out B0.out.size hb1)
  have s1 := K0.out.belowAll hb1
  clear hb1 q0 q1 q2 q3 q4 q5 q6 q7 q8
  have SC := sup_cells s1
  obtain ⟨q0, q1, q2, q3, q4, q5, q6, q7, q8⟩ := SC
  go_wp2_with fail
  clear q0 q1 q2 q3 q4 q5 q6 q7 q8 hw
  have SC := sup_cells s1
  refine region_mix [true, true, true, true, true, true, true, false] (S := fun w' => w'.cell? ⟨w.heap.size, 0, none⟩ = some (.int .i64 B) ∧ w'.cell? ⟨w.heap.size, 1, none⟩ = some (.int .i64 P) ∧ w'.cell? ⟨w.heap.size, 2, none⟩ = some (.int .i64 I) ∧ w'.cell? ⟨w.heap.size, 3, none⟩ = some (.int .i64 J) ∧ w'.cell? ⟨w.heap.size, 4, none⟩ = some (.int .i64 fb) ∧ w'.cell? ⟨w.heap.size, 5, none⟩ = some (.int .i64 fi) ∧ w'.cell? ⟨w.heap.size, 6, none⟩ = some (.int .i64 o) ∧ w'.cell? ⟨w.heap.size, 7, none⟩ = some (.int .i64 m) ∧ w'.cell? ⟨w.heap.size, 8, none⟩ = some (.bool cl)) (by kernel_rfl) (by kernel_rfl) (fun _ _ d _ _ h => by cases d <;> exact h) SC ?_
  clear SC
  iterate 7 (refine mix_take (v := ?_) (by kernel_rfl) ?_ (fun K hK => ?_); rotate_left; (· (intro w' hSw; (try dsimp only at hSw); go_simp; with_reducible rfl)); simp only [Act.put, List.setIfInBounds_toArray, List.set_cons_zero, List.set_cons_succ]; refine hK _ ?_; clear hK K)
  refine mix_do (E := False) (fun K hK => ?_) (by kernel_rfl)
  go_simp
  go_at_call 95
  refine (rfixed_any _ _ _ _ _).mono ?_
  rintro e w2 ⟨rfl, hb2⟩
  have s2 := s1.drew.belowAll hb2
  have B2 := Lib.hid (below_all B1.out.drew B1.out.size hb2)
  clear hb2 s1
  refine hK.out _ _ (sup_cells s2) ?_
  clear hK K
  try simp only [Act.put, List.setIfInBounds_toArray, List.set_cons_zero, List.set_cons_succ]
  refine mix_still ?_
  obtain ⟨q0, q1, q2, q3, q4, q5, q6, q7, q8⟩ := sup_cells s2
  iterate 1 (refine still_take (v := ?_) (by kernel_rfl) ?_ (fun K hK => ?_); rotate_left; (· (go_simp; with_reducible rfl)); simp only [Act.put, List.setIfInBounds_toArray, List.set_cons_zero, List.set_cons_succ]; refine hK _ ?_; clear hK K)
  refine still_call_ (v := ?_) (f := ?_) (args := ?_) (by kernel_rfl) ?_ ?_ (fun K hK => ?_)
  rotate_left 3
  · (go_simp; constructor <;> rfl)
  · exact wq C1.out w2
  simp only [Act.put, List.setIfInBounds_toArray, List.set_cons_zero, List.set_cons_succ]
  refine hK _ ?_
  clear hK K
  iterate 1 (refine still_take (v := ?_) (by kernel_rfl) ?_ (fun K hK => ?_); rotate_left; (· (go_simp; with_reducible rfl)); simp only [Act.put, List.setIfInBounds_toArray, List.set_cons_zero, List.set_cons_succ]; refine hK _ ?_; clear hK K)
  iterate 3 (refine still_take (v := ?_) (by kernel_rfl) ?_ (fun K hK => ?_); rotate_left; (· (go_simp; with_reducible rfl)); simp only [Act.put, List.setIfInBounds_toArray, List.set_cons_zero, List.set_cons_succ]; refine hK _ ?_; clear hK K)
  refine still_call_ (v := ?_) (f := ?_) (args := ?_) (by kernel_rfl) ?_ ?_ (fun K hK => ?_)
  rotate_left 3
  · (go_simp; constructor <;> rfl)
  · exact wq C2.out w2
  simp only [Act.put, List.setIfInBounds_toArray, List.set_cons_zero, List.set_cons_succ]
  refine hK _ ?_
  clear hK K
  iterate 2 (refine still_take (v := ?_) (by kernel_rfl) ?_ (fun K hK => ?_); rotate_left; (· (go_simp; with_reducible rfl)); simp only [Act.put, List.setIfInBounds_toArray, List.set_cons_zero, List.set_cons_succ]; refine hK _ ?_; clear hK K)
  iterate 3 (refine still_take (v := ?_) (by kernel_rfl) ?_ (fun K hK => ?_); rotate_left; (· (go_simp; with_reducible rfl)); simp only [Act.put, List.setIfInBounds_toArray, List.set_cons_zero, List.set_cons_succ]; refine hK _ ?_; clear hK K)
  refine still_call_ (v := ?_) (f := ?_) (args := ?_) (by kernel_rfl) ?_ ?_ (fun K hK => ?_)
  rotate_left 3
  · (go_simp; constructor <;> rfl)
  · exact wq C3.out w2
  simp only [Act.put, List.setIfInBounds_toArray, List.set_cons_zero, List.set_cons_succ]
  refine hK _ ?_
  clear hK K
  iterate 2 (refine still_take (v := ?_) (by kernel_rfl) ?_ (fun K hK => ?_); rotate_left; (· (go_simp; with_reducible rfl)); simp only [Act.put, List.setIfInBounds_toArray, List.set_cons_zero, List.set_cons_succ]; refine hK _ ?_; clear hK K)
  iterate 2 (refine still_take (v := ?_) (by kernel_rfl) ?_ (fun K hK => ?_); rotate_left; (· (go_simp; with_reducible rfl)); simp only [Act.put, List.setIfInBounds_toArray, List.set_cons_zero, List.set_cons_succ]; refine hK _ ?_; clear hK K)
  refine still_call_ (v := ?_) (f := ?_) (args := ?_) (by kernel_rfl) ?_ ?_ (fun K hK => ?_)
  rotate_left 3
  · (go_simp; constructor <;> rfl)
  · exact wq C4.out w2
  simp only [Act.put, List.setIfInBounds_toArray, List.set_cons_zero, List.set_cons_succ]
  refine hK _ ?_
  clear hK K
  iterate 2 (refine still_take (v := ?_) (by kernel_rfl) ?_ (fun K hK => ?_); rotate_left; (· (go_simp; with_reducible rfl)); simp only [Act.put, List.setIfInBounds_toArray, List.set_cons_zero, List.set_cons_succ]; refine hK _ ?_; clear hK K)
  refine still_end ?_
  go_wp2
  go_ret
  exact ⟨rfl, B2.out⟩

theorem superMay_5 (B P I J fb fi o m : Int) (cl : Bool) (w : World) (hg : gok B P I J = true) (c1 : rg fb 0 (B - fixd B P I J) = true) (c2 : rg fi 0 (grp B P I J * I) = true) (c3 : rg o 0 (grp B P I J * I) = true) (c4 : rg m 0 2147483647 = true) :
    Calls Try.prog 68 #[.agg #[.int .i64 B, .int .i64 P, .int .i64 I, .int .i64 J, .int .i64 fb, .int .i64 fi, .int .i64 o, .int .i64 m, .bool cl]] w fun e w' =>  e = .returned (.bool true) ∧ Below w.heap.size w w' := by
  obtain ⟨W, hW⟩ : ∃ W, w.alloc (.cells #[.int .i64 B, .int .i64 P, .int .i64 I, .int .i64 J, .int .i64 fb, .int .i64 fi, .int .i64 o, .int .i64 m, .bool cl] 39) = W := ⟨_, rfl⟩
  have b0 : Blk W w.heap.size 39 #[.int .i64 B, .int .i64 P, .int .i64 I, .int .i64 J, .int .i64 fb, .int .i64 fi, .int .i64 o, .int .i64 m, .bool cl] := by rw [← hW]; exact Blk.new w _ _
  have B0 := Lib.hid (show Below w.heap.size w W by rw [← hW]; exact (Below.refl w.heap.size w).alloc (Nat.le_refl _) _)
  obtain ⟨q0, q1, q2, q3, q4, q5, q6, q7, q8⟩ := sup_cells b0
  have HW := Lib.hid hW
  have K0 := Lib.hid b0
  clear hW b0
  have G := Geo.of hg
  have i1 := G.i1; have i2 := G.i2; have bb1 := G.b1; have bb2 := G.b2
  obtain ⟨gr1, gr2⟩ : 1 ≤ grp B P I J ∧ grp B P I J ≤ 14 := by rw [grp_yes hg]; have := G.n1; have := G.n2; omega
  have m1 : grp B P I J * I ≤ 14 * 512 := Int.mul_le_mul gr2 i2 (by omega) (by omega)
  have m0 : 1 * 8 ≤ grp B P I J * I := Int.mul_le_mul gr1 i1 (by omega) (by omega)
  obtain ⟨f0, f1⟩ := fixd_le hg
  have hw : IntKind.i64.wrap (grp B P I J * I) = grp B P I J * I := by rw [IntKind.wrap_i64]; omega
  have hz : (grp B P I J == 0) = false := by simp; omega
  have hw2 : IntKind.i64.wrap (B - fixd B P I J) = B - fixd B P I J := by rw [IntKind.wrap_i64]; omega
  have C1 := Lib.hid c1
  have C2 := Lib.hid c2
  have C3 := Lib.hid c3
  have C4 := Lib.hid c4
  clear G hg c1 c2 c3 c4
  go_enter Try.func68, Try.ntmps68
  go_wp2_with fail
  rw [HW.out]
  refine (rGroups_any _ _ _ _ _).mono ?_
  rintro e w1 ⟨rfl, hb1⟩
  have B1 := Lib.hid (below_all B0.out B0.out.size hb1)
  have s1 := K0.out.belowAll hb1
  clear hb1 q0 q1 q2 q3 q4 q5 q6 q7 q8
  have SC := sup_cells s1
  obtain ⟨q0, q1, q2, q3, q4, q5, q6, q7, q8⟩ := SC
  go_wp2_with fail
  clear q0 q1 q2 q3 q4 q5 q6 q7 q8 hw
  have SC := sup_cells s1
  refine region_mix [true, true, true, true, true, true, true, false] (S := fun w' => w'.cell? ⟨w.heap.size, 0, none⟩ = some (.int .i64 B) ∧ w'.cell? ⟨w.heap.size, 1, none⟩ = some (.int .i64 P) ∧ w'.cell? ⟨w.heap.size, 2, none⟩ = some (.int .i64 I) ∧ w'.cell? ⟨w.heap.size, 3, none⟩ = some (.int .i64 J) ∧ w'.cell? ⟨w.heap.size, 4, none⟩ = some (.int .i64 fb) ∧ w'.cell? ⟨w.heap.size, 5, none⟩ = some (.int .i64 fi) ∧ w'.cell? ⟨w.heap.size, 6, none⟩ = some (.int .i64 o) ∧ w'.cell? ⟨w.heap.size, 7, none⟩ = some (.int .i64 m) ∧ w'.cell? ⟨w.heap.size, 8, none⟩ = some (.bool cl)) (by kernel_rfl) (by kernel_rfl) (fun _ _ d _ _ h => by cases d <;> exact h) SC ?_
  clear SC
  iterate 7 (refine mix_take (v := ?_) (by kernel_rfl) ?_ (fun K hK => ?_); rotate_left; (· (intro w' hSw; (try dsimp only at hSw); go_simp; with_reducible rfl)); simp only [Act.put, List.setIfInBounds_toArray, List.set_cons_zero, List.set_cons_succ]; refine hK _ ?_; clear hK K)
  refine mix_do (E := False) (fun K hK => ?_) (by kernel_rfl)
  go_simp
  go_at_call 95
  refine (rfixed_any _ _ _ _ _).mono ?_
  rintro e w2 ⟨rfl, hb2⟩
  have s2 := s1.drew.belowAll hb2
  have B2 := Lib.hid (below_all B1.out.drew B1.out.size hb2)
  clear hb2 s1
  refine hK.out _ _ (sup_cells s2) ?_
  clear hK K
  try simp only [Act.put, List.setIfInBounds_toArray, List.set_cons_zero, List.set_cons_succ]
  refine mix_still ?_
  obtain ⟨q0, q1, q2, q3, q4, q5, q6, q7, q8⟩ := sup_cells s2
  iterate 1 (refine still_take (v := ?_) (by kernel_rfl) ?_ (fun K hK => ?_); rotate_left; (· (go_simp; with_reducible rfl)); simp only [Act.put, List.setIfInBounds_toArray, List.set_cons_zero, List.set_cons_succ]; refine hK _ ?_; clear hK K)
  refine still_call_ (v := ?_) (f := ?_) (args := ?_) (by kernel_rfl) ?_ ?_ (fun K hK => ?_)
  rotate_left 3
  · (go_simp; constructor <;> rfl)
  · exact wq C1.out w2
  simp only [Act.put, List.setIfInBounds_toArray, List.set_cons_zero, List.set_cons_succ]
  refine hK _ ?_
  clear hK K
  iterate 1 (refine still_take (v := ?_) (by kernel_rfl) ?_ (fun K hK => ?_); rotate_left; (· (go_simp; with_reducible rfl)); simp only [Act.put, List.setIfInBounds_toArray, List.set_cons_zero, List.set_cons_succ]; refine hK _ ?_; clear hK K)
  iterate 3 (refine still_take (v := ?_) (by kernel_rfl) ?_ (fun K hK => ?_); rotate_left; (· (go_simp; with_reducible rfl)); simp only [Act.put, List.setIfInBounds_toArray, List.set_cons_zero, List.set_cons_succ]; refine hK _ ?_; clear hK K)
  refine still_call_ (v := ?_) (f := ?_) (args := ?_) (by kernel_rfl) ?_ ?_ (fun K hK => ?_)
  rotate_left 3
  · (go_simp; constructor <;> rfl)
  · exact wq C2.out w2
  simp only [Act.put, List.setIfInBounds_toArray, List.set_cons_zero, List.set_cons_succ]
  refine hK _ ?_
  clear hK K
  iterate 2 (refine still_take (v := ?_) (by kernel_rfl) ?_ (fun K hK => ?_); rotate_left; (· (go_simp; with_reducible rfl)); simp only [Act.put, List.setIfInBounds_toArray, List.set_cons_zero, List.set_cons_succ]; refine hK _ ?_; clear hK K)
  iterate 3 (refine still_take (v := ?_) (by kernel_rfl) ?_ (fun K hK => ?_); rotate_left; (· (go_simp; with_reducible rfl)); simp only [Act.put, List.setIfInBounds_toArray, List.set_cons_zero, List.set_cons_succ]; refine hK _ ?_; clear hK K)
  refine still_call_ (v := ?_) (f := ?_) (args := ?_) (by kernel_rfl) ?_ ?_ (fun K hK => ?_)
  rotate_left 3
  · (go_simp; constructor <;> rfl)
  · exact wq C3.out w2
  simp only [Act.put, List.setIfInBounds_toArray, List.set_cons_zero, List.set_cons_succ]
  refine hK _ ?_
  clear hK K
  iterate 2 (refine still_take (v := ?_) (by kernel_rfl) ?_ (fun K hK => ?_); rotate_left; (· (go_simp; with_reducible rfl)); simp only [Act.put, List.setIfInBounds_toArray, List.set_cons_zero, List.set_cons_succ]; refine hK _ ?_; clear hK K)
  iterate 2 (refine still_take (v := ?_) (by kernel_rfl) ?_ (fun K hK => ?_); rotate_left; (· (go_simp; with_reducible rfl)); simp only [Act.put, List.setIfInBounds_toArray, List.set_cons_zero, List.set_cons_succ]; refine hK _ ?_; clear hK K)
  refine still_call_ (v := ?_) (f := ?_) (args := ?_) (by kernel_rfl) ?_ ?_ (fun K hK => ?_)
  rotate_left 3
  · (go_simp; constructor <;> rfl)
  · exact wq C4.out w2
  simp only [Act.put, List.setIfInBounds_toArray, List.set_cons_zero, List.set_cons_succ]
  refine hK _ ?_
  clear hK K
  iterate 2 (refine still_take (v := ?_) (by kernel_rfl) ?_ (fun K hK => ?_); rotate_left; (· (go_simp; with_reducible rfl)); simp only [Act.put, List.setIfInBounds_toArray, List.set_cons_zero, List.set_cons_succ]; refine hK _ ?_; clear hK K)
  refine still_end ?_
  go_wp2
  go_ret
  exact ⟨rfl, B2.out⟩

theorem superMay_any (B P I J fb fi o m : Int) (cl : Bool) (w : World) :
    Calls Try.prog 68 #[.agg #[.int .i64 B, .int .i64 P, .int .i64 I, .int .i64 J, .int .i64 fb, .int .i64 fi, .int .i64 o, .int .i64 m, .bool cl]] w fun e w' =>  e = .returned (.bool (supOk B P I J fb fi o m)) ∧ Below w.heap.size w w' := by
  cases hg : gok B P I J
  · rw [show supOk B P I J fb fi o m = false by simp [supOk, hg]]; exact superMay_geo B P I J fb fi o m cl w hg
  cases c1 : rg fb 0 (B - fixd B P I J)
  · rw [show supOk B P I J fb fi o m = false by simp [supOk, c1]]; exact superMay_1 B P I J fb fi o m cl w hg c1
  cases c2 : rg fi 0 (grp B P I J * I)
  · rw [show supOk B P I J fb fi o m = false by simp [supOk, c2]]; exact superMay_2 B P I J fb fi o m cl w hg c1 c2
  cases c3 : rg o 0 (grp B P I J * I)
  · rw [show supOk B P I J fb fi o m = false by simp [supOk, c3]]; exact superMay_3 B P I J fb fi o m cl w hg c1 c2 c3
  cases c4 : rg m 0 2147483647
  · rw [show supOk B P I J fb fi o m = false by simp [supOk, c4]]; exact superMay_4 B P I J fb fi o m cl w hg c1 c2 c3 c4
  · rw [show supOk B P I J fb fi o m = true by simp [supOk, hg, c1, c2, c3, c4]]; exact superMay_5 B P I J fb fi o m cl w hg c1 c2 c3 c4

theorem superL_u64 {B P I J fb fi o m : Int} (cl : Bool) (z0 : 0 ≤ B) (z1 : 0 ≤ P) (z2 : 0 ≤ I) (z3 : 0 ≤ J) (z4 : 0 ≤ fb) (z5 : 0 ≤ fi) (z6 : 0 ≤ o) (z7 : 0 ≤ m) :
    nums (superL B P I J fb fi o m cl) = [.int .u64 1213813321, .int .u64 1, .int .u64 B, .int .u64 P, .int .u64 I, .int .u64 J, .int .u64 fb, .int .u64 fi, .int .u64 o, .int .u64 m, .int .u64 (if cl then 1 else 0)] := by
  simp only [superL, nums, List.map_cons, List.map_nil, Int.toNat_of_nonneg z0, Int.toNat_of_nonneg z1, Int.toNat_of_nonneg z2, Int.toNat_of_nonneg z3, Int.toNat_of_nonneg z4, Int.toNat_of_nonneg z5, Int.toNat_of_nonneg z6, Int.toNat_of_nonneg z7]
  cases cl <;> rfl
theorem packSuperR_any (B P I J fb fi o m : Int) (cl : Bool) (w : World) :
    Calls Try.prog 23 #[.agg #[.int .i64 B, .int .i64 P, .int .i64 I, .int .i64 J, .int .i64 fb, .int .i64 fi, .int .i64 o, .int .i64 m, .bool cl]] w fun e w' =>  ∃ v, e = .returned (.tuple #[v, .int .i64 (supE B P I J fb fi o m)]) ∧ Below w.heap.size w w' ∧ w'.ownsRow w.heap.size 5 1 v (supB B P I J fb fi o m cl).length (bvl (supB B P I J fb fi o m cl)) := by
  obtain ⟨W, hW⟩ : ∃ W, w.alloc (.cells #[.int .i64 B, .int .i64 P, .int .i64 I, .int .i64 J, .int .i64 fb, .int .i64 fi, .int .i64 o, .int .i64 m, .bool cl] 39) = W := ⟨_, rfl⟩
  have b0 : Blk W w.heap.size 39 #[.int .i64 B, .int .i64 P, .int .i64 I, .int .i64 J, .int .i64 fb, .int .i64 fi, .int .i64 o, .int .i64 m, .bool cl] := by rw [← hW]; exact Blk.new w _ _
  have B0 := Lib.hid (show Below w.heap.size w W by rw [← hW]; exact (Below.refl w.heap.size w).alloc (Nat.le_refl _) _)
  obtain ⟨q0, q1, q2, q3, q4, q5, q6, q7, q8⟩ := sup_cells b0
  have HW := Lib.hid hW
  have K0 := Lib.hid b0
  clear hW b0
  cases hok : supOk B P I J fb fi o m
  · have e1 : supE B P I J fb fi o m = 22 := by simp [supE, hok]
    have e2 : supB B P I J fb fi o m cl = [] := by simp [supB, hok]
    have E1 := Lib.hid e1
    have E2 := Lib.hid e2
    have HOK := Lib.hid hok
    clear e1 e2 hok
    go_enter Try.func23, Try.ntmps23
    go_wp2_with fail
    rw [HW.out]
    refine (superMay_any B P I J fb fi o m cl _).mono ?_
    rintro e w1 ⟨rfl, hb1⟩
    have B1 := Lib.hid (below_all B0.out B0.out.size hb1)
    clear hb1 q0 q1 q2 q3 q4 q5 q6 q7 q8
    rw [HOK.out]
    go_wp2_with fail
    go_ret2
    refine ⟨_, by rw [E1.out]; rfl, B1.out, ?_⟩
    rw [E2.out]
    exact World.ownsRow_nil _ _ _ _
  · have e1 : supE B P I J fb fi o m = 0 := by simp [supE, hok]
    have e2 : supB B P I J fb fi o m cl = sealB 0#32 (packB (superL B P I J fb fi o m cl) superWs 256) := by simp [supB, hok]
    have E1 := Lib.hid e1
    have E2 := Lib.hid e2
    have HOK := Lib.hid hok
    obtain ⟨hg, c1, c2, c3, c4⟩ := supOk_parts hok
    have hcs := sup_nat hg c1 c2 c3 c4
    obtain ⟨⟨z0, y0⟩, ⟨z1, y1⟩, ⟨z2, y2⟩, ⟨z3, y3⟩, ⟨z4, y4⟩, ⟨z5, y5⟩, ⟨z6, y6⟩, ⟨z7, y7⟩⟩ := id hcs
    have HSI := Lib.hid (superL_u64 cl z0 z1 z2 z3 z4 z5 z6 z7)
    have H63 := Lib.hid (superL_le cl hcs)
    clear e1 e2 hok hg c1 c2 c3 c4 hcs
    go_enter Try.func23, Try.ntmps23
    go_wp2_with fail
    rw [HW.out]
    refine (superMay_any B P I J fb fi o m cl _).mono ?_
    rintro e w1 ⟨rfl, hb1⟩
    have B1 := Lib.hid (below_all B0.out B0.out.size hb1)
    have s1 := K0.out.belowAll hb1
    have hz1 : w.heap.size < w1.heap.size := by
      have h1 := hb1.size
      rw [← HW.out] at h1
      simp at h1; omega
    clear hb1 q0 q1 q2 q3 q4 q5 q6 q7 q8
    obtain ⟨q0, q1, q2, q3, q4, q5, q6, q7, q8⟩ := sup_cells s1
    rw [HOK.out]
    obtain ⟨W1, hW1⟩ : ∃ W1, w1.alloc (.cells #[.int .i64 B, .int .i64 P, .int .i64 I, .int .i64 J] 37) = W1 := ⟨_, rfl⟩
    have B2 := Lib.hid (show Below w.heap.size w W1 by rw [← hW1]; exact B1.out.alloc B1.out.size _)
    have HW1 := Lib.hid hW1
    clear hW1
    have l1 := fun c => (lit_rowN W1 84 [.int .u64 1213813321, .int .u64 1, .int .u64 B, .int .u64 P, .int .u64 I, .int .u64 J, .int .u64 fb, .int .u64 fi, .int .u64 o, .int .u64 m, .int .u64 c] 11 W1.heap.size rfl rfl).alloc (.cells (ints superWs).toArray 3)
    have l2 := fun c => lit_rowN (W1.alloc (.cells #[.int .u64 1213813321, .int .u64 1, .int .u64 B, .int .u64 P, .int .u64 I, .int .u64 J, .int .u64 fb, .int .u64 fi, .int .u64 o, .int .u64 m, .int .u64 c] 84)) 3 (ints superWs) 11 (W1.heap.size + 1) rfl (by simp)
    have B3 := Lib.hid (fun c => (B2.out.alloc B2.out.size (.cells #[.int .u64 1213813321, .int .u64 1, .int .u64 B, .int .u64 P, .int .u64 I, .int .u64 J, .int .u64 fb, .int .u64 fi, .int .u64 o, .int .u64 m, .int .u64 c] 84)).alloc (by simp; have := B2.out.size; omega) (.cells (ints superWs).toArray 3))
    have L1 := Lib.hid l1
    have L2 := Lib.hid l2
    clear l1 l2
    have hz2 := B2.out.size
    have hbl : ∀ x ∈ superL B P I J fb fi o m cl, x < 18446744073709551616 := fun x hx => by have := H63.out x hx; omega
    have HBL := Lib.hid hbl
    clear hbl
    cases cl
    · have HSJ := HSI.out
      simp only [Bool.false_eq_true, if_false, if_true] at HSJ
      have HSI2 := Lib.hid HSJ
      clear HSJ
      obtain ⟨pb, hpb⟩ : ∃ pb, packB (superL B P I J fb fi o m false) superWs 256 = pb := ⟨_, rfl⟩
      obtain ⟨n, hpn⟩ : ∃ n, pb.length = n := ⟨_, rfl⟩
      have HP := ref_pack_any (some ⟨W1.heap.size, 0, none⟩) (some ⟨W1.heap.size + 1, 0, none⟩) 11 11 11 11 (superL B P I J fb fi o m false) superWs 256 _ (by omega) HBL.out (by rw [HSI2.out]; exact L1.out _) (L2.out _)
      have hsW : W1.heap.size = w1.heap.size + 1 := by rw [← HW1.out]; simp
      rw [hpb, hpn, hsW] at HP
      clear hsW
      have HPP := Lib.hid HP
      have hpl := sealB_length 0#32 pb
      have HPL := Lib.hid hpl
      have HPB := Lib.hid hpb
      have HN := Lib.hid hpn
      clear hpl hpb hpn HP
      generalize packE (superL B P I J fb fi o m false) superWs 256 = pe at HPP
      go_wp2_with fail
      rw [HW1.out]
      refine HPP.out.mono ?_
      rintro e w3 ⟨v3, rfl, hb3, ho3⟩
      have B4 := Lib.hid (below_all (B3.out _) (B3.out _).size hb3)
      obtain ⟨A3, c3, rfl, _, _, _, _, _⟩ := own_slice ho3
      have O3 := Lib.hid (own_mono ho3 (B3.out _).size)
      clear hb3 ho3 q0 q1 q2 q3 q4 q5 q6 q7 q8
      have HS := Lib.hid (ref_seal_row w.heap.size n c3 A3 pb 0#32 w3 HN.out O3.out)
      go_wp2_with fail
      refine HS.out.mono ?_
      rintro e w4 ⟨rfl, ho4, hg4⟩
      have O4 := Lib.hid ho4
      have B5 := Lib.hid (below_own O3.out B4.out (Nat.le_refl _) hg4)
      clear ho4 hg4
      go_wp2_with fail
      go_ret2
      refine ⟨_, by rw [E1.out]; rfl, B5.out, ?_⟩
      rw [E2.out, HPB.out, HPL.out, HN.out]
      exact O4.out
    · have HSJ := HSI.out
      simp only [Bool.false_eq_true, if_false, if_true] at HSJ
      have HSI2 := Lib.hid HSJ
      clear HSJ
      obtain ⟨pb, hpb⟩ : ∃ pb, packB (superL B P I J fb fi o m true) superWs 256 = pb := ⟨_, rfl⟩
      obtain ⟨n, hpn⟩ : ∃ n, pb.length = n := ⟨_, rfl⟩
      have HP := ref_pack_any (some ⟨W1.heap.size, 0, none⟩) (some ⟨W1.heap.size + 1, 0, none⟩) 11 11 11 11 (superL B P I J fb fi o m true) superWs 256 _ (by omega) HBL.out (by rw [HSI2.out]; exact L1.out _) (L2.out _)
      have hsW : W1.heap.size = w1.heap.size + 1 := by rw [← HW1.out]; simp
      rw [hpb, hpn, hsW] at HP
      clear hsW
      have HPP := Lib.hid HP
      have hpl := sealB_length 0#32 pb
      have HPL := Lib.hid hpl
      have HPB := Lib.hid hpb
      have HN := Lib.hid hpn
      clear hpl hpb hpn HP
      generalize packE (superL B P I J fb fi o m true) superWs 256 = pe at HPP
      go_wp2_with fail
      rw [HW1.out]
      refine HPP.out.mono ?_
      rintro e w3 ⟨v3, rfl, hb3, ho3⟩
      have B4 := Lib.hid (below_all (B3.out _) (B3.out _).size hb3)
      obtain ⟨A3, c3, rfl, _, _, _, _, _⟩ := own_slice ho3
      have O3 := Lib.hid (own_mono ho3 (B3.out _).size)
      clear hb3 ho3 q0 q1 q2 q3 q4 q5 q6 q7 q8
      have HS := Lib.hid (ref_seal_row w.heap.size n c3 A3 pb 0#32 w3 HN.out O3.out)
      go_wp2_with fail
      refine HS.out.mono ?_
      rintro e w4 ⟨rfl, ho4, hg4⟩
      have O4 := Lib.hid ho4
      have B5 := Lib.hid (below_own O3.out B4.out (Nat.le_refl _) hg4)
      clear ho4 hg4
      go_wp2_with fail
      go_ret2
      refine ⟨_, by rw [E1.out]; rfl, B5.out, ?_⟩
      rw [E2.out, HPB.out, HPL.out, HN.out]
      exact O4.out

end Go.Proofs.Ytafonjnanfekkaa.Lay
