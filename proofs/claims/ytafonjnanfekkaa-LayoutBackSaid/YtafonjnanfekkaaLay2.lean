
/-
  THE WALK of layout.PackSuper.
-/
import Derived.Test.YtafonjnanfekkaaLay1
import Derived.Test.YtafonjnanfekkaaSupM
import Derived.Test.YtafonjnanfekkaaR
namespace Go.Proofs.Ytafonjnanfekkaa.Lay
open Go.RowKit Go.Proofs.Ytafonjnanfekkaa.Wire
set_option maxHeartbeats 8000000
set_option maxRecDepth 100000
set_option linter.unusedVariables false
set_option linter.unusedSimpArgs false

theorem sup_cells {w' : World} {g : Nat} {B P I J fb fi o m : Int} {cl : Bool} (h : Blk w' g 39 #[.int .i64 B, .int .i64 P, .int .i64 I, .int .i64 J, .int .i64 fb, .int .i64 fi, .int .i64 o, .int .i64 m, .bool cl]) : w'.cell? ⟨g, 0, none⟩ = some (.int .i64 B) ∧ w'.cell? ⟨g, 1, none⟩ = some (.int .i64 P) ∧ w'.cell? ⟨g, 2, none⟩ = some (.int .i64 I) ∧ w'.cell? ⟨g, 3, none⟩ = some (.int .i64 J) ∧ w'.cell? ⟨g, 4, none⟩ = some (.int .i64 fb) ∧ w'.cell? ⟨g, 5, none⟩ = some (.int .i64 fi) ∧ w'.cell? ⟨g, 6, none⟩ = some (.int .i64 o) ∧ w'.cell? ⟨g, 7, none⟩ = some (.int .i64 m) ∧ w'.cell? ⟨g, 8, none⟩ = some (.bool cl) :=
  ⟨h.cell 0, h.cell 1, h.cell 2, h.cell 3, h.cell 4, h.cell 5, h.cell 6, h.cell 7, h.cell 8⟩
theorem geo_cells {w' : World} {g : Nat} {B P I J : Int} (h : Blk w' g 37 #[.int .i64 B, .int .i64 P, .int .i64 I, .int .i64 J]) : w'.cell? ⟨g, 0, none⟩ = some (.int .i64 B) ∧ w'.cell? ⟨g, 1, none⟩ = some (.int .i64 P) ∧ w'.cell? ⟨g, 2, none⟩ = some (.int .i64 I) ∧ w'.cell? ⟨g, 3, none⟩ = some (.int .i64 J) :=
  ⟨h.cell 0, h.cell 1, h.cell 2, h.cell 3⟩
theorem rq {x lo hi : Int} {b : Bool} (h : rg x lo hi = b) (w : World) : Calls Try.prog 64 #[.int .i64 x, .int .i64 lo, .int .i64 hi] w fun e w' => e = .returned (.bool b) ∧ w' = w :=
  (ranged_any x lo hi w).mono fun _ _ ⟨he, hw⟩ => ⟨by rw [he, h], hw.symm⟩
theorem boxes2 (w : World) (c0 c1 : Array Value) (t0 t1 : TypeId) (W : World) (hW : (w.alloc (.cells c0 t0)).alloc (.cells c1 t1) = W) :
    Blk W w.heap.size t0 c0 ∧ Blk W (w.heap.size + 1) t1 c1 ∧ Below w.heap.size w W ∧ W.heap.size = w.heap.size + 1 + 1 := by
  subst hW
  refine ⟨(Blk.new w t0 c0).alloc _, ?_, ?_, by simp⟩
  · have := Blk.new (w.alloc (.cells c0 t0)) t1 c1
    simpa using this
  · exact ((Below.refl w.heap.size w).alloc (Nat.le_refl _) _).alloc (by simp) _

theorem packSuper_geo (B P I J fb fi o m : Int) (cl : Bool) (w : World) (hg : gok B P I J = false) :
    Calls Try.prog 22 #[.agg #[.int .i64 B, .int .i64 P, .int .i64 I, .int .i64 J, .int .i64 fb, .int .i64 fi, .int .i64 o, .int .i64 m, .bool cl]] w fun e w' =>  e = .returned (.tuple #[.slice none 0 0, .int .i64 22]) ∧ Below w.heap.size w w' := by
  obtain ⟨W, hW⟩ : ∃ W, (w.alloc (.cells #[.int .i64 B, .int .i64 P, .int .i64 I, .int .i64 J, .int .i64 fb, .int .i64 fi, .int .i64 o, .int .i64 m, .bool cl] 39)).alloc (.cells #[.int .i64 B, .int .i64 P, .int .i64 I, .int .i64 J] 37) = W := ⟨_, rfl⟩
  obtain ⟨b0, b1, hbel, hsz⟩ := boxes2 w _ _ _ _ W hW
  have HW := Lib.hid hW
  have HBEL := Lib.hid hbel
  have hszW : w.heap.size + 2 ≤ W.heap.size := by omega
  clear hW hbel hsz
  have hgr := grp_no hg
  have hw : IntKind.i64.wrap (grp B P I J * I) = grp B P I J * I := by rw [hgr, Int.zero_mul, IntKind.wrap_i64]; rfl
  have hz : (grp B P I J * I == 0) = true := by rw [hgr, Int.zero_mul]; rfl
  clear hgr hg
  go_enter Try.func22, Try.ntmps22
  go_wp2_with fail
  rw [HW.out]
  go_region_held3 (fun w' => w'.cell? ⟨w.heap.size + 1, 0, none⟩ = some (.int .i64 B) ∧ w'.cell? ⟨w.heap.size + 1, 1, none⟩ = some (.int .i64 P) ∧ w'.cell? ⟨w.heap.size + 1, 2, none⟩ = some (.int .i64 I) ∧ w'.cell? ⟨w.heap.size + 1, 3, none⟩ = some (.int .i64 J)) (first | exact geo_cells b1.drew | exact geo_cells ((b1.drew).belowAll hb)) (first | (go_simp; go_at_call 62; refine (lgroups_any _ _ _ _ _).mono ?_; rintro e w1 ⟨rfl, hb⟩))
  have s1 := (b0.drew).belowAll hb
  have g1 := (b1.drew).belowAll hb
  have B1 := Lib.hid (HBEL.out.drew.trans (hb.mono HBEL.out.size))
  have hz1 := hb.size
  clear hb b0 b1
  clear hw
  go_wp2_with fail
  go_quiet (fail)
  go_wp2
  go_ret2
  exact ⟨rfl, below_drewN B1.out _⟩

theorem packSuper_1 (B P I J fb fi o m : Int) (cl : Bool) (w : World) (hg : gok B P I J = true) (c1 : rg fb 0 (B - fixd B P I J) = false) :
    Calls Try.prog 22 #[.agg #[.int .i64 B, .int .i64 P, .int .i64 I, .int .i64 J, .int .i64 fb, .int .i64 fi, .int .i64 o, .int .i64 m, .bool cl]] w fun e w' =>  e = .returned (.tuple #[.slice none 0 0, .int .i64 22]) ∧ Below w.heap.size w w' := by
  obtain ⟨W, hW⟩ : ∃ W, (w.alloc (.cells #[.int .i64 B, .int .i64 P, .int .i64 I, .int .i64 J, .int .i64 fb, .int .i64 fi, .int .i64 o, .int .i64 m, .bool cl] 39)).alloc (.cells #[.int .i64 B, .int .i64 P, .int .i64 I, .int .i64 J] 37) = W := ⟨_, rfl⟩
  obtain ⟨b0, b1, hbel, hsz⟩ := boxes2 w _ _ _ _ W hW
  have HW := Lib.hid hW
  have HBEL := Lib.hid hbel
  have hszW : w.heap.size + 2 ≤ W.heap.size := by omega
  clear hW hbel hsz
  have G := Geo.of hg
  have i1 := G.i1; have i2 := G.i2; have bb1 := G.b1; have bb2 := G.b2; have pp1 := G.p1; have pp2 := G.p2; have jj1 := G.j1; have jj2 := G.j2
  obtain ⟨gr1, gr2⟩ : 1 ≤ grp B P I J ∧ grp B P I J ≤ 14 := by rw [grp_yes hg]; have := G.n1; have := G.n2; omega
  have m1 : grp B P I J * I ≤ 14 * 512 := Int.mul_le_mul gr2 i2 (by omega) (by omega)
  have m0 : 1 * 8 ≤ grp B P I J * I := Int.mul_le_mul gr1 i1 (by omega) (by omega)
  obtain ⟨f0, f1⟩ := fixd_le hg
  have hw : IntKind.i64.wrap (grp B P I J * I) = grp B P I J * I := by rw [IntKind.wrap_i64]; omega
  have hz : (grp B P I J * I == 0) = false := by simp; omega
  have hw2 : IntKind.i64.wrap (B - fixd B P I J) = B - fixd B P I J := by rw [IntKind.wrap_i64]; omega
  have C1 := Lib.hid c1
  clear G hg c1
  go_enter Try.func22, Try.ntmps22
  go_wp2_with fail
  rw [HW.out]
  go_region_held3 (fun w' => w'.cell? ⟨w.heap.size + 1, 0, none⟩ = some (.int .i64 B) ∧ w'.cell? ⟨w.heap.size + 1, 1, none⟩ = some (.int .i64 P) ∧ w'.cell? ⟨w.heap.size + 1, 2, none⟩ = some (.int .i64 I) ∧ w'.cell? ⟨w.heap.size + 1, 3, none⟩ = some (.int .i64 J)) (first | exact geo_cells b1.drew | exact geo_cells ((b1.drew).belowAll hb)) (first | (go_simp; go_at_call 62; refine (lgroups_any _ _ _ _ _).mono ?_; rintro e w1 ⟨rfl, hb⟩))
  have s1 := (b0.drew).belowAll hb
  have g1 := (b1.drew).belowAll hb
  have B1 := Lib.hid (HBEL.out.drew.trans (hb.mono HBEL.out.size))
  have hz1 := hb.size
  clear hb b0 b1
  clear hw
  have SC := sup_cells s1
  have GC := geo_cells g1
  go_wp2_with fail
  refine region_mix [true, true, true, true, true, true, true, true, false] (S := fun w' => (w'.cell? ⟨w.heap.size, 0, none⟩ = some (.int .i64 B) ∧ w'.cell? ⟨w.heap.size, 1, none⟩ = some (.int .i64 P) ∧ w'.cell? ⟨w.heap.size, 2, none⟩ = some (.int .i64 I) ∧ w'.cell? ⟨w.heap.size, 3, none⟩ = some (.int .i64 J) ∧ w'.cell? ⟨w.heap.size, 4, none⟩ = some (.int .i64 fb) ∧ w'.cell? ⟨w.heap.size, 5, none⟩ = some (.int .i64 fi) ∧ w'.cell? ⟨w.heap.size, 6, none⟩ = some (.int .i64 o) ∧ w'.cell? ⟨w.heap.size, 7, none⟩ = some (.int .i64 m) ∧ w'.cell? ⟨w.heap.size, 8, none⟩ = some (.bool cl)) ∧ (w'.cell? ⟨w.heap.size + 1, 0, none⟩ = some (.int .i64 B) ∧ w'.cell? ⟨w.heap.size + 1, 1, none⟩ = some (.int .i64 P) ∧ w'.cell? ⟨w.heap.size + 1, 2, none⟩ = some (.int .i64 I) ∧ w'.cell? ⟨w.heap.size + 1, 3, none⟩ = some (.int .i64 J))) (by kernel_rfl) (by kernel_rfl) (fun _ _ d _ _ h => by cases d <;> exact h) ⟨SC, GC⟩ ?_
  clear SC GC
  iterate 8 (refine mix_take (v := ?_) (by kernel_rfl) ?_ (fun K hK => ?_); rotate_left; (· (intro w' hSw; (try dsimp only at hSw); go_simp; with_reducible rfl)); simp only [Act.put, List.setIfInBounds_toArray, List.set_cons_zero, List.set_cons_succ]; refine hK _ ?_; clear hK K)
  refine mix_do (E := False) (fun K hK => ?_) (by kernel_rfl)
  go_simp
  go_at_call 63
  refine (lfixed_any _ _ _ _ _).mono ?_
  rintro e w2 ⟨rfl, hb2⟩
  have s2 := s1.drew.belowAll hb2
  have g2 := g1.drew.belowAll hb2
  have B2 := Lib.hid (below_all B1.out.drew B1.out.size hb2)
  have hz2 : w1.heap.size ≤ w2.heap.size := hb2.size
  clear hb2 s1 g1
  refine hK.out _ _ (⟨sup_cells s2, geo_cells g2⟩) ?_
  clear hK K
  try simp only [Act.put, List.setIfInBounds_toArray, List.set_cons_zero, List.set_cons_succ]
  refine mix_still ?_
  obtain ⟨q0, q1, q2, q3, q4, q5, q6, q7, q8⟩ := sup_cells s2
  obtain ⟨r0, r1, r2, r3⟩ := geo_cells g2
  iterate 1 (refine still_take (v := ?_) (by kernel_rfl) ?_ (fun K hK => ?_); rotate_left; (· (go_simp; with_reducible rfl)); simp only [Act.put, List.setIfInBounds_toArray, List.set_cons_zero, List.set_cons_succ]; refine hK _ ?_; clear hK K)
  refine still_call_ (v := ?_) (f := ?_) (args := ?_) (by kernel_rfl) ?_ ?_ (fun K hK => ?_)
  rotate_left 3
  · (go_simp; constructor <;> rfl)
  · exact rq C1.out w2
  simp only [Act.put, List.setIfInBounds_toArray, List.set_cons_zero, List.set_cons_succ]
  refine hK _ ?_
  clear hK K
  iterate 3 (refine still_take (v := ?_) (by kernel_rfl) ?_ (fun K hK => ?_); rotate_left; (· (go_simp; with_reducible rfl)); simp only [Act.put, List.setIfInBounds_toArray, List.set_cons_zero, List.set_cons_succ]; refine hK _ ?_; clear hK K)
  iterate 5 (refine still_skip ?_ ?_; (· kernel_rfl); intro K hK; simp only [Act.put, List.setIfInBounds_toArray, List.set_cons_zero, List.set_cons_succ]; apply hK; clear hK K)
  iterate 2 (refine still_take (v := ?_) (by kernel_rfl) ?_ (fun K hK => ?_); rotate_left; (· (go_simp; with_reducible rfl)); simp only [Act.put, List.setIfInBounds_toArray, List.set_cons_zero, List.set_cons_succ]; refine hK _ ?_; clear hK K)
  iterate 5 (refine still_skip ?_ ?_; (· kernel_rfl); intro K hK; simp only [Act.put, List.setIfInBounds_toArray, List.set_cons_zero, List.set_cons_succ]; apply hK; clear hK K)
  iterate 2 (refine still_take (v := ?_) (by kernel_rfl) ?_ (fun K hK => ?_); rotate_left; (· (go_simp; with_reducible rfl)); simp only [Act.put, List.setIfInBounds_toArray, List.set_cons_zero, List.set_cons_succ]; refine hK _ ?_; clear hK K)
  iterate 4 (refine still_skip ?_ ?_; (· kernel_rfl); intro K hK; simp only [Act.put, List.setIfInBounds_toArray, List.set_cons_zero, List.set_cons_succ]; apply hK; clear hK K)
  iterate 1 (refine still_take (v := ?_) (by kernel_rfl) ?_ (fun K hK => ?_); rotate_left; (· (go_simp; with_reducible rfl)); simp only [Act.put, List.setIfInBounds_toArray, List.set_cons_zero, List.set_cons_succ]; refine hK _ ?_; clear hK K)
  refine still_end ?_
  go_wp2
  go_ret2
  exact ⟨rfl, B2.out⟩

theorem packSuper_2 (B P I J fb fi o m : Int) (cl : Bool) (w : World) (hg : gok B P I J = true) (c1 : rg fb 0 (B - fixd B P I J) = true) (c2 : rg fi 0 (grp B P I J * I) = false) :
    Calls Try.prog 22 #[.agg #[.int .i64 B, .int .i64 P, .int .i64 I, .int .i64 J, .int .i64 fb, .int .i64 fi, .int .i64 o, .int .i64 m, .bool cl]] w fun e w' =>  e = .returned (.tuple #[.slice none 0 0, .int .i64 22]) ∧ Below w.heap.size w w' := by
  obtain ⟨W, hW⟩ : ∃ W, (w.alloc (.cells #[.int .i64 B, .int .i64 P, .int .i64 I, .int .i64 J, .int .i64 fb, .int .i64 fi, .int .i64 o, .int .i64 m, .bool cl] 39)).alloc (.cells #[.int .i64 B, .int .i64 P, .int .i64 I, .int .i64 J] 37) = W := ⟨_, rfl⟩
  obtain ⟨b0, b1, hbel, hsz⟩ := boxes2 w _ _ _ _ W hW
  have HW := Lib.hid hW
  have HBEL := Lib.hid hbel
  have hszW : w.heap.size + 2 ≤ W.heap.size := by omega
  clear hW hbel hsz
  have G := Geo.of hg
  have i1 := G.i1; have i2 := G.i2; have bb1 := G.b1; have bb2 := G.b2; have pp1 := G.p1; have pp2 := G.p2; have jj1 := G.j1; have jj2 := G.j2
  obtain ⟨gr1, gr2⟩ : 1 ≤ grp B P I J ∧ grp B P I J ≤ 14 := by rw [grp_yes hg]; have := G.n1; have := G.n2; omega
  have m1 : grp B P I J * I ≤ 14 * 512 := Int.mul_le_mul gr2 i2 (by omega) (by omega)
  have m0 : 1 * 8 ≤ grp B P I J * I := Int.mul_le_mul gr1 i1 (by omega) (by omega)
  obtain ⟨f0, f1⟩ := fixd_le hg
  have hw : IntKind.i64.wrap (grp B P I J * I) = grp B P I J * I := by rw [IntKind.wrap_i64]; omega
  have hz : (grp B P I J * I == 0) = false := by simp; omega
  have hw2 : IntKind.i64.wrap (B - fixd B P I J) = B - fixd B P I J := by rw [IntKind.wrap_i64]; omega
  have C1 := Lib.hid c1
  have C2 := Lib.hid c2
  clear G hg c1 c2
  go_enter Try.func22, Try.ntmps22
  go_wp2_with fail
  rw [HW.out]
  go_region_held3 (fun w' => w'.cell? ⟨w.heap.size + 1, 0, none⟩ = some (.int .i64 B) ∧ w'.cell? ⟨w.heap.size + 1, 1, none⟩ = some (.int .i64 P) ∧ w'.cell? ⟨w.heap.size + 1, 2, none⟩ = some (.int .i64 I) ∧ w'.cell? ⟨w.heap.size + 1, 3, none⟩ = some (.int .i64 J)) (first | exact geo_cells b1.drew | exact geo_cells ((b1.drew).belowAll hb)) (first | (go_simp; go_at_call 62; refine (lgroups_any _ _ _ _ _).mono ?_; rintro e w1 ⟨rfl, hb⟩))
  have s1 := (b0.drew).belowAll hb
  have g1 := (b1.drew).belowAll hb
  have B1 := Lib.hid (HBEL.out.drew.trans (hb.mono HBEL.out.size))
  have hz1 := hb.size
  clear hb b0 b1
  clear hw
  have SC := sup_cells s1
  have GC := geo_cells g1
  go_wp2_with fail
  refine region_mix [true, true, true, true, true, true, true, true, false] (S := fun w' => (w'.cell? ⟨w.heap.size, 0, none⟩ = some (.int .i64 B) ∧ w'.cell? ⟨w.heap.size, 1, none⟩ = some (.int .i64 P) ∧ w'.cell? ⟨w.heap.size, 2, none⟩ = some (.int .i64 I) ∧ w'.cell? ⟨w.heap.size, 3, none⟩ = some (.int .i64 J) ∧ w'.cell? ⟨w.heap.size, 4, none⟩ = some (.int .i64 fb) ∧ w'.cell? ⟨w.heap.size, 5, none⟩ = some (.int .i64 fi) ∧ w'.cell? ⟨w.heap.size, 6, none⟩ = some (.int .i64 o) ∧ w'.cell? ⟨w.heap.size, 7, none⟩ = some (.int .i64 m) ∧ w'.cell? ⟨w.heap.size, 8, none⟩ = some (.bool cl)) ∧ (w'.cell? ⟨w.heap.size + 1, 0, none⟩ = some (.int .i64 B) ∧ w'.cell? ⟨w.heap.size + 1, 1, none⟩ = some (.int .i64 P) ∧ w'.cell? ⟨w.heap.size + 1, 2, none⟩ = some (.int .i64 I) ∧ w'.cell? ⟨w.heap.size + 1, 3, none⟩ = some (.int .i64 J))) (by kernel_rfl) (by kernel_rfl) (fun _ _ d _ _ h => by cases d <;> exact h) ⟨SC, GC⟩ ?_
  clear SC GC
  iterate 8 (refine mix_take (v := ?_) (by kernel_rfl) ?_ (fun K hK => ?_); rotate_left; (· (intro w' hSw; (try dsimp only at hSw); go_simp; with_reducible rfl)); simp only [Act.put, List.setIfInBounds_toArray, List.set_cons_zero, List.set_cons_succ]; refine hK _ ?_; clear hK K)
  refine mix_do (E := False) (fun K hK => ?_) (by kernel_rfl)
  go_simp
  go_at_call 63
  refine (lfixed_any _ _ _ _ _).mono ?_
  rintro e w2 ⟨rfl, hb2⟩
  have s2 := s1.drew.belowAll hb2
  have g2 := g1.drew.belowAll hb2
  have B2 := Lib.hid (below_all B1.out.drew B1.out.size hb2)
  have hz2 : w1.heap.size ≤ w2.heap.size := hb2.size
  clear hb2 s1 g1
  refine hK.out _ _ (⟨sup_cells s2, geo_cells g2⟩) ?_
  clear hK K
  try simp only [Act.put, List.setIfInBounds_toArray, List.set_cons_zero, List.set_cons_succ]
  refine mix_still ?_
  obtain ⟨q0, q1, q2, q3, q4, q5, q6, q7, q8⟩ := sup_cells s2
  obtain ⟨r0, r1, r2, r3⟩ := geo_cells g2
  iterate 1 (refine still_take (v := ?_) (by kernel_rfl) ?_ (fun K hK => ?_); rotate_left; (· (go_simp; with_reducible rfl)); simp only [Act.put, List.setIfInBounds_toArray, List.set_cons_zero, List.set_cons_succ]; refine hK _ ?_; clear hK K)
  refine still_call_ (v := ?_) (f := ?_) (args := ?_) (by kernel_rfl) ?_ ?_ (fun K hK => ?_)
  rotate_left 3
  · (go_simp; constructor <;> rfl)
  · exact rq C1.out w2
  simp only [Act.put, List.setIfInBounds_toArray, List.set_cons_zero, List.set_cons_succ]
  refine hK _ ?_
  clear hK K
  iterate 3 (refine still_take (v := ?_) (by kernel_rfl) ?_ (fun K hK => ?_); rotate_left; (· (go_simp; with_reducible rfl)); simp only [Act.put, List.setIfInBounds_toArray, List.set_cons_zero, List.set_cons_succ]; refine hK _ ?_; clear hK K)
  iterate 3 (refine still_take (v := ?_) (by kernel_rfl) ?_ (fun K hK => ?_); rotate_left; (· (go_simp; with_reducible rfl)); simp only [Act.put, List.setIfInBounds_toArray, List.set_cons_zero, List.set_cons_succ]; refine hK _ ?_; clear hK K)
  refine still_call_ (v := ?_) (f := ?_) (args := ?_) (by kernel_rfl) ?_ ?_ (fun K hK => ?_)
  rotate_left 3
  · (go_simp; constructor <;> rfl)
  · exact rq C2.out w2
  simp only [Act.put, List.setIfInBounds_toArray, List.set_cons_zero, List.set_cons_succ]
  refine hK _ ?_
  clear hK K
  iterate 3 (refine still_take (v := ?_) (by kernel_rfl) ?_ (fun K hK => ?_); rotate_left; (· (go_simp; with_reducible rfl)); simp only [Act.put, List.setIfInBounds_toArray, List.set_cons_zero, List.set_cons_succ]; refine hK _ ?_; clear hK K)
  iterate 5 (refine still_skip ?_ ?_; (· kernel_rfl); intro K hK; simp only [Act.put, List.setIfInBounds_toArray, List.set_cons_zero, List.set_cons_succ]; apply hK; clear hK K)
  iterate 2 (refine still_take (v := ?_) (by kernel_rfl) ?_ (fun K hK => ?_); rotate_left; (· (go_simp; with_reducible rfl)); simp only [Act.put, List.setIfInBounds_toArray, List.set_cons_zero, List.set_cons_succ]; refine hK _ ?_; clear hK K)
  iterate 4 (refine still_skip ?_ ?_; (· kernel_rfl); intro K hK; simp only [Act.put, List.setIfInBounds_toArray, List.set_cons_zero, List.set_cons_succ]; apply hK; clear hK K)
  iterate 1 (refine still_take (v := ?_) (by kernel_rfl) ?_ (fun K hK => ?_); rotate_left; (· (go_simp; with_reducible rfl)); simp only [Act.put, List.setIfInBounds_toArray, List.set_cons_zero, List.set_cons_succ]; refine hK _ ?_; clear hK K)
  refine still_end ?_
  go_wp2
  go_ret2
  exact ⟨rfl, B2.out⟩

theorem packSuper_3 (B P I J fb fi o m : Int) (cl : Bool) (w : World) (hg : gok B P I J = true) (c1 : rg fb 0 (B - fixd B P I J) = true) (c2 : rg fi 0 (grp B P I J * I) = true) (c3 : rg o 0 (grp B P I J * I) = false) :
    Calls Try.prog 22 #[.agg #[.int .i64 B, .int .i64 P, .int .i64 I, .int .i64 J, .int .i64 fb, .int .i64 fi, .int .i64 o, .int .i64 m, .bool cl]] w fun e w' =>  e = .returned (.tuple #[.slice none 0 0, .int .i64 22]) ∧ Below w.heap.size w w' := by
  obtain ⟨W, hW⟩ : ∃ W, (w.alloc (.cells #[.int .i64 B, .int .i64 P, .int .i64 I, .int .i64 J, .int .i64 fb, .int .i64 fi, .int .i64 o, .int .i64 m, .bool cl] 39)).alloc (.cells #[.int .i64 B, .int .i64 P, .int .i64 I, .int .i64 J] 37) = W := ⟨_, rfl⟩
  obtain ⟨b0, b1, hbel, hsz⟩ := boxes2 w _ _ _ _ W hW
  have HW := Lib.hid hW
  have HBEL := Lib.hid hbel
  have hszW : w.heap.size + 2 ≤ W.heap.size := by omega
  clear hW hbel hsz
  have G := Geo.of hg
  have i1 := G.i1; have i2 := G.i2; have bb1 := G.b1; have bb2 := G.b2; have pp1 := G.p1; have pp2 := G.p2; have jj1 := G.j1; have jj2 := G.j2
  obtain ⟨gr1, gr2⟩ : 1 ≤ grp B P I J ∧ grp B P I J ≤ 14 := by rw [grp_yes hg]; have := G.n1; have := G.n2; omega
  have m1 : grp B P I J * I ≤ 14 * 512 := Int.mul_le_mul gr2 i2 (by omega) (by omega)
  have m0 : 1 * 8 ≤ grp B P I J * I := Int.mul_le_mul gr1 i1 (by omega) (by omega)
  obtain ⟨f0, f1⟩ := fixd_le hg
  have hw : IntKind.i64.wrap (grp B P I J * I) = grp B P I J * I := by rw [IntKind.wrap_i64]; omega
  have hz : (grp B P I J * I == 0) = false := by simp; omega
  have hw2 : IntKind.i64.wrap (B - fixd B P I J) = B - fixd B P I J := by rw [IntKind.wrap_i64]; omega
  have C1 := Lib.hid c1
  have C2 := Lib.hid c2
  have C3 := Lib.hid c3
  clear G hg c1 c2 c3
  go_enter Try.func22, Try.ntmps22
  go_wp2_with fail
  rw [HW.out]
  go_region_held3 (fun w' => w'.cell? ⟨w.heap.size + 1, 0, none⟩ = some (.int .i64 B) ∧ w'.cell? ⟨w.heap.size + 1, 1, none⟩ = some (.int .i64 P) ∧ w'.cell? ⟨w.heap.size + 1, 2, none⟩ = some (.int .i64 I) ∧ w'.cell? ⟨w.heap.size + 1, 3, none⟩ = some (.int .i64 J)) (first | exact geo_cells b1.drew | exact geo_cells ((b1.drew).belowAll hb)) (first | (go_simp; go_at_call 62; refine (lgroups_any _ _ _ _ _).mono ?_; rintro e w1 ⟨rfl, hb⟩))
  have s1 := (b0.drew).belowAll hb
  have g1 := (b1.drew).belowAll hb
  have B1 := Lib.hid (HBEL.out.drew.trans (hb.mono HBEL.out.size))
  have hz1 := hb.size
  clear hb b0 b1
  clear hw
  have SC := sup_cells s1
  have GC := geo_cells g1
  go_wp2_with fail
  refine region_mix [true, true, true, true, true, true, true, true, false] (S := fun w' => (w'.cell? ⟨w.heap.size, 0, none⟩ = some (.int .i64 B) ∧ w'.cell? ⟨w.heap.size, 1, none⟩ = some (.int .i64 P) ∧ w'.cell? ⟨w.heap.size, 2, none⟩ = some (.int .i64 I) ∧ w'.cell? ⟨w.heap.size, 3, none⟩ = some (.int .i64 J) ∧ w'.cell? ⟨w.heap.size, 4, none⟩ = some (.int .i64 fb) ∧ w'.cell? ⟨w.heap.size, 5, none⟩ = some (.int .i64 fi) ∧ w'.cell? ⟨w.heap.size, 6, none⟩ = some (.int .i64 o) ∧ w'.cell? ⟨w.heap.size, 7, none⟩ = some (.int .i64 m) ∧ w'.cell? ⟨w.heap.size, 8, none⟩ = some (.bool cl)) ∧ (w'.cell? ⟨w.heap.size + 1, 0, none⟩ = some (.int .i64 B) ∧ w'.cell? ⟨w.heap.size + 1, 1, none⟩ = some (.int .i64 P) ∧ w'.cell? ⟨w.heap.size + 1, 2, none⟩ = some (.int .i64 I) ∧ w'.cell? ⟨w.heap.size + 1, 3, none⟩ = some (.int .i64 J))) (by kernel_rfl) (by kernel_rfl) (fun _ _ d _ _ h => by cases d <;> exact h) ⟨SC, GC⟩ ?_
  clear SC GC
  iterate 8 (refine mix_take (v := ?_) (by kernel_rfl) ?_ (fun K hK => ?_); rotate_left; (· (intro w' hSw; (try dsimp only at hSw); go_simp; with_reducible rfl)); simp only [Act.put, List.setIfInBounds_toArray, List.set_cons_zero, List.set_cons_succ]; refine hK _ ?_; clear hK K)
  refine mix_do (E := False) (fun K hK => ?_) (by kernel_rfl)
  go_simp
  go_at_call 63
  refine (lfixed_any _ _ _ _ _).mono ?_
  rintro e w2 ⟨rfl, hb2⟩
  have s2 := s1.drew.belowAll hb2
  have g2 := g1.drew.belowAll hb2
  have B2 := Lib.hid (below_all B1.out.drew B1.out.size hb2)
  have hz2 : w1.heap.size ≤ w2.heap.size := hb2.size
  clear hb2 s1 g1
  refine hK.out _ _ (⟨sup_cells s2, geo_cells g2⟩) ?_
  clear hK K
  try simp only [Act.put, List.setIfInBounds_toArray, List.set_cons_zero, List.set_cons_succ]
  refine mix_still ?_
  obtain ⟨q0, q1, q2, q3, q4, q5, q6, q7, q8⟩ := sup_cells s2
  obtain ⟨r0, r1, r2, r3⟩ := geo_cells g2
  iterate 1 (refine still_take (v := ?_) (by kernel_rfl) ?_ (fun K hK => ?_); rotate_left; (· (go_simp; with_reducible rfl)); simp only [Act.put, List.setIfInBounds_toArray, List.set_cons_zero, List.set_cons_succ]; refine hK _ ?_; clear hK K)
  refine still_call_ (v := ?_) (f := ?_) (args := ?_) (by kernel_rfl) ?_ ?_ (fun K hK => ?_)
  rotate_left 3
  · (go_simp; constructor <;> rfl)
  · exact rq C1.out w2
  simp only [Act.put, List.setIfInBounds_toArray, List.set_cons_zero, List.set_cons_succ]
  refine hK _ ?_
  clear hK K
  iterate 3 (refine still_take (v := ?_) (by kernel_rfl) ?_ (fun K hK => ?_); rotate_left; (· (go_simp; with_reducible rfl)); simp only [Act.put, List.setIfInBounds_toArray, List.set_cons_zero, List.set_cons_succ]; refine hK _ ?_; clear hK K)
  iterate 3 (refine still_take (v := ?_) (by kernel_rfl) ?_ (fun K hK => ?_); rotate_left; (· (go_simp; with_reducible rfl)); simp only [Act.put, List.setIfInBounds_toArray, List.set_cons_zero, List.set_cons_succ]; refine hK _ ?_; clear hK K)
  refine still_call_ (v := ?_) (f := ?_) (args := ?_) (by kernel_rfl) ?_ ?_ (fun K hK => ?_)
  rotate_left 3
  · (go_simp; constructor <;> rfl)
  · exact rq C2.out w2
  simp only [Act.put, List.setIfInBounds_toArray, List.set_cons_zero, List.set_cons_succ]
  refine hK _ ?_
  clear hK K
  iterate 3 (refine still_take (v := ?_) (by kernel_rfl) ?_ (fun K hK => ?_); rotate_left; (· (go_simp; with_reducible rfl)); simp only [Act.put, List.setIfInBounds_toArray, List.set_cons_zero, List.set_cons_succ]; refine hK _ ?_; clear hK K)
  iterate 3 (refine still_take (v := ?_) (by kernel_rfl) ?_ (fun K hK => ?_); rotate_left; (· (go_simp; with_reducible rfl)); simp only [Act.put, List.setIfInBounds_toArray, List.set_cons_zero, List.set_cons_succ]; refine hK _ ?_; clear hK K)
  refine still_call_ (v := ?_) (f := ?_) (args := ?_) (by kernel_rfl) ?_ ?_ (fun K hK => ?_)
  rotate_left 3
  · (go_simp; constructor <;> rfl)
  · exact rq C3.out w2
  simp only [Act.put, List.setIfInBounds_toArray, List.set_cons_zero, List.set_cons_succ]
  refine hK _ ?_
  clear hK K
  iterate 3 (refine still_take (v := ?_) (by kernel_rfl) ?_ (fun K hK => ?_); rotate_left; (· (go_simp; with_reducible rfl)); simp only [Act.put, List.setIfInBounds_toArray, List.set_cons_zero, List.set_cons_succ]; refine hK _ ?_; clear hK K)
  iterate 4 (refine still_skip ?_ ?_; (· kernel_rfl); intro K hK; simp only [Act.put, List.setIfInBounds_toArray, List.set_cons_zero, List.set_cons_succ]; apply hK; clear hK K)
  iterate 1 (refine still_take (v := ?_) (by kernel_rfl) ?_ (fun K hK => ?_); rotate_left; (· (go_simp; with_reducible rfl)); simp only [Act.put, List.setIfInBounds_toArray, List.set_cons_zero, List.set_cons_succ]; refine hK _ ?_; clear hK K)
  refine still_end ?_
  go_wp2
  go_ret2
  exact ⟨rfl, B2.out⟩

theorem packSuper_4 (B P I J fb fi o m : Int) (cl : Bool) (w : World) (hg : gok B P I J = true) (c1 : rg fb 0 (B - fixd B P I J) = true) (c2 : rg fi 0 (grp B P I J * I) = true) (c3 : rg o 0 (grp B P I J * I) = true) (c4 : rg m 0 2147483647 = false) :
    Calls Try.prog 22 #[.agg #[.int .i64 B, .int .i64 P, .int .i64 I, .int .i64 J, .int .i64 fb, .int .i64 fi, .int .i64 o, .int .i64 m, .bool cl]] w fun e w' =>  e = .returned (.tuple #[.slice none 0 0, .int .i64 22]) ∧ Below w.heap.size w w' := by
  obtain ⟨W, hW⟩ : ∃ W, (w.alloc (.cells #[.int .i64 B, .int .i64 P, .int .i64 I, .int .i64 J, .int .i64 fb, .int .i64 fi, .int .i64 o, .int .i64 m, .bool cl] 39)).alloc (.cells #[.int .i64 B, .int .i64 P, .int .i64 I, .int .i64 J] 37) = W := ⟨_, rfl⟩
  obtain ⟨b0, b1, hbel, hsz⟩ := boxes2 w _ _ _ _ W hW
  have HW := Lib.hid hW
  have HBEL := Lib.hid hbel
  have hszW : w.heap.size + 2 ≤ W.heap.size := by omega
  clear hW hbel hsz
  have G := Geo.of hg
  have i1 := G.i1; have i2 := G.i2; have bb1 := G.b1; have bb2 := G.b2; have pp1 := G.p1; have pp2 := G.p2; have jj1 := G.j1; have jj2 := G.j2
  obtain ⟨gr1, gr2⟩ : 1 ≤ grp B P I J ∧ grp B P I J ≤ 14 := by rw [grp_yes hg]; have := G.n1; have := G.n2; omega
  have m1 : grp B P I J * I ≤ 14 * 512 := Int.mul_le_mul gr2 i2 (by omega) (by omega)
  have m0 : 1 * 8 ≤ grp B P I J * I := Int.mul_le_mul gr1 i1 (by omega) (by omega)
  obtain ⟨f0, f1⟩ := fixd_le hg
  have hw : IntKind.i64.wrap (grp B P I J * I) = grp B P I J * I := by rw [IntKind.wrap_i64]; omega
  have hz : (grp B P I J * I == 0) = false := by simp; omega
  have hw2 : IntKind.i64.wrap (B - fixd B P I J) = B - fixd B P I J := by rw [IntKind.wrap_i64]; omega
  have C1 := Lib.hid c1
  have C2 := Lib.hid c2
  have C3 := Lib.hid c3
  have C4 := Lib.hid c4
  clear G hg c1 c2 c3 c4
  go_enter Try.func22, Try.ntmps22
  go_wp2_with fail
  rw [HW.out]
  go_region_held3 (fun w' => w'.cell? ⟨w.heap.size + 1, 0, none⟩ = some (.int .i64 B) ∧ w'.cell? ⟨w.heap.size + 1, 1, none⟩ = some (.int .i64 P) ∧ w'.cell? ⟨w.heap.size + 1, 2, none⟩ = some (.int .i64 I) ∧ w'.cell? ⟨w.heap.size + 1, 3, none⟩ = some (.int .i64 J)) (first | exact geo_cells b1.drew | exact geo_cells ((b1.drew).belowAll hb)) (first | (go_simp; go_at_call 62; refine (lgroups_any _ _ _ _ _).mono ?_; rintro e w1 ⟨rfl, hb⟩))
  have s1 := (b0.drew).belowAll hb
  have g1 := (b1.drew).belowAll hb
  have B1 := Lib.hid (HBEL.out.drew.trans (hb.mono HBEL.out.size))
  have hz1 := hb.size
  clear hb b0 b1
  clear hw
  have SC := sup_cells s1
  have GC := geo_cells g1
  go_wp2_with fail
  refine region_mix [true, true, true, true, true, true, true, true, false] (S := fun w' => (w'.cell? ⟨w.heap.size, 0, none⟩ = some (.int .i64 B) ∧ w'.cell? ⟨w.heap.size, 1, none⟩ = some (.int .i64 P) ∧ w'.cell? ⟨w.heap.size, 2, none⟩ = some (.int .i64 I) ∧ w'.cell? ⟨w.heap.size, 3, none⟩ = some (.int .i64 J) ∧ w'.cell? ⟨w.heap.size, 4, none⟩ = some (.int .i64 fb) ∧ w'.cell? ⟨w.heap.size, 5, none⟩ = some (.int .i64 fi) ∧ w'.cell? ⟨w.heap.size, 6, none⟩ = some (.int .i64 o) ∧ w'.cell? ⟨w.heap.size, 7, none⟩ = some (.int .i64 m) ∧ w'.cell? ⟨w.heap.size, 8, none⟩ = some (.bool cl)) ∧ (w'.cell? ⟨w.heap.size + 1, 0, none⟩ = some (.int .i64 B) ∧ w'.cell? ⟨w.heap.size + 1, 1, none⟩ = some (.int .i64 P) ∧ w'.cell? ⟨w.heap.size + 1, 2, none⟩ = some (.int .i64 I) ∧ w'.cell? ⟨w.heap.size + 1, 3, none⟩ = some (.int .i64 J))) (by kernel_rfl) (by kernel_rfl) (fun _ _ d _ _ h => by cases d <;> exact h) ⟨SC, GC⟩ ?_
  clear SC GC
  iterate 8 (refine mix_take (v := ?_) (by kernel_rfl) ?_ (fun K hK => ?_); rotate_left; (· (intro w' hSw; (try dsimp only at hSw); go_simp; with_reducible rfl)); simp only [Act.put, List.setIfInBounds_toArray, List.set_cons_zero, List.set_cons_succ]; refine hK _ ?_; clear hK K)
  refine mix_do (E := False) (fun K hK => ?_) (by kernel_rfl)
  go_simp
  go_at_call 63
  refine (lfixed_any _ _ _ _ _).mono ?_
  rintro e w2 ⟨rfl, hb2⟩
  have s2 := s1.drew.belowAll hb2
  have g2 := g1.drew.belowAll hb2
  have B2 := Lib.hid (below_all B1.out.drew B1.out.size hb2)
  have hz2 : w1.heap.size ≤ w2.heap.size := hb2.size
  clear hb2 s1 g1
  refine hK.out _ _ (⟨sup_cells s2, geo_cells g2⟩) ?_
  clear hK K
  try simp only [Act.put, List.setIfInBounds_toArray, List.set_cons_zero, List.set_cons_succ]
  refine mix_still ?_
  obtain ⟨q0, q1, q2, q3, q4, q5, q6, q7, q8⟩ := sup_cells s2
  obtain ⟨r0, r1, r2, r3⟩ := geo_cells g2
  iterate 1 (refine still_take (v := ?_) (by kernel_rfl) ?_ (fun K hK => ?_); rotate_left; (· (go_simp; with_reducible rfl)); simp only [Act.put, List.setIfInBounds_toArray, List.set_cons_zero, List.set_cons_succ]; refine hK _ ?_; clear hK K)
  refine still_call_ (v := ?_) (f := ?_) (args := ?_) (by kernel_rfl) ?_ ?_ (fun K hK => ?_)
  rotate_left 3
  · (go_simp; constructor <;> rfl)
  · exact rq C1.out w2
  simp only [Act.put, List.setIfInBounds_toArray, List.set_cons_zero, List.set_cons_succ]
  refine hK _ ?_
  clear hK K
  iterate 3 (refine still_take (v := ?_) (by kernel_rfl) ?_ (fun K hK => ?_); rotate_left; (· (go_simp; with_reducible rfl)); simp only [Act.put, List.setIfInBounds_toArray, List.set_cons_zero, List.set_cons_succ]; refine hK _ ?_; clear hK K)
  iterate 3 (refine still_take (v := ?_) (by kernel_rfl) ?_ (fun K hK => ?_); rotate_left; (· (go_simp; with_reducible rfl)); simp only [Act.put, List.setIfInBounds_toArray, List.set_cons_zero, List.set_cons_succ]; refine hK _ ?_; clear hK K)
  refine still_call_ (v := ?_) (f := ?_) (args := ?_) (by kernel_rfl) ?_ ?_ (fun K hK => ?_)
  rotate_left 3
  · (go_simp; constructor <;> rfl)
  · exact rq C2.out w2
  simp only [Act.put, List.setIfInBounds_toArray, List.set_cons_zero, List.set_cons_succ]
  refine hK _ ?_
  clear hK K
  iterate 3 (refine still_take (v := ?_) (by kernel_rfl) ?_ (fun K hK => ?_); rotate_left; (· (go_simp; with_reducible rfl)); simp only [Act.put, List.setIfInBounds_toArray, List.set_cons_zero, List.set_cons_succ]; refine hK _ ?_; clear hK K)
  iterate 3 (refine still_take (v := ?_) (by kernel_rfl) ?_ (fun K hK => ?_); rotate_left; (· (go_simp; with_reducible rfl)); simp only [Act.put, List.setIfInBounds_toArray, List.set_cons_zero, List.set_cons_succ]; refine hK _ ?_; clear hK K)
  refine still_call_ (v := ?_) (f := ?_) (args := ?_) (by kernel_rfl) ?_ ?_ (fun K hK => ?_)
  rotate_left 3
  · (go_simp; constructor <;> rfl)
  · exact rq C3.out w2
  simp only [Act.put, List.setIfInBounds_toArray, List.set_cons_zero, List.set_cons_succ]
  refine hK _ ?_
  clear hK K
  iterate 3 (refine still_take (v := ?_) (by kernel_rfl) ?_ (fun K hK => ?_); rotate_left; (· (go_simp; with_reducible rfl)); simp only [Act.put, List.setIfInBounds_toArray, List.set_cons_zero, List.set_cons_succ]; refine hK _ ?_; clear hK K)
  iterate 2 (refine still_take (v := ?_) (by kernel_rfl) ?_ (fun K hK => ?_); rotate_left; (· (go_simp; with_reducible rfl)); simp only [Act.put, List.setIfInBounds_toArray, List.set_cons_zero, List.set_cons_succ]; refine hK _ ?_; clear hK K)
  refine still_call_ (v := ?_) (f := ?_) (args := ?_) (by kernel_rfl) ?_ ?_ (fun K hK => ?_)
  rotate_left 3
  · (go_simp; constructor <;> rfl)
  · exact rq C4.out w2
  simp only [Act.put, List.setIfInBounds_toArray, List.set_cons_zero, List.set_cons_succ]
  refine hK _ ?_
  clear hK K
  iterate 2 (refine still_take (v := ?_) (by kernel_rfl) ?_ (fun K hK => ?_); rotate_left; (· (go_simp; with_reducible rfl)); simp only [Act.put, List.setIfInBounds_toArray, List.set_cons_zero, List.set_cons_succ]; refine hK _ ?_; clear hK K)
  refine still_end ?_
  go_wp2
  go_ret2
  exact ⟨rfl, B2.out⟩

theorem packSuper_5 (B P I J fb fi o m : Int) (cl : Bool) (w : World) (hg : gok B P I J = true) (c1 : rg fb 0 (B - fixd B P I J) = true) (c2 : rg fi 0 (grp B P I J * I) = true) (c3 : rg o 0 (grp B P I J * I) = true) (c4 : rg m 0 2147483647 = true) :
    Calls Try.prog 22 #[.agg #[.int .i64 B, .int .i64 P, .int .i64 I, .int .i64 J, .int .i64 fb, .int .i64 fi, .int .i64 o, .int .i64 m, .bool cl]] w fun e w' =>  ∃ v, e = .returned (.tuple #[v, .int .i64 0]) ∧ Below w.heap.size w w' ∧ w'.ownsRow w.heap.size 5 1 v (sealB 0#32 (packB (superL B P I J fb fi o m cl) superWs 256)).length (bvl (sealB 0#32 (packB (superL B P I J fb fi o m cl) superWs 256))) := by
  obtain ⟨W, hW⟩ : ∃ W, (w.alloc (.cells #[.int .i64 B, .int .i64 P, .int .i64 I, .int .i64 J, .int .i64 fb, .int .i64 fi, .int .i64 o, .int .i64 m, .bool cl] 39)).alloc (.cells #[.int .i64 B, .int .i64 P, .int .i64 I, .int .i64 J] 37) = W := ⟨_, rfl⟩
  obtain ⟨b0, b1, hbel, hsz⟩ := boxes2 w _ _ _ _ W hW
  have HW := Lib.hid hW
  have HBEL := Lib.hid hbel
  have hszW : w.heap.size + 2 ≤ W.heap.size := by omega
  clear hW hbel hsz
  have G := Geo.of hg
  have i1 := G.i1; have i2 := G.i2; have bb1 := G.b1; have bb2 := G.b2; have pp1 := G.p1; have pp2 := G.p2; have jj1 := G.j1; have jj2 := G.j2
  obtain ⟨gr1, gr2⟩ : 1 ≤ grp B P I J ∧ grp B P I J ≤ 14 := by rw [grp_yes hg]; have := G.n1; have := G.n2; omega
  have m1 : grp B P I J * I ≤ 14 * 512 := Int.mul_le_mul gr2 i2 (by omega) (by omega)
  have m0 : 1 * 8 ≤ grp B P I J * I := Int.mul_le_mul gr1 i1 (by omega) (by omega)
  obtain ⟨f0, f1⟩ := fixd_le hg
  have hw : IntKind.i64.wrap (grp B P I J * I) = grp B P I J * I := by rw [IntKind.wrap_i64]; omega
  have hz : (grp B P I J * I == 0) = false := by simp; omega
  have hw2 : IntKind.i64.wrap (B - fixd B P I J) = B - fixd B P I J := by rw [IntKind.wrap_i64]; omega
  have hcs := sup_nat hg c1 c2 c3 c4
  have HCS := Lib.hid hcs
  clear hcs
  have C1 := Lib.hid c1
  have C2 := Lib.hid c2
  have C3 := Lib.hid c3
  have C4 := Lib.hid c4
  clear G hg c1 c2 c3 c4
  go_enter Try.func22, Try.ntmps22
  go_wp2_with fail
  rw [HW.out]
  go_region_held3 (fun w' => w'.cell? ⟨w.heap.size + 1, 0, none⟩ = some (.int .i64 B) ∧ w'.cell? ⟨w.heap.size + 1, 1, none⟩ = some (.int .i64 P) ∧ w'.cell? ⟨w.heap.size + 1, 2, none⟩ = some (.int .i64 I) ∧ w'.cell? ⟨w.heap.size + 1, 3, none⟩ = some (.int .i64 J)) (first | exact geo_cells b1.drew | exact geo_cells ((b1.drew).belowAll hb)) (first | (go_simp; go_at_call 62; refine (lgroups_any _ _ _ _ _).mono ?_; rintro e w1 ⟨rfl, hb⟩))
  have s1 := (b0.drew).belowAll hb
  have g1 := (b1.drew).belowAll hb
  have B1 := Lib.hid (HBEL.out.drew.trans (hb.mono HBEL.out.size))
  have hz1 := hb.size
  clear hb b0 b1
  clear hw
  have SC := sup_cells s1
  have GC := geo_cells g1
  go_wp2_with fail
  refine region_mix [true, true, true, true, true, true, true, true, false] (S := fun w' => (w'.cell? ⟨w.heap.size, 0, none⟩ = some (.int .i64 B) ∧ w'.cell? ⟨w.heap.size, 1, none⟩ = some (.int .i64 P) ∧ w'.cell? ⟨w.heap.size, 2, none⟩ = some (.int .i64 I) ∧ w'.cell? ⟨w.heap.size, 3, none⟩ = some (.int .i64 J) ∧ w'.cell? ⟨w.heap.size, 4, none⟩ = some (.int .i64 fb) ∧ w'.cell? ⟨w.heap.size, 5, none⟩ = some (.int .i64 fi) ∧ w'.cell? ⟨w.heap.size, 6, none⟩ = some (.int .i64 o) ∧ w'.cell? ⟨w.heap.size, 7, none⟩ = some (.int .i64 m) ∧ w'.cell? ⟨w.heap.size, 8, none⟩ = some (.bool cl)) ∧ (w'.cell? ⟨w.heap.size + 1, 0, none⟩ = some (.int .i64 B) ∧ w'.cell? ⟨w.heap.size + 1, 1, none⟩ = some (.int .i64 P) ∧ w'.cell? ⟨w.heap.size + 1, 2, none⟩ = some (.int .i64 I) ∧ w'.cell? ⟨w.heap.size + 1, 3, none⟩ = some (.int .i64 J))) (by kernel_rfl) (by kernel_rfl) (fun _ _ d _ _ h => by cases d <;> exact h) ⟨SC, GC⟩ ?_
  clear SC GC
  iterate 8 (refine mix_take (v := ?_) (by kernel_rfl) ?_ (fun K hK => ?_); rotate_left; (· (intro w' hSw; (try dsimp only at hSw); go_simp; with_reducible rfl)); simp only [Act.put, List.setIfInBounds_toArray, List.set_cons_zero, List.set_cons_succ]; refine hK _ ?_; clear hK K)
  refine mix_do (E := False) (fun K hK => ?_) (by kernel_rfl)
  go_simp
  go_at_call 63
  refine (lfixed_any _ _ _ _ _).mono ?_
  rintro e w2 ⟨rfl, hb2⟩
  have s2 := s1.drew.belowAll hb2
  have g2 := g1.drew.belowAll hb2
  have B2 := Lib.hid (below_all B1.out.drew B1.out.size hb2)
  have hz2 : w1.heap.size ≤ w2.heap.size := hb2.size
  clear hb2 s1 g1
  refine hK.out _ _ (⟨sup_cells s2, geo_cells g2⟩) ?_
  clear hK K
  try simp only [Act.put, List.setIfInBounds_toArray, List.set_cons_zero, List.set_cons_succ]
  refine mix_still ?_
  obtain ⟨q0, q1, q2, q3, q4, q5, q6, q7, q8⟩ := sup_cells s2
  obtain ⟨r0, r1, r2, r3⟩ := geo_cells g2
  iterate 1 (refine still_take (v := ?_) (by kernel_rfl) ?_ (fun K hK => ?_); rotate_left; (· (go_simp; with_reducible rfl)); simp only [Act.put, List.setIfInBounds_toArray, List.set_cons_zero, List.set_cons_succ]; refine hK _ ?_; clear hK K)
  refine still_call_ (v := ?_) (f := ?_) (args := ?_) (by kernel_rfl) ?_ ?_ (fun K hK => ?_)
  rotate_left 3
  · (go_simp; constructor <;> rfl)
  · exact rq C1.out w2
  simp only [Act.put, List.setIfInBounds_toArray, List.set_cons_zero, List.set_cons_succ]
  refine hK _ ?_
  clear hK K
  iterate 3 (refine still_take (v := ?_) (by kernel_rfl) ?_ (fun K hK => ?_); rotate_left; (· (go_simp; with_reducible rfl)); simp only [Act.put, List.setIfInBounds_toArray, List.set_cons_zero, List.set_cons_succ]; refine hK _ ?_; clear hK K)
  iterate 3 (refine still_take (v := ?_) (by kernel_rfl) ?_ (fun K hK => ?_); rotate_left; (· (go_simp; with_reducible rfl)); simp only [Act.put, List.setIfInBounds_toArray, List.set_cons_zero, List.set_cons_succ]; refine hK _ ?_; clear hK K)
  refine still_call_ (v := ?_) (f := ?_) (args := ?_) (by kernel_rfl) ?_ ?_ (fun K hK => ?_)
  rotate_left 3
  · (go_simp; constructor <;> rfl)
  · exact rq C2.out w2
  simp only [Act.put, List.setIfInBounds_toArray, List.set_cons_zero, List.set_cons_succ]
  refine hK _ ?_
  clear hK K
  iterate 3 (refine still_take (v := ?_) (by kernel_rfl) ?_ (fun K hK => ?_); rotate_left; (· (go_simp; with_reducible rfl)); simp only [Act.put, List.setIfInBounds_toArray, List.set_cons_zero, List.set_cons_succ]; refine hK _ ?_; clear hK K)
  iterate 3 (refine still_take (v := ?_) (by kernel_rfl) ?_ (fun K hK => ?_); rotate_left; (· (go_simp; with_reducible rfl)); simp only [Act.put, List.setIfInBounds_toArray, List.set_cons_zero, List.set_cons_succ]; refine hK _ ?_; clear hK K)
  refine still_call_ (v := ?_) (f := ?_) (args := ?_) (by kernel_rfl) ?_ ?_ (fun K hK => ?_)
  rotate_left 3
  · (go_simp; constructor <;> rfl)
  · exact rq C3.out w2
  simp only [Act.put, List.setIfInBounds_toArray, List.set_cons_zero, List.set_cons_succ]
  refine hK _ ?_
  clear hK K
  iterate 3 (refine still_take (v := ?_) (by kernel_rfl) ?_ (fun K hK => ?_); rotate_left; (· (go_simp; with_reducible rfl)); simp only [Act.put, List.setIfInBounds_toArray, List.set_cons_zero, List.set_cons_succ]; refine hK _ ?_; clear hK K)
  iterate 2 (refine still_take (v := ?_) (by kernel_rfl) ?_ (fun K hK => ?_); rotate_left; (· (go_simp; with_reducible rfl)); simp only [Act.put, List.setIfInBounds_toArray, List.set_cons_zero, List.set_cons_succ]; refine hK _ ?_; clear hK K)
  refine still_call_ (v := ?_) (f := ?_) (args := ?_) (by kernel_rfl) ?_ ?_ (fun K hK => ?_)
  rotate_left 3
  · (go_simp; constructor <;> rfl)
  · exact rq C4.out w2
  simp only [Act.put, List.setIfInBounds_toArray, List.set_cons_zero, List.set_cons_succ]
  refine hK _ ?_
  clear hK K
  iterate 2 (refine still_take (v := ?_) (by kernel_rfl) ?_ (fun K hK => ?_); rotate_left; (· (go_simp; with_reducible rfl)); simp only [Act.put, List.setIfInBounds_toArray, List.set_cons_zero, List.set_cons_succ]; refine hK _ ?_; clear hK K)
  refine still_end ?_
  obtain ⟨⟨z0, _⟩, ⟨z1, _⟩, ⟨z2, _⟩, ⟨z3, _⟩, ⟨z4, _⟩, ⟨z5, _⟩, ⟨z6, _⟩, ⟨z7, _⟩⟩ := HCS.out
  have HSI := Lib.hid (superL_ints cl z0 z1 z2 z3 z4 z5 z6 z7)
  have H63 := Lib.hid (superL_le cl HCS.out)
  clear z0 z1 z2 z3 z4 z5 z6 z7
  cases cl
  all_goals
    go_wp2_with fail
    refine (numbers_any4 (some ⟨w2.heap.size, 0, none⟩) 11 11 _ _ (by omega) (by rw [HSI.out]; exact lit_rowN _ _ (ints _) 11 _ rfl rfl) H63.out).mono ?_
    rintro e w3 ⟨v3, rfl, hb3, ho3⟩
    have B3 := Lib.hid (below_all (B2.out.alloc B2.out.size _) (by simp; have := B2.out.size; omega) hb3)
    have hz3 := hb3.size
    obtain ⟨A3, c3, rfl, hr3, _, _, _, _⟩ := own_nums ho3
    have R3 := Lib.hid hr3
    clear hb3 ho3 hr3
    go_wp2_with fail
    refine (widths_any _).mono ?_
    rintro e w4 ⟨v4, rfl, hb4, ho4⟩
    have B4 := Lib.hid (below_all B3.out B3.out.size hb4)
    have hz4 := hb4.size
    have R3' := Lib.hid (R3.out.below hb4)
    obtain ⟨A4, c4, rfl, hr4, _, _, _, _⟩ := own_ints ho4
    have R4 := Lib.hid hr4
    clear hb4 ho4 hr4
    go_wp2_with fail
    refine (sealed_lay _ _ 11 _ 11 _ _ _ 0#32 _ (by omega) (fun x hx => by have := H63.out x hx; omega) R3'.out R4.out).mono ?_
    rintro e w5 ⟨v5, rfl, hb5, ho5⟩
    have B5 := Lib.hid (below_all B4.out B4.out.size hb5)
    have O5 := Lib.hid ho5
    have hz5 := hb5.size
    clear hb5 ho5
    go_wp2_with fail
    go_ret2
    exact ⟨_, rfl, B5.out, own_mono O5.out B4.out.size⟩

theorem packSuper_any (B P I J fb fi o m : Int) (cl : Bool) (w : World) :
    Calls Try.prog 22 #[.agg #[.int .i64 B, .int .i64 P, .int .i64 I, .int .i64 J, .int .i64 fb, .int .i64 fi, .int .i64 o, .int .i64 m, .bool cl]] w fun e w' =>  ∃ v, e = .returned (.tuple #[v, .int .i64 (supE B P I J fb fi o m)]) ∧ Below w.heap.size w w' ∧ w'.ownsRow w.heap.size 5 1 v (supB B P I J fb fi o m cl).length (bvl (supB B P I J fb fi o m cl)) := by
  have no : supOk B P I J fb fi o m = false → (Calls Try.prog 22 #[.agg #[.int .i64 B, .int .i64 P, .int .i64 I, .int .i64 J, .int .i64 fb, .int .i64 fi, .int .i64 o, .int .i64 m, .bool cl]] w fun e w' => e = .returned (.tuple #[.slice none 0 0, .int .i64 22]) ∧ Below w.heap.size w w') →
      Calls Try.prog 22 #[.agg #[.int .i64 B, .int .i64 P, .int .i64 I, .int .i64 J, .int .i64 fb, .int .i64 fi, .int .i64 o, .int .i64 m, .bool cl]] w fun e w' => ∃ v, e = .returned (.tuple #[v, .int .i64 (supE B P I J fb fi o m)]) ∧ Below w.heap.size w w' ∧ w'.ownsRow w.heap.size 5 1 v (supB B P I J fb fi o m cl).length (bvl (supB B P I J fb fi o m cl)) := fun h hc => by
    have e1 : supE B P I J fb fi o m = 22 := by simp [supE, h]
    have e2 : supB B P I J fb fi o m cl = [] := by simp [supB, h]
    rw [e1, e2]
    exact hc.mono fun e w' ⟨he, hb⟩ => ⟨_, he, hb, World.ownsRow_nil _ _ _ _⟩
  cases hg : gok B P I J
  · exact no (by simp [supOk, hg]) (packSuper_geo B P I J fb fi o m cl w hg)
  cases c1 : rg fb 0 (B - fixd B P I J)
  · exact no (by simp [supOk, c1]) (packSuper_1 B P I J fb fi o m cl w hg c1)
  cases c2 : rg fi 0 (grp B P I J * I)
  · exact no (by simp [supOk, c2]) (packSuper_2 B P I J fb fi o m cl w hg c1 c2)
  cases c3 : rg o 0 (grp B P I J * I)
  · exact no (by simp [supOk, c3]) (packSuper_3 B P I J fb fi o m cl w hg c1 c2 c3)
  cases c4 : rg m 0 2147483647
  · exact no (by simp [supOk, c4]) (packSuper_4 B P I J fb fi o m cl w hg c1 c2 c3 c4)
  · have hok : supOk B P I J fb fi o m = true := by simp [supOk, hg, c1, c2, c3, c4]
    have e1 : supE B P I J fb fi o m = 0 := by simp [supE, hok]
    have e2 : supB B P I J fb fi o m cl = sealB 0#32 (packB (superL B P I J fb fi o m cl) superWs 256) := by simp [supB, hok]
    rw [e1, e2]
    exact packSuper_5 B P I J fb fi o m cl w hg c1 c2 c3 c4
end Go.Proofs.Ytafonjnanfekkaa.Lay
