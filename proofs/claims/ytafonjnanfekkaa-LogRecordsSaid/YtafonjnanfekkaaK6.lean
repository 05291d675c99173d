
/-
  THE FIRST BLOCK, plain: which numbers may be, their bytes, what bytes say.
  THE WALK of layout.PackSuper.
  THE WALKS of the document's layer 4, the first block: number, superMay, PackSuper.
  THE FIRST BLOCK, plain, more: its length; the values that are told.
  THE WALK of the document's UnpackSuper.
  THE SECOND BLOCK, plain: which groups may be, their bytes, what bytes say.
  THE WALK of layout.PackGroups.
  THE WALK of layout.UnpackGroups.
-/
import Derived.Test.YtafonjnanfekkaaK5
import Derived.Test.YtafonjnanfekkaaK3
import Derived.Test.YtafonjnanfekkaaK4
import Derived.Test.YtafonjnanfekkaaK2
namespace Go.Proofs.Ytafonjnanfekkaa.Lay
open Go.RowKit Go.Proofs.Ytafonjnanfekkaa.Wire
set_option linter.unusedVariables false
set_option linter.unusedSimpArgs false

def supOk (B P I J fb fi o m : Int) : Bool :=
  gok B P I J && (rg fb 0 (B - fixd B P I J) && (rg fi 0 (grp B P I J * I) && (rg o 0 (grp B P I J * I) && rg m 0 2147483647)))
def superL (B P I J fb fi o m : Int) (cl : Bool) : List Nat :=
  [1213813321, 1, B.toNat, P.toNat, I.toNat, J.toNat, fb.toNat, fi.toNat, o.toNat, m.toNat, if cl then 1 else 0]
def supB (B P I J fb fi o m : Int) (cl : Bool) : List UInt8 := if supOk B P I J fb fi o m = true then sealB 0#32 (packB (superL B P I J fb fi o m cl) superWs 256) else []
def supE (B P I J fb fi o m : Int) : Int := if supOk B P I J fb fi o m = true then 0 else 22
theorem fixd_le {B P I J : Int} (hg : gok B P I J = true) : 0 ≤ fixd B P I J ∧ fixd B P I J ≤ 4096 := by
  have G := Geo.of hg
  have h := fixd_eq hg ((grp B P I J).toNat) (by have := (grp_le B P I J).1; omega)
  have h2 := dsum_le hg ((grp B P I J).toNat) (by have := (grp_le B P I J).1; have := grp_yes hg; omega)
  have := G.b1; have := G.b2
  have h3 : 0 ≤ fixd B P I J := by
    rw [fixd, if_pos hg]
    have := Int.mul_nonneg (a := (B - 1) / P + 1) (b := 2 + I / 2) (by have := G.n1; omega) (by have := G.i1; omega)
    have := G.j1
    omega
  omega
/-- All numbers are none below 0, and go in. -/
theorem sup_nat {B P I J fb fi o m : Int} (hg : gok B P I J = true) (c1 : rg fb 0 (B - fixd B P I J) = true) (c2 : rg fi 0 (grp B P I J * I) = true) (c3 : rg o 0 (grp B P I J * I) = true) (c4 : rg m 0 2147483647 = true) :
    (0 ≤ B ∧ B ≤ 4096) ∧ (0 ≤ P ∧ P ≤ 2016) ∧ (0 ≤ I ∧ I ≤ 512) ∧ (0 ≤ J ∧ J ≤ 512) ∧ (0 ≤ fb ∧ fb ≤ 4096) ∧ (0 ≤ fi ∧ fi ≤ 7168) ∧ (0 ≤ o ∧ o ≤ 7168) ∧ (0 ≤ m ∧ m ≤ 2147483647) := by
  have G := Geo.of hg
  have i1 := G.i1; have i2 := G.i2; have bb1 := G.b1; have bb2 := G.b2; have pp1 := G.p1; have pp2 := G.p2; have jj1 := G.j1; have jj2 := G.j2
  obtain ⟨gr1, gr2⟩ : 1 ≤ grp B P I J ∧ grp B P I J ≤ 14 := by rw [grp_yes hg]; have := G.n1; have := G.n2; omega
  have m1 : grp B P I J * I ≤ 14 * 512 := Int.mul_le_mul gr2 i2 (by omega) (by omega)
  have f := fixd_le hg
  have := rg_true c1; have := rg_true c2; have := rg_true c3; have := rg_true c4
  omega
theorem supOk_parts {B P I J fb fi o m : Int} (h : supOk B P I J fb fi o m = true) : gok B P I J = true ∧ rg fb 0 (B - fixd B P I J) = true ∧ rg fi 0 (grp B P I J * I) = true ∧ rg o 0 (grp B P I J * I) = true ∧ rg m 0 2147483647 = true := by
  simp only [supOk, Bool.and_eq_true] at h
  exact h
theorem superL_ints {B P I J fb fi o m : Int} (cl : Bool) (z0 : 0 ≤ B) (z1 : 0 ≤ P) (z2 : 0 ≤ I) (z3 : 0 ≤ J) (z4 : 0 ≤ fb) (z5 : 0 ≤ fi) (z6 : 0 ≤ o) (z7 : 0 ≤ m) :
    ints ((superL B P I J fb fi o m cl).map fun (x : Nat) => (x : Int)) = ints [1213813321, 1, B, P, I, J, fb, fi, o, m, if cl then 1 else 0] := by
  simp only [superL, List.map_cons, List.map_nil, Int.toNat_of_nonneg z0, Int.toNat_of_nonneg z1, Int.toNat_of_nonneg z2, Int.toNat_of_nonneg z3, Int.toNat_of_nonneg z4, Int.toNat_of_nonneg z5, Int.toNat_of_nonneg z6, Int.toNat_of_nonneg z7]
  cases cl <;> rfl
theorem superL_le {B P I J fb fi o m : Int} (cl : Bool) (h : (0 ≤ B ∧ B ≤ 4096) ∧ (0 ≤ P ∧ P ≤ 2016) ∧ (0 ≤ I ∧ I ≤ 512) ∧ (0 ≤ J ∧ J ≤ 512) ∧ (0 ≤ fb ∧ fb ≤ 4096) ∧ (0 ≤ fi ∧ fi ≤ 7168) ∧ (0 ≤ o ∧ o ≤ 7168) ∧ (0 ≤ m ∧ m ≤ 2147483647)) :
    ∀ x ∈ superL B P I J fb fi o m cl, x ≤ 9223372036854775807 := by
  intro x hx
  simp only [superL, List.mem_cons, List.not_mem_nil, or_false] at hx
  rcases hx with rfl | rfl | rfl | rfl | rfl | rfl | rfl | rfl | rfl | rfl | rfl <;> first | omega | (split <;> omega)

/-- A number of a block. -/
def uf (bs : List UInt8) (p n : Int) : Int := (getX bs p n : Int)
def ucl (bs : List UInt8) : Bool := uf bs 38 1 == 1
theorem recs_super (bs : List UInt8) : recs bs 0 superWs = [uf bs 0 4, uf bs 4 2, uf bs 6 4, uf bs 10 4, uf bs 14 4, uf bs 18 4, uf bs 22 4, uf bs 26 4, uf bs 30 4, uf bs 34 4, uf bs 38 1] := by
  simp [recs, superWs, uf]
/-- Does a block say something of a disk? -/
def usOk (bs : List UInt8) : Bool :=
  supOk (uf bs 6 4) (uf bs 10 4) (uf bs 14 4) (uf bs 18 4) (uf bs 22 4) (uf bs 26 4) (uf bs 30 4) (uf bs 34 4) &&
    (bs == supB (uf bs 6 4) (uf bs 10 4) (uf bs 14 4) (uf bs 18 4) (uf bs 22 4) (uf bs 26 4) (uf bs 30 4) (uf bs 34 4) (ucl bs))
def usE (bs : List UInt8) : Int := if usOk bs = true then 0 else 117
def supV (B P I J fb fi o m : Int) (cl : Bool) : Value := .agg #[.int .i64 B, .int .i64 P, .int .i64 I, .int .i64 J, .int .i64 fb, .int .i64 fi, .int .i64 o, .int .i64 m, .bool cl]
def usV (bs : List UInt8) : Value := if usOk bs = true then supV (uf bs 6 4) (uf bs 10 4) (uf bs 14 4) (uf bs 18 4) (uf bs 22 4) (uf bs 26 4) (uf bs 30 4) (uf bs 34 4) (ucl bs) else supV 0 0 0 0 0 0 0 0 false
end Go.Proofs.Ytafonjnanfekkaa.Lay

namespace Go.Proofs.Ytafonjnanfekkaa.Lay
open Go.RowKit Go.Proofs.Ytafonjnanfekkaa.Wire
set_option maxHeartbeats 8000000
set_option maxRecDepth 100000
set_option linter.unusedVariables false
set_option linter.unusedSimpArgs false

theorem sup_cells {w' : World} {g : Nat} {B P I J fb fi o m : Int} {cl : Bool} (h : Blk w' g 39 #[.int .i64 B, .int .i64 P, .int .i64 I, .int .i64 J, .int .i64 fb, .int .i64 fi, .int .i64 o, .int .i64 m, .bool cl]) : w'.cell? ⟨g, 0, none⟩ = some (.int .i64 B) ∧ w'.cell? ⟨g, 1, none⟩ = some (.int .i64 P) ∧ w'.cell? ⟨g, 2, none⟩ = some (.int .i64 I) ∧ w'.cell? ⟨g, 3, none⟩ = some (.int .i64 J) ∧ w'.cell? ⟨g, 4, none⟩ = some (.int .i64 fb) ∧ w'.cell? ⟨g, 5, none⟩ = some (.int .i64 fi) ∧ w'.cell? ⟨g, 6, none⟩ = some (.int .i64 o) ∧ w'.cell? ⟨g, 7, none⟩ = some (.int .i64 m) ∧ w'.cell? ⟨g, 8, none⟩ = some (.bool cl) :=
  ⟨h.cell 0, h.cell 1, h.cell 2, h.cell 3, h.cell 4, h.cell 5, h.cell 6, h.cell 7, h.cell 8⟩
theorem geo_cells {w' : World} {g : Nat} {B P I J : Int} (h : Blk w' g 37 #[.int .i64 B, .int .i64 P, .int .i64 I, .int .i64 J]) : w'.cell? ⟨g, 0, none⟩ = some (.int .i64 B) ∧ w'.cell? ⟨g, 1, none⟩ = some (.int .i64 P) ∧ w'.cell? ⟨g, 2, none⟩ = some (.int .i64 I) ∧ w'.cell? ⟨g, 3, none⟩ = some (.int .i64 J) :=
  ⟨h.cell 0, h.cell 1, h.cell 2, h.cell 3⟩
theorem rq {x lo hi : Int} {b : Bool} (h : rg x lo hi = b) (w : World) : Calls Try.prog 64 #[.int .i64 x, .int .i64 lo, .int .i64 hi] w fun e w' => e = .returned (.bool b) ∧ w' = w :=
  (ranged_any x lo hi w).mono fun _ _ ⟨he, hw⟩ => ⟨by rw [he, h], hw.symm⟩
theorem boxes2 (w : World) (c0 c1 : Array Value) (t0 t1 : TypeId) (W : World) (hW : (w.alloc (.cells c0 t0)).alloc (.cells c1 t1) = W) :
    Blk W w.heap.size t0 c0 ∧ Blk W (w.heap.size + 1) t1 c1 ∧ Below w.heap.size w W ∧ W.heap.size = w.heap.size + 1 + 1 := by
  subst hW
  refine ⟨(Blk.new w t0 c0).alloc _, ?_, ?_, by simp⟩
  · have := Blk.new (w.alloc (.cells c0 t0)) t1 c1
    simpa using this
  · exact ((Below.refl w.heap.size w).alloc (Nat.le_refl _) _).alloc (by simp) _

theorem packSuper_geo (B P I J fb fi o m : Int) (cl : Bool) (w : World) (hg : gok B P I J = false) :
    Calls Try.prog 22 #[.agg #[.int .i64 B, .int .i64 P, .int .i64 I, .int .i64 J, .int .i64 fb, .int .i64 fi, .int .i64 o, .int .i64 m, .bool cl]] w fun e w' =>  e = .returned (.tuple #[.slice none 0 0, .int .i64 22]) ∧ Below w.heap.size w w' := by
  obtain ⟨W, hW⟩ : ∃ W, (w.alloc (.cells #[.int .i64 B, .int .i64 P, .int .i64 I, .int .i64 J, .int .i64 fb, .int .i64 fi, .int .i64 o, .int .i64 m, .bool cl] 39)).alloc (.cells #[.int .i64 B, .int .i64 P, .int .i64 I, .int .i64 J] 37) = W := ⟨_, rfl⟩
  obtain ⟨b0, b1, hbel, hsz⟩ := boxes2 w _ _ _ _ W hW
  have HW := Lib.hid hW
  have HBEL := Lib.hid hbel
  have hszW : w.heap.size + 2 ≤ W.heap.size := by omega
  clear hW hbel hsz
  have hgr := grp_no hg
  have hw : IntKind.i64.wrap (grp B P I J * I) = grp B P I J * I := by rw [hgr, Int.zero_mul, IntKind.wrap_i64]; rfl
  have hz : (grp B P I J * I == 0) = true := by rw [hgr, Int.zero_mul]; rfl
  clear hgr hg
  go_enter Try.func22, Try.ntmps22
  go_wp2_with fail
  rw [HW.out]
  go_region_held3 (fun w' => w'.cell? ⟨w.heap.size + 1, 0, none⟩ = some (.int .i64 B) ∧ w'.cell? ⟨w.heap.size + 1, 1, none⟩ = some (.int .i64 P) ∧ w'.cell? ⟨w.heap.size + 1, 2, none⟩ = some (.int .i64 I) ∧ w'.cell? ⟨w.heap.size + 1, 3, none⟩ = some (.int .i64 J)) (first | exact geo_cells b1.drew | exact geo_cells ((b1.drew).belowAll hb)) (first | (go_simp; go_at_call 62; refine (lgroups_any _ _ _ _ _).mono ?_; rintro e w1 ⟨rfl, hb⟩))
  have s1 := (b0.drew).belowAll hb
  have g1 := (b1.drew).belowAll hb
  have B1 := Lib.hid (HBEL.out.drew.trans (hb.mono HBEL.out.size))
  have hz1 := hb.size
  clear hb b0 b1
  clear hw
  go_wp2_with fail
  go_quiet (fail)
  go_wp2
  go_ret2
  exact ⟨rfl, below_drewN B1.out _⟩

theorem packSuper_1 (B P I J fb fi o m : Int) (cl : Bool) (w : World) (hg : gok B P I J = true) (c1 : rg fb 0 (B - fixd B P I J) = false) :
    Calls Try.prog 22 #[.agg #[.int .i64 B, .int .i64 P, .int .i64 I, .int .i64 J, .int .i64 fb, .int .i64 fi, .int .i64 o, .int .i64 m, .bool cl]] w fun e w' =>  e = .returned (.tuple #[.slice none 0 0, .int .i64 22]) ∧ Below w.heap.size w w' := by
  obtain ⟨W, hW⟩ : ∃ W, (w.alloc (.cells #[.int .i64 B, .int .i64 P, .int .i64 I, .int .i64 J, .int .i64 fb, .int .i64 fi, .int .i64 o, .int .i64 m, .bool cl] 39)).alloc (.cells #[.int .i64 B, .int .i64 P, .int .i64 I, .int .i64 J] 37) = W := ⟨_, rfl⟩
  obtain ⟨b0, b1, hbel, hsz⟩ := boxes2 w _ _ _ _ W hW
  have HW := Lib.hid hW
  have HBEL := Lib.hid hbel
  have hszW : w.heap.size + 2 ≤ W.heap.size := by omega
  clear hW hbel hsz
  have G := Geo.of hg
  have i1 := G.i1; have i2 := G.i2; have bb1 := G.b1; have bb2 := G.b2; have pp1 := G.p1; have pp2 := G.p2; have jj1 := G.j1; have jj2 := G.j2
  obtain ⟨gr1, gr2⟩ : 1 ≤ grp B P I J ∧ grp B P I J ≤ 14 := by rw [grp_yes hg]; have := G.n1; have := G.n2; omega
  have m1 : grp B P I J * I ≤ 14 * 512 := Int.mul_le_mul gr2 i2 (by omega) (by omega)
  have m0 : 1 * 8 ≤ grp B P I J * I := Int.mul_le_mul gr1 i1 (by omega) (by omega)
  obtain ⟨f0, f1⟩ := fixd_le hg
  have hw : IntKind.i64.wrap (grp B P I J * I) = grp B P I J * I := by rw [IntKind.wrap_i64]; omega
  have hz : (grp B P I J * I == 0) = false := by simp; omega
  have hw2 : IntKind.i64.wrap (B - fixd B P I J) = B - fixd B P I J := by rw [IntKind.wrap_i64]; omega
  have C1 := Lib.hid c1
  clear G hg c1
  go_enter Try.func22, Try.ntmps22
  go_wp2_with fail
  rw [HW.out]
  go_region_held3 (fun w' => w'.cell? ⟨w.heap.size + 1, 0, none⟩ = some (.int .i64 B) ∧ w'.cell? ⟨w.heap.size + 1, 1, none⟩ = some (.int .i64 P) ∧ w'.cell? ⟨w.heap.size + 1, 2, none⟩ = some (.int .i64 I) ∧ w'.cell? ⟨w.heap.size + 1, 3, none⟩ = some (.int .i64 J)) (first | exact geo_cells b1.drew | exact geo_cells ((b1.drew).belowAll hb)) (first | (go_simp; go_at_call 62; refine (lgroups_any _ _ _ _ _).mono ?_; rintro e w1 ⟨rfl, hb⟩))
  have s1 := (b0.drew).belowAll hb
  have g1 := (b1.drew).belowAll hb
  have B1 := Lib.hid (HBEL.out.drew.trans (hb.mono HBEL.out.size))
  have hz1 := hb.size
  clear hb b0 b1
  clear hw
  have SC := sup_cells s1
  have GC := geo_cells g1
  go_wp2_with fail
  refine region_mix [true, true, true, true, true, true, true, true, false] (S := fun w' => (w'.cell? ⟨w.heap.size, 0, none⟩ = some (.int .i64 B) ∧ w'.cell? ⟨w.heap.size, 1, none⟩ = some (.int .i64 P) ∧ w'.cell? ⟨w.heap.size, 2, none⟩ = some (.int .i64 I) ∧ w'.cell? ⟨w.heap.size, 3, none⟩ = some (.int .i64 J) ∧ w'.cell? ⟨w.heap.size, 4, none⟩ = some (.int .i64 fb) ∧ w'.cell? ⟨w.heap.size, 5, none⟩ = some (.int .i64 fi) ∧ w'.cell? ⟨w.heap.size, 6, none⟩ = some (.int .i64 o) ∧ w'.cell? ⟨w.heap.size, 7, none⟩ = some (.int .i64 m) ∧ w'.cell? ⟨w.heap.size, 8, none⟩ = some (.bool cl)) ∧ (w'.cell? ⟨w.heap.size + 1, 0, none⟩ = some (.int .i64 B) ∧ w'.cell? ⟨w.heap.size + 1, 1, none⟩ = some (.int .i64 P) ∧ w'.cell? ⟨w.heap.size + 1, 2, none⟩ = some (.int .i64 I) ∧ w'.cell? ⟨w.heap.size + 1, 3, none⟩ = some (.int .i64 J))) (by kernel_rfl) (by kernel_rfl) (fun _ _ d _ _ h => by cases d <;> exact h) ⟨SC, GC⟩ ?_
  clear SC GC
  iterate 8 (refine mix_take (v := ?_) (by kernel_rfl) ?_ (fun K hK => ?_); rotate_left; (· (intro w' hSw; (try dsimp only at hSw); go_simp; with_reducible rfl)); simp only [Act.put, List.setIfInBounds_toArray, List.set_cons_zero, List.set_cons_succ]; refine hK _ ?_; clear hK K)
  refine mix_do (E := False) (fun K hK => ?_) (by kernel_rfl)
  go_simp
  go_at_call 63
  refine (lfixed_any _ _ _ _ _).mono ?_
  rintro e w2 ⟨rfl, hb2⟩
  have s2 := s1.drew.belowAll hb2
  have g2 := g1.drew.belowAll hb2
  have B2 := Lib.hid (below_all B1.out.drew B1.out.size hb2)
  have hz2 : w1.heap.size ≤ w2.heap.size := hb2.size
  clear hb2 s1 g1
  refine hK.out _ _ (⟨sup_cells s2, geo_cells g2⟩) ?_
  clear hK K
  try simp only [Act.put, List.setIfInBounds_toArray, List.set_cons_zero, List.set_cons_succ]
  refine mix_still ?_
  obtain ⟨q0, q1, q2, q3, q4, q5, q6, q7, q8⟩ := sup_cells s2
  obtain ⟨r0, r1, r2, r3⟩ := geo_cells g2
  iterate 1 (refine still_take (v := ?_) (by kernel_rfl) ?_ (fun K hK => ?_); rotate_left; (· (go_simp; with_reducible rfl)); simp only [Act.put, List.setIfInBounds_toArray, List.set_cons_zero, List.set_cons_succ]; refine hK _ ?_; clear hK K)
  refine still_call_ (v := ?_) (f := ?_) (args := ?_) (by kernel_rfl) ?_ ?_ (fun K hK => ?_)
  rotate_left 3
  · (go_simp; constructor <;> rfl)
  · exact rq C1.out w2
  simp only [Act.put, List.setIfInBounds_toArray, List.set_cons_zero, List.set_cons_succ]
  refine hK _ ?_
  clear hK K
  iterate 3 (refine still_take (v := ?_) (by kernel_rfl) ?_ (fun K hK => ?_); rotate_left; (· (go_simp; with_reducible rfl)); simp only [Act.put, List.setIfInBounds_toArray, List.set_cons_zero, List.set_cons_succ]; refine hK _ ?_; clear hK K)
  iterate 5 (refine still_skip ?_ ?_; (· kernel_rfl); intro K hK; simp only [Act.put, List.setIfInBounds_toArray, List.set_cons_zero, List.set_cons_succ]; apply hK; clear hK K)
  iterate 2 (refine still_take (v := ?_) (by kernel_rfl) ?_ (fun K hK => ?_); rotate_left; (· (go_simp; with_reducible rfl)); simp only [Act.put, List.setIfInBounds_toArray, List.set_cons_zero, List.set_cons_succ]; refine hK _ ?_; clear hK K)
  iterate 5 (refine still_skip ?_ ?_; (· kernel_rfl); intro K hK; simp only [Act.put, List.setIfInBounds_toArray, List.set_cons_zero, List.set_cons_succ]; apply hK; clear hK K)
  iterate 2 (refine still_take (v := ?_) (by kernel_rfl) ?_ (fun K hK => ?_); rotate_left; (· (go_simp; with_reducible rfl)); simp only [Act.put, List.setIfInBounds_toArray, List.set_cons_zero, List.set_cons_succ]; refine hK _ ?_; clear hK K)
  iterate 4 (refine still_skip ?_ ?_; (· kernel_rfl); intro K hK; simp only [Act.put, List.setIfInBounds_toArray, List.set_cons_zero, List.set_cons_succ]; apply hK; clear hK K)
  iterate 1 (refine still_take (v := ?_) (by kernel_rfl) ?_ (fun K hK => ?_); rotate_left; (· (go_simp; with_reducible rfl)); simp only [Act.put, List.setIfInBounds_toArray, List.set_cons_zero, List.set_cons_succ]; refine hK _ ?_; clear hK K)
  refine still_end ?_
  go_wp2
  go_ret2
  exact ⟨rfl, B2.out⟩

theorem packSuper_2 (B P I J fb fi o m : Int) (cl : Bool) (w : World) (hg : gok B P I J = true) (c1 : rg fb 0 (B - fixd B P I J) = true) (c2 : rg fi 0 (grp B P I J * I) = false) :
    Calls Try.prog 22 #[.agg #[.int .i64 B, .int .i64 P, .int .i64 I, .int .i64 J, .int .i64 fb, .int .i64 fi, .int .i64 o, .int .i64 m, .bool cl]] w fun e w' =>  e = .returned (.tuple #[.slice none 0 0, .int .i64 22]) ∧ Below w.heap.size w w' := by
  obtain ⟨W, hW⟩ : ∃ W, (w.alloc (.cells #[.int .i64 B, .int .i64 P, .int .i64 I, .int .i64 J, .int .i64 fb, .int .i64 fi, .int .i64 o, .int .i64 m, .bool cl] 39)).alloc (.cells #[.int .i64 B, .int .i64 P, .int .i64 I, .int .i64 J] 37) = W := ⟨_, rfl⟩
  obtain ⟨b0, b1, hbel, hsz⟩ := boxes2 w _ _ _ _ W hW
  have HW := Lib.hid hW
  have HBEL := Lib.hid hbel
  have hszW : w.heap.size + 2 ≤ W.heap.size := by omega
  clear hW hbel hsz
  have G := Geo.of hg
  have i1 := G.i1; have i2 := G.i2; have bb1 := G.b1; have bb2 := G.b2; have pp1 := G.p1; have pp2 := G.p2; have jj1 := G.j1; have jj2 := G.j2
  obtain ⟨gr1, gr2⟩ : 1 ≤ grp B P I J ∧ grp B P I J ≤ 14 := by rw [grp_yes hg]; have := G.n1; have := G.n2; omega
  have m1 : grp B P I J * I ≤ 14 * 512 := Int.mul_le_mul gr2 i2 (by omega) (by omega)
  have m0 : 1 * 8 ≤ grp B P I J * I := Int.mul_le_mul gr1 i1 (by omega) (by omega)
  obtain ⟨f0, f1⟩ := fixd_le hg
  have hw : IntKind.i64.wrap (grp B P I J * I) = grp B P I J * I := by rw [IntKind.wrap_i64]; omega
  have hz : (grp B P I J * I == 0) = false := by simp; omega
  have hw2 : IntKind.i64.wrap (B - fixd B P I J) = B - fixd B P I J := by rw [IntKind.wrap_i64]; omega
  have C1 := Lib.hid c1
  have C2 := Lib.hid c2
  clear G hg c1 c2
  go_enter Try.func22, Try.ntmps22
  go_wp2_with fail
  rw [HW.out]
  go_region_held3 (fun w' => w'.cell? ⟨w.heap.size + 1, 0, none⟩ = some (.int .i64 B) ∧ w'.cell? ⟨w.heap.size + 1, 1, none⟩ = some (.int .i64 P) ∧ w'.cell? ⟨w.heap.size + 1, 2, none⟩ = some (.int .i64 I) ∧ w'.cell? ⟨w.heap.size + 1, 3, none⟩ = some (.int .i64 J)) (first | exact geo_cells b1.drew | exact geo_cells ((b1.drew).belowAll hb)) (first | (go_simp; go_at_call 62; refine (lgroups_any _ _ _ _ _).mono ?_; rintro e w1 ⟨rfl, hb⟩))
  have s1 := (b0.drew).belowAll hb
  have g1 := (b1.drew).belowAll hb
  have B1 := Lib.hid (HBEL.out.drew.trans (hb.mono HBEL.out.size))
  have hz1 := hb.size
  clear hb b0 b1
  clear hw
  have SC := sup_cells s1
  have GC := geo_cells g1
  go_wp2_with fail
  refine region_mix [true, true, true, true, true, true, true, true, false] (S := fun w' => (w'.cell? ⟨w.heap.size, 0, none⟩ = some (.int .i64 B) ∧ w'.cell? ⟨w.heap.size, 1, none⟩ = some (.int .i64 P) ∧ w'.cell? ⟨w.heap.size, 2, none⟩ = some (.int .i64 I) ∧ w'.cell? ⟨w.heap.size, 3, none⟩ = some (.int .i64 J) ∧ w'.cell? ⟨w.heap.size, 4, none⟩ = some (.int .i64 fb) ∧ w'.cell? ⟨w.heap.size, 5, none⟩ = some (.int .i64 fi) ∧ w'.cell? ⟨w.heap.size, 6, none⟩ = some (.int .i64 o) ∧ w'.cell? ⟨w.heap.size, 7, none⟩ = some (.int .i64 m) ∧ w'.cell? ⟨w.heap.size, 8, none⟩ = some (.bool cl)) ∧ (w'.cell? ⟨w.heap.size + 1, 0, none⟩ = some (.int .i64 B) ∧ w'.cell? ⟨w.heap.size + 1, 1, none⟩ = some (.int .i64 P) ∧ w'.cell? ⟨w.heap.size + 1, 2, none⟩ = some (.int .i64 I) ∧ w'.cell? ⟨w.heap.size + 1, 3, none⟩ = some (.int .i64 J))) (by kernel_rfl) (by kernel_rfl) (fun _ _ d _ _ h => by cases d <;> exact h) ⟨SC, GC⟩ ?_
  clear SC GC
  iterate 8 (refine mix_take (v := ?_) (by kernel_rfl) ?_ (fun K hK => ?_); rotate_left; (· (intro w' hSw; (try dsimp only at hSw); go_simp; with_reducible rfl)); simp only [Act.put, List.setIfInBounds_toArray, List.set_cons_zero, List.set_cons_succ]; refine hK _ ?_; clear hK K)
  refine mix_do (E := False) (fun K hK => ?_) (by kernel_rfl)
  go_simp
  go_at_call 63
  refine (lfixed_any _ _ _ _ _).mono ?_
  rintro e w2 ⟨rfl, hb2⟩
  have s2 := s1.drew.belowAll hb2
  have g2 := g1.drew.belowAll hb2
  have B2 := Lib.hid (below_all B1.out.drew B1.out.size hb2)
  have hz2 : w1.heap.size ≤ w2.heap.size := hb2.size
  clear hb2 s1 g1
  refine hK.out _ _ (⟨sup_cells s2, geo_cells g2⟩) ?_
  clear hK K
  try simp only [Act.put, List.setIfInBounds_toArray, List.set_cons_zero, List.set_cons_succ]
  refine mix_still ?_
  obtain ⟨q0, q1, q2, q3, q4, q5, q6, q7, q8⟩ := sup_cells s2
  obtain ⟨r0, r1, r2, r3⟩ := geo_cells g2
  iterate 1 (refine still_take (v := ?_) (by kernel_rfl) ?_ (fun K hK => ?_); rotate_left; (· (go_simp; with_reducible rfl)); simp only [Act.put, List.setIfInBounds_toArray, List.set_cons_zero, List.set_cons_succ]; refine hK _ ?_; clear hK K)
  refine still_call_ (v := ?_) (f := ?_) (args := ?_) (by kernel_rfl) ?_ ?_ (fun K hK => ?_)
  rotate_left 3
  · (go_simp; constructor <;> rfl)
  · exact rq C1.out w2
  simp only [Act.put, List.setIfInBounds_toArray, List.set_cons_zero, List.set_cons_succ]
  refine hK _ ?_
  clear hK K
  iterate 3 (refine still_take (v := ?_) (by kernel_rfl) ?_ (fun K hK => ?_); rotate_left; (· (go_simp; with_reducible rfl)); simp only [Act.put, List.setIfInBounds_toArray, List.set_cons_zero, List.set_cons_succ]; refine hK _ ?_; clear hK K)
  iterate 3 (refine still_take (v := ?_) (by kernel_rfl) ?_ (fun K hK => ?_); rotate_left; (· (go_simp; with_reducible rfl)); simp only [Act.put, List.setIfInBounds_toArray, List.set_cons_zero, List.set_cons_succ]; refine hK _ ?_; clear hK K)
  refine still_call_ (v := ?_) (f := ?_) (args := ?_) (by kernel_rfl) ?_ ?_ (fun K hK => ?_)
  rotate_left 3
  · (go_simp; constructor <;> rfl)
  · exact rq C2.out w2
  simp only [Act.put, List.setIfInBounds_toArray, List.set_cons_zero, List.set_cons_succ]
  refine hK _ ?_
  clear hK K
  iterate 3 (refine still_take (v := ?_) (by kernel_rfl) ?_ (fun K hK => ?_); rotate_left; (· (go_simp; with_reducible rfl)); simp only [Act.put, List.setIfInBounds_toArray, List.set_cons_zero, List.set_cons_succ]; refine hK _ ?_; clear hK K)
  iterate 5 (refine still_skip ?_ ?_; (· kernel_rfl); intro K hK; simp only [Act.put, List.setIfInBounds_toArray, List.set_cons_zero, List.set_cons_succ]; apply hK; clear hK K)
  iterate 2 (refine still_take (v := ?_) (by kernel_rfl) ?_ (fun K hK => ?_); rotate_left; (· (go_simp; with_reducible rfl)); simp only [Act.put, List.setIfInBounds_toArray, List.set_cons_zero, List.set_cons_succ]; refine hK _ ?_; clear hK K)
  iterate 4 (refine still_skip ?_ ?_; (· kernel_rfl); intro K hK; simp only [Act.put, List.setIfInBounds_toArray, List.set_cons_zero, List.set_cons_succ]; apply hK; clear hK K)
  iterate 1 (refine still_take (v := ?_) (by kernel_rfl) ?_ (fun K hK => ?_); rotate_left; (· (go_simp; with_reducible rfl)); simp only [Act.put, List.setIfInBounds_toArray, List.set_cons_zero, List.set_cons_succ]; refine hK _ ?_; clear hK K)
  refine still_end ?_
  go_wp2
  go_ret2
  exact ⟨rfl, B2.out⟩

theorem packSuper_3 (B P I J fb fi o m : Int) (cl : Bool) (w : World) (hg : gok B P I J = true) (c1 : rg fb 0 (B - fixd B P I J) = true) (c2 : rg fi 0 (grp B P I J * I) = true) (c3 : rg o 0 (grp B P I J * I) = false) :
    Calls Try.prog 22 #[.agg #[.int .i64 B, .int .i64 P, .int .i64 I, .int .i64 J, .int .i64 fb, .int .i64 fi, .int .i64 o, .int .i64 m, .bool cl]] w fun e w' =>  e = .returned (.tuple #[.slice none 0 0, .int .i64 22]) ∧ Below w.heap.size w w' := by
  obtain ⟨W, hW⟩ : ∃ W, (w.alloc (.cells #[.int .i64 B, .int .i64 P, .int .i64 I, .int .i64 J, .int .i64 fb, .int .i64 fi, .int .i64 o, .int .i64 m, .bool cl] 39)).alloc (.cells #[.int .i64 B, .int .i64 P, .int .i64 I, .int .i64 J] 37) = W := ⟨_, rfl⟩
  obtain ⟨b0, b1, hbel, hsz⟩ := boxes2 w _ _ _ _ W hW
  have HW := Lib.hid hW
  have HBEL := Lib.hid hbel
  have hszW : w.heap.size + 2 ≤ W.heap.size := by omega
  clear hW hbel hsz
  have G := Geo.of hg
  have i1 := G.i1; have i2 := G.i2; have bb1 := G.b1; have bb2 := G.b2; have pp1 := G.p1; have pp2 := G.p2; have jj1 := G.j1; have jj2 := G.j2
  obtain ⟨gr1, gr2⟩ : 1 ≤ grp B P I J ∧ grp B P I J ≤ 14 := by rw [grp_yes hg]; have := G.n1; have := G.n2; omega
  have m1 : grp B P I J * I ≤ 14 * 512 := Int.mul_le_mul gr2 i2 (by omega) (by omega)
  have m0 : 1 * 8 ≤ grp B P I J * I := Int.mul_le_mul gr1 i1 (by omega) (by omega)
  obtain ⟨f0, f1⟩ := fixd_le hg
  have hw : IntKind.i64.wrap (grp B P I J * I) = grp B P I J * I := by rw [IntKind.wrap_i64]; omega
  have hz : (grp B P I J * I == 0) = false := by simp; omega
  have hw2 : IntKind.i64.wrap (B - fixd B P I J) = B - fixd B P I J := by rw [IntKind.wrap_i64]; omega
  have C1 := Lib.hid c1
  have C2 := Lib.hid c2
  have C3 := Lib.hid c3
  clear G hg c1 c2 c3
  go_enter Try.func22, Try.ntmps22
  go_wp2_with fail
  rw [HW.out]
  go_region_held3 (fun w' => w'.cell? ⟨w.heap.size + 1, 0, none⟩ = some (.int .i64 B) ∧ w'.cell? ⟨w.heap.size + 1, 1, none⟩ = some (.int .i64 P) ∧ w'.cell? ⟨w.heap.size + 1, 2, none⟩ = some (.int .i64 I) ∧ w'.cell? ⟨w.heap.size + 1, 3, none⟩ = some (.int .i64 J)) (first | exact geo_cells b1.drew | exact geo_cells ((b1.drew).belowAll hb)) (first | (go_simp; go_at_call 62; refine (lgroups_any _ _ _ _ _).mono ?_; rintro e w1 ⟨rfl, hb⟩))
  have s1 := (b0.drew).belowAll hb
  have g1 := (b1.drew).belowAll hb
  have B1 := Lib.hid (HBEL.out.drew.trans (hb.mono HBEL.out.size))
  have hz1 := hb.size
  clear hb b0 b1
  clear hw
  have SC := sup_cells s1
  have GC := geo_cells g1
  go_wp2_with fail
  refine region_mix [true, true, true, true, true, true, true, true, false] (S := fun w' => (w'.cell? ⟨w.heap.size, 0, none⟩ = some (.int .i64 B) ∧ w'.cell? ⟨w.heap.size, 1, none⟩ = some (.int .i64 P) ∧ w'.cell? ⟨w.heap.size, 2, none⟩ = some (.int .i64 I) ∧ w'.cell? ⟨w.heap.size, 3, none⟩ = some (.int .i64 J) ∧ w'.cell? ⟨w.heap.size, 4, none⟩ = some (.int .i64 fb) ∧ w'.cell? ⟨w.heap.size, 5, none⟩ = some (.int .i64 fi) ∧ w'.cell? ⟨w.heap.size, 6, none⟩ = some (.int .i64 o) ∧ w'.cell? ⟨w.heap.size, 7, none⟩ = some (.int .i64 m) ∧ w'.cell? ⟨w.heap.size, 8, none⟩ = some (.bool cl)) ∧ (w'.cell? ⟨w.heap.size + 1, 0, none⟩ = some (.int .i64 B) ∧ w'.cell? ⟨w.heap.size + 1, 1, none⟩ = some (.int .i64 P) ∧ w'.cell? ⟨w.heap.size + 1, 2, none⟩ = some (.int .i64 I) ∧ w'.cell? ⟨w.heap.size + 1, 3, none⟩ = some (.int .i64 J))) (by kernel_rfl) (by kernel_rfl) (fun _ _ d _ _ h => by cases d <;> exact h) ⟨SC, GC⟩ ?_
  clear SC GC
  iterate 8 (refine mix_take (v := ?_) (by kernel_rfl) ?_ (fun K hK => ?_); rotate_left; (· (intro w' hSw; (try dsimp only at hSw); go_simp; with_reducible rfl)); simp only [Act.put, List.setIfInBounds_toArray, List.set_cons_zero, List.set_cons_succ]; refine hK _ ?_; clear hK K)
  refine mix_do (E := False) (fun K hK => ?_) (by kernel_rfl)
  go_simp
  go_at_call 63
  refine (lfixed_any _ _ _ _ _).mono ?_
  rintro e w2 ⟨rfl, hb2⟩
  have s2 := s1.drew.belowAll hb2
  have g2 := g1.drew.belowAll hb2
  have B2 := Lib.hid (below_all B1.out.drew B1.out.size hb2)
  have hz2 : w1.heap.size ≤ w2.heap.size := hb2.size
  clear hb2 s1 g1
  refine hK.out _ _ (⟨sup_cells s2, geo_cells g2⟩) ?_
  clear hK K
  try simp only [Act.put, List.setIfInBounds_toArray, List.set_cons_zero, List.set_cons_succ]
  refine mix_still ?_
  obtain ⟨q0, q1, q2, q3, q4, q5, q6, q7, q8⟩ := sup_cells s2
  obtain ⟨r0, r1, r2, r3⟩ := geo_cells g2
  iterate 1 (refine still_take (v := ?_) (by kernel_rfl) ?_ (fun K hK => ?_); rotate_left; (· (go_simp; with_reducible rfl)); simp only [Act.put, List.setIfInBounds_toArray, List.set_cons_zero, List.set_cons_succ]; refine hK _ ?_; clear hK K)
  refine still_call_ (v := ?_) (f := ?_) (args := ?_) (by kernel_rfl) ?_ ?_ (fun K hK => ?_)
  rotate_left 3
  · (go_simp; constructor <;> rfl)
  · exact rq C1.out w2
  simp only [Act.put, List.setIfInBounds_toArray, List.set_cons_zero, List.set_cons_succ]
  refine hK _ ?_
  clear hK K
  iterate 3 (refine still_take (v := ?_) (by kernel_rfl) ?_ (fun K hK => ?_); rotate_left; (· (go_simp; with_reducible rfl)); simp only [Act.put, List.setIfInBounds_toArray, List.set_cons_zero, List.set_cons_succ]; refine hK _ ?_; clear hK K)
  iterate 3 (refine still_take (v := ?_) (by kernel_rfl) ?_ (fun K hK => ?_); rotate_left; (· (go_simp; with_reducible rfl)); simp only [Act.put, List.setIfInBounds_toArray, List.set_cons_zero, List.set_cons_succ]; refine hK _ ?_; clear hK K)
  refine still_call_ (v := ?_) (f := ?_) (args := ?_) (by kernel_rfl) ?_ ?_ (fun K hK => ?_)
  rotate_left 3
  · (go_simp; constructor <;> rfl)
  · exact rq C2.out w2
  simp only [Act.put, List.setIfInBounds_toArray, List.set_cons_zero, List.set_cons_succ]
  refine hK _ ?_
  clear hK K
  iterate 3 (refine still_take (v := ?_) (by kernel_rfl) ?_ (fun K hK => ?_); rotate_left; (· (go_simp; with_reducible rfl)); simp only [Act.put, List.setIfInBounds_toArray, List.set_cons_zero, List.set_cons_succ]; refine hK _ ?_; clear hK K)
  iterate 3 (refine still_take (v := ?_) (by kernel_rfl) ?_ (fun K hK => ?_); rotate_left; (· (go_simp; with_reducible rfl)); simp only [Act.put, List.setIfInBounds_toArray, List.set_cons_zero, List.set_cons_succ]; refine hK _ ?_; clear hK K)
  refine still_call_ (v := ?_) (f := ?_) (args := ?_) (by kernel_rfl) ?_ ?_ (fun K hK => ?_)
  rotate_left 3
  · (go_simp; constructor <;> rfl)
  · exact rq C3.out w2
  simp only [Act.put, List.setIfInBounds_toArray, List.set_cons_zero, List.set_cons_succ]
  refine hK _ ?_
  clear hK K
  iterate 3 (refine still_take (v := ?_) (by kernel_rfl) ?_ (fun K hK => ?_); rotate_left; (· (go_simp; with_reducible rfl)); simp only [Act.put, List.setIfInBounds_toArray, List.set_cons_zero, List.set_cons_succ]; refine hK _ ?_; clear hK K)
  iterate 4 (refine still_skip ?_ ?_; (· kernel_rfl); intro K hK; simp only [Act.put, List.setIfInBounds_toArray, List.set_cons_zero, List.set_cons_succ]; apply hK; clear hK K)
  iterate 1 (refine still_take (v := ?_) (by kernel_rfl) ?_ (fun K hK => ?_); rotate_left; (· (go_simp; with_reducible rfl)); simp only [Act.put, List.setIfInBounds_toArray, List.set_cons_zero, List.set_cons_succ]; refine hK _ ?_; clear hK K)
  refine still_end ?_
  go_wp2
  go_ret2
  exact ⟨rfl, B2.out⟩

theorem packSuper_4 (B P I J fb fi o m : Int) (cl : Bool) (w : World) (hg : gok B P I J = true) (c1 : rg fb 0 (B - fixd B P I J) = true) (c2 : rg fi 0 (grp B P I J * I) = true) (c3 : rg o 0 (grp B P I J * I) = true) (c4 : rg m 0 2147483647 = false) :
    Calls Try.prog 22 #[.agg #[.int .i64 B, .int .i64 P, .int .i64 I, .int .i64 J, .int .i64 fb, .int .i64 fi, .int .i64 o, .int .i64 m, .bool cl]] w fun e w' =>  e = .returned (.tuple #[.slice none 0 0, .int .i64 22]) ∧ Below w.heap.size w w' := by
  obtain ⟨W, hW⟩ : ∃ W, (w.alloc (.cells #[.int .i64 B, .int .i64 P, .int .i64 I, .int .i64 J, .int .i64 fb, .int .i64 fi, .int .i64 o, .int .i64 m, .bool cl] 39)).alloc (.cells #[.int .i64 B, .int .i64 P, .int .i64 I, .int .i64 J] 37) = W := ⟨_, rfl⟩
  obtain ⟨b0, b1, hbel, hsz⟩ := boxes2 w _ _ _ _ W hW
  have HW := Lib.hid hW
  have HBEL := Lib.hid hbel
  have hszW : w.heap.size + 2 ≤ W.heap.size := by omega
  clear hW hbel hsz
  have G := Geo.of hg
  have i1 := G.i1; have i2 := G.i2; have bb1 := G.b1; have bb2 := G.b2; have pp1 := G.p1; have pp2 := G.p2; have jj1 := G.j1; have jj2 := G.j2
  obtain ⟨gr1, gr2⟩ : 1 ≤ grp B P I J ∧ grp B P I J ≤ 14 := by rw [grp_yes hg]; have := G.n1; have := G.n2; omega
  have m1 : grp B P I J * I ≤ 14 * 512 := Int.mul_le_mul gr2 i2 (by omega) (by omega)
  have m0 : 1 * 8 ≤ grp B P I J * I := Int.mul_le_mul gr1 i1 (by omega) (by omega)
  obtain ⟨f0, f1⟩ := fixd_le hg
  have hw : IntKind.i64.wrap (grp B P I J * I) = grp B P I J * I := by rw [IntKind.wrap_i64]; omega
  have hz : (grp B P I J * I == 0) = false := by simp; omega
  have hw2 : IntKind.i64.wrap (B - fixd B P I J) = B - fixd B P I J := by rw [IntKind.wrap_i64]; omega
  have C1 := Lib.hid c1
  have C2 := Lib.hid c2
  have C3 := Lib.hid c3
  have C4 := Lib.hid c4
  clear G hg c1 c2 c3 c4
  go_enter Try.func22, Try.ntmps22
  go_wp2_with fail
  rw [HW.out]
  go_region_held3 (fun w' => w'.cell? ⟨w.heap.size + 1, 0, none⟩ = some (.int .i64 B) ∧ w'.cell? ⟨w.heap.size + 1, 1, none⟩ = some (.int .i64 P) ∧ w'.cell? ⟨w.heap.size + 1, 2, none⟩ = some (.int .i64 I) ∧ w'.cell? ⟨w.heap.size + 1, 3, none⟩ = some (.int .i64 J)) (first | exact geo_cells b1.drew | exact geo_cells ((b1.drew).belowAll hb)) (first | (go_simp; go_at_call 62; refine (lgroups_any _ _ _ _ _).mono ?_; rintro e w1 ⟨rfl, hb⟩))
  have s1 := (b0.drew).belowAll hb
  have g1 := (b1.drew).belowAll hb
  have B1 := Lib.hid (HBEL.out.drew.trans (hb.mono HBEL.out.size))
  have hz1 := hb.size
  clear hb b0 b1
  clear hw
  have SC := sup_cells s1
  have GC := geo_cells g1
  go_wp2_with fail
  refine region_mix [true, true, true, true, true, true, true, true, false] (S := fun w' => (w'.cell? ⟨w.heap.size, 0, none⟩ = some (.int .i64 B) ∧ w'.cell? ⟨w.heap.size, 1, none⟩ = some (.int .i64 P) ∧ w'.cell? ⟨w.heap.size, 2, none⟩ = some (.int .i64 I) ∧ w'.cell? ⟨w.heap.size, 3, none⟩ = some (.int .i64 J) ∧ w'.cell? ⟨w.heap.size, 4, none⟩ = some (.int .i64 fb) ∧ w'.cell? ⟨w.heap.size, 5, none⟩ = some (.int .i64 fi) ∧ w'.cell? ⟨w.heap.size, 6, none⟩ = some (.int .i64 o) ∧ w'.cell? ⟨w.heap.size, 7, none⟩ = some (.int .i64 m) ∧ w'.cell? ⟨w.heap.size, 8, none⟩ = some (.bool cl)) ∧ (w'.cell? ⟨w.heap.size + 1, 0, none⟩ = some (.int .i64 B) ∧ w'.cell? ⟨w.heap.size + 1, 1, none⟩ = some (.int .i64 P) ∧ w'.cell? ⟨w.heap.size + 1, 2, none⟩ = some (.int .i64 I) ∧ w'.cell? ⟨w.heap.size + 1, 3, none⟩ = some (.int .i64 J))) (by kernel_rfl) (by kernel_rfl) (fun _ _ d _ _ h => by cases d <;> exact h) ⟨SC, GC⟩ ?_
  clear SC GC
  iterate 8 (refine mix_take (v := ?_) (by kernel_rfl) ?_ (fun K hK => ?_); rotate_left; (· (intro w' hSw; (try dsimp only at hSw); go_simp; with_reducible rfl)); simp only [Act.put, List.setIfInBounds_toArray, List.set_cons_zero, List.set_cons_succ]; refine hK _ ?_; clear hK K)
  refine mix_do (E := False) (fun K hK => ?_) (by kernel_rfl)
  go_simp
  go_at_call 63
  refine (lfixed_any _ _ _ _ _).mono ?_
  rintro e w2 ⟨rfl, hb2⟩
  have s2 := s1.drew.belowAll hb2
  have g2 := g1.drew.belowAll hb2
  have B2 := Lib.hid (below_all B1.out.drew B1.out.size hb2)
  have hz2 : w1.heap.size ≤ w2.heap.size := hb2.size
  clear hb2 s1 g1
  refine hK.out _ _ (⟨sup_cells s2, geo_cells g2⟩) ?_
  clear hK K
  try simp only [Act.put, List.setIfInBounds_toArray, List.set_cons_zero, List.set_cons_succ]
  refine mix_still ?_
  obtain ⟨q0, q1, q2, q3, q4, q5, q6, q7, q8⟩ := sup_cells s2
  obtain ⟨r0, r1, r2, r3⟩ := geo_cells g2
  iterate 1 (refine still_take (v := ?_) (by kernel_rfl) ?_ (fun K hK => ?_); rotate_left; (· (go_simp; with_reducible rfl)); simp only [Act.put, List.setIfInBounds_toArray, List.set_cons_zero, List.set_cons_succ]; refine hK _ ?_; clear hK K)
  refine still_call_ (v := ?_) (f := ?_) (args := ?_) (by kernel_rfl) ?_ ?_ (fun K hK => ?_)
  rotate_left 3
  · (go_simp; constructor <;> rfl)
  · exact rq C1.out w2
  simp only [Act.put, List.setIfInBounds_toArray, List.set_cons_zero, List.set_cons_succ]
  refine hK _ ?_
  clear hK K
  iterate 3 (refine still_take (v := ?_) (by kernel_rfl) ?_ (fun K hK => ?_); rotate_left; (· (go_simp; with_reducible rfl)); simp only [Act.put, List.setIfInBounds_toArray, List.set_cons_zero, List.set_cons_succ]; refine hK _ ?_; clear hK K)
  iterate 3 (refine still_take (v := ?_) (by kernel_rfl) ?_ (fun K hK => ?_); rotate_left; (· (go_simp; with_reducible rfl)); simp only [Act.put, List.setIfInBounds_toArray, List.set_cons_zero, List.set_cons_succ]; refine hK _ ?_; clear hK K)
  refine still_call_ (v := ?_) (f := ?_) (args := ?_) (by kernel_rfl) ?_ ?_ (fun K hK => ?_)
  rotate_left 3
  · (go_simp; constructor <;> rfl)
  · exact rq C2.out w2
  simp only [Act.put, List.setIfInBounds_toArray, List.set_cons_zero, List.set_cons_succ]
  refine hK _ ?_
  clear hK K
  iterate 3 (refine still_take (v := ?_) (by kernel_rfl) ?_ (fun K hK => ?_); rotate_left; (· (go_simp; with_reducible rfl)); simp only [Act.put, List.setIfInBounds_toArray, List.set_cons_zero, List.set_cons_succ]; refine hK _ ?_; clear hK K)
  iterate 3 (refine still_take (v := ?_) (by kernel_rfl) ?_ (fun K hK => ?_); rotate_left; (· (go_simp; with_reducible rfl)); simp only [Act.put, List.setIfInBounds_toArray, List.set_cons_zero, List.set_cons_succ]; refine hK _ ?_; clear hK K)
  refine still_call_ (v := ?_) (f := ?_) (args := ?_) (by kernel_rfl) ?_ ?_ (fun K hK => ?_)
  rotate_left 3
  · (go_simp; constructor <;> rfl)
  · exact rq C3.out w2
  simp only [Act.put, List.setIfInBounds_toArray, List.set_cons_zero, List.set_cons_succ]
  refine hK _ ?_
  clear hK K
  iterate 3 (refine still_take (v := ?_) (by kernel_rfl) ?_ (fun K hK => ?_); rotate_left; (· (go_simp; with_reducible rfl)); simp only [Act.put, List.setIfInBounds_toArray, List.set_cons_zero, List.set_cons_succ]; refine hK _ ?_; clear hK K)
  iterate 2 (refine still_take (v := ?_) (by kernel_rfl) ?_ (fun K hK => ?_); rotate_left; (· (go_simp; with_reducible rfl)); simp only [Act.put, List.setIfInBounds_toArray, List.set_cons_zero, List.set_cons_succ]; refine hK _ ?_; clear hK K)
  refine still_call_ (v := ?_) (f := ?_) (args := ?_) (by kernel_rfl) ?_ ?_ (fun K hK => ?_)
  rotate_left 3
  · (go_simp; constructor <;> rfl)
  · exact rq C4.out w2
  simp only [Act.put, List.setIfInBounds_toArray, List.set_cons_zero, List.set_cons_succ]
  refine hK _ ?_
  clear hK K
  iterate 2 (refine still_take (v := ?_) (by kernel_rfl) ?_ (fun K hK => ?_); rotate_left; (· (go_simp; with_reducible rfl)); simp only [Act.put, List.setIfInBounds_toArray, List.set_cons_zero, List.set_cons_succ]; refine hK _ ?_; clear hK K)
  refine still_end ?_
  go_wp2
  go_ret2
  exact ⟨rfl, B2.out⟩

theorem packSuper_5 (B P I J fb fi o m : Int) (cl : Bool) (w : World) (hg : gok B P I J = true) (c1 : rg fb 0 (B - fixd B P I J) = true) (c2 : rg fi 0 (grp B P I J * I) = true) (c3 : rg o 0 (grp B P I J * I) = true) (c4 : rg m 0 2147483647 = true) :
    Calls Try.prog 22 #[.agg #[.int .i64 B, .int .i64 P, .int .i64 I, .int .i64 J, .int .i64 fb, .int .i64 fi, .int .i64 o, .int .i64 m, .bool cl]] w fun e w' =>  ∃ v, e = .returned (.tuple #[v, .int .i64 0]) ∧ Below w.heap.size w w' ∧ w'.ownsRow w.heap.size 5 1 v (sealB 0#32 (packB (superL B P I J fb fi o m cl) superWs 256)).length (bvl (sealB 0#32 (packB (superL B P I J fb fi o m cl) superWs 256))) := by
  obtain ⟨W, hW⟩ : ∃ W, (w.alloc (.cells #[.int .i64 B, .int .i64 P, .int .i64 I, .int .i64 J, .int .i64 fb, .int .i64 fi, .int .i64 o, .int .i64 m, .bool cl] 39)).alloc (.cells #[.int .i64 B, .int .i64 P, .int .i64 I, .int .i64 J] 37) = W := ⟨_, rfl⟩
  obtain ⟨b0, b1, hbel, hsz⟩ := boxes2 w _ _ _ _ W hW
  have HW := Lib.hid hW
  have HBEL := Lib.hid hbel
  have hszW : w.heap.size + 2 ≤ W.heap.size := by omega
  clear hW hbel hsz
  have G := Geo.of hg
  have i1 := G.i1; have i2 := G.i2; have bb1 := G.b1; have bb2 := G.b2; have pp1 := G.p1; have pp2 := G.p2; have jj1 := G.j1; have jj2 := G.j2
  obtain ⟨gr1, gr2⟩ : 1 ≤ grp B P I J ∧ grp B P I J ≤ 14 := by rw [grp_yes hg]; have := G.n1; have := G.n2; omega
  have m1 : grp B P I J * I ≤ 14 * 512 := Int.mul_le_mul gr2 i2 (by omega) (by omega)
  have m0 : 1 * 8 ≤ grp B P I J * I := Int.mul_le_mul gr1 i1 (by omega) (by omega)
  obtain ⟨f0, f1⟩ := fixd_le hg
  have hw : IntKind.i64.wrap (grp B P I J * I) = grp B P I J * I := by rw [IntKind.wrap_i64]; omega
  have hz : (grp B P I J * I == 0) = false := by simp; omega
  have hw2 : IntKind.i64.wrap (B - fixd B P I J) = B - fixd B P I J := by rw [IntKind.wrap_i64]; omega
  have hcs := sup_nat hg c1 c2 c3 c4
  have HCS := Lib.hid hcs
  clear hcs
  have C1 := Lib.hid c1
  have C2 := Lib.hid c2
  have C3 := Lib.hid c3
  have C4 := Lib.hid c4
  clear G hg c1 c2 c3 c4
  go_enter Try.func22, Try.ntmps22
  go_wp2_with fail
  rw [HW.out]
  go_region_held3 (fun w' => w'.cell? ⟨w.heap.size + 1, 0, none⟩ = some (.int .i64 B) ∧ w'.cell? ⟨w.heap.size + 1, 1, none⟩ = some (.int .i64 P) ∧ w'.cell? ⟨w.heap.size + 1, 2, none⟩ = some (.int .i64 I) ∧ w'.cell? ⟨w.heap.size + 1, 3, none⟩ = some (.int .i64 J)) (first | exact geo_cells b1.drew | exact geo_cells ((b1.drew).belowAll hb)) (first | (go_simp; go_at_call 62; refine (lgroups_any _ _ _ _ _).mono ?_; rintro e w1 ⟨rfl, hb⟩))
  have s1 := (b0.drew).belowAll hb
  have g1 := (b1.drew).belowAll hb
  have B1 := Lib.hid (HBEL.out.drew.trans (hb.mono HBEL.out.size))
  have hz1 := hb.size
  clear hb b0 b1
  clear hw
  have SC := sup_cells s1
  have GC := geo_cells g1
  go_wp2_with fail
  refine region_mix [true, true, true, true, true, true, true, true, false] (S := fun w' => (w'.cell? ⟨w.heap.size, 0, none⟩ = some (.int .i64 B) ∧ w'.cell? ⟨w.heap.size, 1, none⟩ = some (.int .i64 P) ∧ w'.cell? ⟨w.heap.size, 2, none⟩ = some (.int .i64 I) ∧ w'.cell? ⟨w.heap.size, 3, none⟩ = some (.int .i64 J) ∧ w'.cell? ⟨w.heap.size, 4, none⟩ = some (.int .i64 fb) ∧ w'.cell? ⟨w.heap.size, 5, none⟩ = some (.int .i64 fi) ∧ w'.cell? ⟨w.heap.size, 6, none⟩ = some (.int .i64 o) ∧ w'.cell? ⟨w.heap.size, 7, none⟩ = some (.int .i64 m) ∧ w'.cell? ⟨w.heap.size, 8, none⟩ = some (.bool cl)) ∧ (w'.cell? ⟨w.heap.size + 1, 0, none⟩ = some (.int .i64 B) ∧ w'.cell? ⟨w.heap.size + 1, 1, none⟩ = some (.int .i64 P) ∧ w'.cell? ⟨w.heap.size + 1, 2, none⟩ = some (.int .i64 I) ∧ w'.cell? ⟨w.heap.size + 1, 3, none⟩ = some (.int .i64 J))) (by kernel_rfl) (by kernel_rfl) (fun _ _ d _ _ h => by cases d <;> exact h) ⟨SC, GC⟩ ?_
  clear SC GC
  iterate 8 (refine mix_take (v := ?_) (by kernel_rfl) ?_ (fun K hK => ?_); rotate_left; (· (intro w' hSw; (try dsimp only at hSw); go_simp; with_reducible rfl)); simp only [Act.put, List.setIfInBounds_toArray, List.set_cons_zero, List.set_cons_succ]; refine hK _ ?_; clear hK K)
  refine mix_do (E := False) (fun K hK => ?_) (by kernel_rfl)
  go_simp
  go_at_call 63
  refine (lfixed_any _ _ _ _ _).mono ?_
  rintro e w2 ⟨rfl, hb2⟩
  have s2 := s1.drew.belowAll hb2
  have g2 := g1.drew.belowAll hb2
  have B2 := Lib.hid (below_all B1.out.drew B1.out.size hb2)
  have hz2 : w1.heap.size ≤ w2.heap.size := hb2.size
  clear hb2 s1 g1
  refine hK.out _ _ (⟨sup_cells s2, geo_cells g2⟩) ?_
  clear hK K
  try simp only [Act.put, List.setIfInBounds_toArray, List.set_cons_zero, List.set_cons_succ]
  refine mix_still ?_
  obtain ⟨q0, q1, q2, q3, q4, q5, q6, q7, q8⟩ := sup_cells s2
  obtain ⟨r0, r1, r2, r3⟩ := geo_cells g2
  iterate 1 (refine still_take (v := ?_) (by kernel_rfl) ?_ (fun K hK => ?_); rotate_left; (· (go_simp; with_reducible rfl)); simp only [Act.put, List.setIfInBounds_toArray, List.set_cons_zero, List.set_cons_succ]; refine hK _ ?_; clear hK K)
  refine still_call_ (v := ?_) (f := ?_) (args := ?_) (by kernel_rfl) ?_ ?_ (fun K hK => ?_)
  rotate_left 3
  · (go_simp; constructor <;> rfl)
  · exact rq C1.out w2
  simp only [Act.put, List.setIfInBounds_toArray, List.set_cons_zero, List.set_cons_succ]
  refine hK _ ?_
  clear hK K
  iterate 3 (refine still_take (v := ?_) (by kernel_rfl) ?_ (fun K hK => ?_); rotate_left; (· (go_simp; with_reducible rfl)); simp only [Act.put, List.setIfInBounds_toArray, List.set_cons_zero, List.set_cons_succ]; refine hK _ ?_; clear hK K)
  iterate 3 (refine still_take (v := ?_) (by kernel_rfl) ?_ (fun K hK => ?_); rotate_left; (· (go_simp; with_reducible rfl)); simp only [Act.put, List.setIfInBounds_toArray, List.set_cons_zero, List.set_cons_succ]; refine hK _ ?_; clear hK K)
  refine still_call_ (v := ?_) (f := ?_) (args := ?_) (by kernel_rfl) ?_ ?_ (fun K hK => ?_)
  rotate_left 3
  · (go_simp; constructor <;> rfl)
  · exact rq C2.out w2
  simp only [Act.put, List.setIfInBounds_toArray, List.set_cons_zero, List.set_cons_succ]
  refine hK _ ?_
  clear hK K
  iterate 3 (refine still_take (v := ?_) (by kernel_rfl) ?_ (fun K hK => ?_); rotate_left; (· (go_simp; with_reducible rfl)); simp only [Act.put, List.setIfInBounds_toArray, List.set_cons_zero, List.set_cons_succ]; refine hK _ ?_; clear hK K)
  iterate 3 (refine still_take (v := ?_) (by kernel_rfl) ?_ (fun K hK => ?_); rotate_left; (· (go_simp; with_reducible rfl)); simp only [Act.put, List.setIfInBounds_toArray, List.set_cons_zero, List.set_cons_succ]; refine hK _ ?_; clear hK K)
  refine still_call_ (v := ?_) (f := ?_) (args := ?_) (by kernel_rfl) ?_ ?_ (fun K hK => ?_)
  rotate_left 3
  · (go_simp; constructor <;> rfl)
  · exact rq C3.out w2
  simp only [Act.put, List.setIfInBounds_toArray, List.set_cons_zero, List.set_cons_succ]
  refine hK _ ?_
  clear hK K
  iterate 3 (refine still_take (v := ?_) (by kernel_rfl) ?_ (fun K hK => ?_); rotate_left; (· (go_simp; with_reducible rfl)); simp only [Act.put, List.setIfInBounds_toArray, List.set_cons_zero, List.set_cons_succ]; refine hK _ ?_; clear hK K)
  iterate 2 (refine still_take (v := ?_) (by kernel_rfl) ?_ (fun K hK => ?_); rotate_left; (· (go_simp; with_reducible rfl)); simp only [Act.put, List.setIfInBounds_toArray, List.set_cons_zero, List.set_cons_succ]; refine hK _ ?_; clear hK K)
  refine still_call_ (v := ?_) (f := ?_) (args := ?_) (by kernel_rfl) ?_ ?_ (fun K hK => ?_)
  rotate_left 3
  · (go_simp; constructor <;> rfl)
  · exact rq C4.out w2
  simp only [Act.put, List.setIfInBounds_toArray, List.set_cons_zero, List.set_cons_succ]
  refine hK _ ?_
  clear hK K
  iterate 2 (refine still_take (v := ?_) (by kernel_rfl) ?_ (fun K hK => ?_); rotate_left; (· (go_simp; with_reducible rfl)); simp only [Act.put, List.setIfInBounds_toArray, List.set_cons_zero, List.set_cons_succ]; refine hK _ ?_; clear hK K)
  refine still_end ?_
  obtain ⟨⟨z0, _⟩, ⟨z1, _⟩, ⟨z2, _⟩, ⟨z3, _⟩, ⟨z4, _⟩, ⟨z5, _⟩, ⟨z6, _⟩, ⟨z7, _⟩⟩ := HCS.out
  have HSI := Lib.hid (superL_ints cl z0 z1 z2 z3 z4 z5 z6 z7)
  have H63 := Lib.hid (superL_le cl HCS.out)
  clear z0 z1 z2 z3 z4 z5 z6 z7
  cases cl
  all_goals
    go_wp2_with fail
    refine (numbers_any4 (some ⟨w2.heap.size, 0, none⟩) 11 11 _ _ (by omega) (by rw [HSI.out]; exact lit_rowN _ _ (ints _) 11 _ rfl rfl) H63.out).mono ?_
    rintro e w3 ⟨v3, rfl, hb3, ho3⟩
    have B3 := Lib.hid (below_all (B2.out.alloc B2.out.size _) (by simp; have := B2.out.size; omega) hb3)
    have hz3 := hb3.size
    obtain ⟨A3, c3, rfl, hr3, _, _, _, _⟩ := own_nums ho3
    have R3 := Lib.hid hr3
    clear hb3 ho3 hr3
    go_wp2_with fail
    refine (widths_any _).mono ?_
    rintro e w4 ⟨v4, rfl, hb4, ho4⟩
    have B4 := Lib.hid (below_all B3.out B3.out.size hb4)
    have hz4 := hb4.size
    have R3' := Lib.hid (R3.out.below hb4)
    obtain ⟨A4, c4, rfl, hr4, _, _, _, _⟩ := own_ints ho4
    have R4 := Lib.hid hr4
    clear hb4 ho4 hr4
    go_wp2_with fail
    refine (sealed_lay _ _ 11 _ 11 _ _ _ 0#32 _ (by omega) (fun x hx => by have := H63.out x hx; omega) R3'.out R4.out).mono ?_
    rintro e w5 ⟨v5, rfl, hb5, ho5⟩
    have B5 := Lib.hid (below_all B4.out B4.out.size hb5)
    have O5 := Lib.hid ho5
    have hz5 := hb5.size
    clear hb5 ho5
    go_wp2_with fail
    go_ret2
    exact ⟨_, rfl, B5.out, own_mono O5.out B4.out.size⟩

theorem packSuper_any (B P I J fb fi o m : Int) (cl : Bool) (w : World) :
    Calls Try.prog 22 #[.agg #[.int .i64 B, .int .i64 P, .int .i64 I, .int .i64 J, .int .i64 fb, .int .i64 fi, .int .i64 o, .int .i64 m, .bool cl]] w fun e w' =>  ∃ v, e = .returned (.tuple #[v, .int .i64 (supE B P I J fb fi o m)]) ∧ Below w.heap.size w w' ∧ w'.ownsRow w.heap.size 5 1 v (supB B P I J fb fi o m cl).length (bvl (supB B P I J fb fi o m cl)) := by
  have no : supOk B P I J fb fi o m = false → (Calls Try.prog 22 #[.agg #[.int .i64 B, .int .i64 P, .int .i64 I, .int .i64 J, .int .i64 fb, .int .i64 fi, .int .i64 o, .int .i64 m, .bool cl]] w fun e w' => e = .returned (.tuple #[.slice none 0 0, .int .i64 22]) ∧ Below w.heap.size w w') →
      Calls Try.prog 22 #[.agg #[.int .i64 B, .int .i64 P, .int .i64 I, .int .i64 J, .int .i64 fb, .int .i64 fi, .int .i64 o, .int .i64 m, .bool cl]] w fun e w' => ∃ v, e = .returned (.tuple #[v, .int .i64 (supE B P I J fb fi o m)]) ∧ Below w.heap.size w w' ∧ w'.ownsRow w.heap.size 5 1 v (supB B P I J fb fi o m cl).length (bvl (supB B P I J fb fi o m cl)) := fun h hc => by
    have e1 : supE B P I J fb fi o m = 22 := by simp [supE, h]
    have e2 : supB B P I J fb fi o m cl = [] := by simp [supB, h]
    rw [e1, e2]
    exact hc.mono fun e w' ⟨he, hb⟩ => ⟨_, he, hb, World.ownsRow_nil _ _ _ _⟩
  cases hg : gok B P I J
  · exact no (by simp [supOk, hg]) (packSuper_geo B P I J fb fi o m cl w hg)
  cases c1 : rg fb 0 (B - fixd B P I J)
  · exact no (by simp [supOk, c1]) (packSuper_1 B P I J fb fi o m cl w hg c1)
  cases c2 : rg fi 0 (grp B P I J * I)
  · exact no (by simp [supOk, c2]) (packSuper_2 B P I J fb fi o m cl w hg c1 c2)
  cases c3 : rg o 0 (grp B P I J * I)
  · exact no (by simp [supOk, c3]) (packSuper_3 B P I J fb fi o m cl w hg c1 c2 c3)
  cases c4 : rg m 0 2147483647
  · exact no (by simp [supOk, c4]) (packSuper_4 B P I J fb fi o m cl w hg c1 c2 c3 c4)
  · have hok : supOk B P I J fb fi o m = true := by simp [supOk, hg, c1, c2, c3, c4]
    have e1 : supE B P I J fb fi o m = 0 := by simp [supE, hok]
    have e2 : supB B P I J fb fi o m cl = sealB 0#32 (packB (superL B P I J fb fi o m cl) superWs 256) := by simp [supB, hok]
    rw [e1, e2]
    exact packSuper_5 B P I J fb fi o m cl w hg c1 c2 c3 c4
end Go.Proofs.Ytafonjnanfekkaa.Lay

namespace Go.Proofs.Ytafonjnanfekkaa.Lay
open Go.RowKit Go.Proofs.Ytafonjnanfekkaa.Wire
set_option maxHeartbeats 8000000
set_option maxRecDepth 100000
set_option linter.unusedVariables false
set_option linter.unusedSimpArgs false

theorem number_ref (A : Option Addr) (len cap : Nat) (p n : Int) (bs : List UInt8) (w : World) (hl : len ≤ cap) (hc : cap ≤ 9223372036854775807) (hb : BytesAt w A len bs) (hn : n ≤ 4) :
    Calls Try.prog 73 #[.slice A len cap, .int .i64 p, .int .i64 n] w fun e w' => e = .returned (.int .i64 (uf bs p n)) ∧ w' = w := by
  have HG := Lib.hid (ref_get A len cap p n bs w hl hc hb)
  have hx := getX_lt bs p n hn
  have hu : ((getX bs p n : Nat) : Int) = uf bs p n := rfl
  have HU := Lib.hid hu
  generalize getX bs p n = y at *
  clear hb hu
  go_enter Try.func73, Try.ntmps73
  go_wp2_with (first | (go_at_call 98; refine HG.out.mono ?_; rintro e w' ⟨rfl, rfl⟩))
  go_ret
  exact ⟨ret_int HU.out, rfl⟩

theorem wq {x lo hi : Int} {b : Bool} (h : rg x lo hi = b) (w : World) : Calls Try.prog 75 #[.int .i64 x, .int .i64 lo, .int .i64 hi] w fun e w' => e = .returned (.bool b) ∧ w' = w :=
  (within_any x lo hi w).mono fun _ _ ⟨he, hw⟩ => ⟨by rw [he, h], hw.symm⟩

theorem superMay_geo (B P I J fb fi o m : Int) (cl : Bool) (w : World) (hg : gok B P I J = false) :
    Calls Try.prog 68 #[.agg #[.int .i64 B, .int .i64 P, .int .i64 I, .int .i64 J, .int .i64 fb, .int .i64 fi, .int .i64 o, .int .i64 m, .bool cl]] w fun e w' =>  e = .returned (.bool false) ∧ Below w.heap.size w w' := by
  obtain ⟨W, hW⟩ : ∃ W, w.alloc (.cells #[.int .i64 B, .int .i64 P, .int .i64 I, .int .i64 J, .int .i64 fb, .int .i64 fi, .int .i64 o, .int .i64 m, .bool cl] 39) = W := ⟨_, rfl⟩
  have b0 : Blk W w.heap.size 39 #[.int .i64 B, .int .i64 P, .int .i64 I, .int .i64 J, .int .i64 fb, .int .i64 fi, .int .i64 o, .int .i64 m, .bool cl] := by rw [← hW]; exact Blk.new w _ _
  have B0 := Lib.hid (show Below w.heap.size w W by rw [← hW]; exact (Below.refl w.heap.size w).alloc (Nat.le_refl _) _)
  obtain ⟨q0, q1, q2, q3, q4, q5, q6, q7, q8⟩ := sup_cells b0
  have HW := Lib.hid hW
  have K0 := Lib.hid b0
  clear hW b0
  have hz : (grp B P I J == 0) = true := by rw [grp_no hg]; rfl
  clear hg
  go_enter Try.func68, Try.ntmps68
  go_wp2_with fail
  rw [HW.out]
  refine (rGroups_any _ _ _ _ _).mono ?_
  rintro e w1 ⟨rfl, hb1⟩
  have B1 := Lib.hid (below_all B0.out B0.out.size hb1)
  have s1 := K0.out.belowAll hb1
  clear hb1 q0 q1 q2 q3 q4 q5 q6 q7 q8
  go_wp2_with fail
  go_ret
  exact ⟨rfl, B1.out⟩

theorem superMay_1 (B P I J fb fi o m : Int) (cl : Bool) (w : World) (hg : gok B P I J = true) (c1 : rg fb 0 (B - fixd B P I J) = false) :
    Calls Try.prog 68 #[.agg #[.int .i64 B, .int .i64 P, .int .i64 I, .int .i64 J, .int .i64 fb, .int .i64 fi, .int .i64 o, .int .i64 m, .bool cl]] w fun e w' =>  e = .returned (.bool false) ∧ Below w.heap.size w w' := by
  obtain ⟨W, hW⟩ : ∃ W, w.alloc (.cells #[.int .i64 B, .int .i64 P, .int .i64 I, .int .i64 J, .int .i64 fb, .int .i64 fi, .int .i64 o, .int .i64 m, .bool cl] 39) = W := ⟨_, rfl⟩
  have b0 : Blk W w.heap.size 39 #[.int .i64 B, .int .i64 P, .int .i64 I, .int .i64 J, .int .i64 fb, .int .i64 fi, .int .i64 o, .int .i64 m, .bool cl] := by rw [← hW]; exact Blk.new w _ _
  have B0 := Lib.hid (show Below w.heap.size w W by rw [← hW]; exact (Below.refl w.heap.size w).alloc (Nat.le_refl _) _)
  obtain ⟨q0, q1, q2, q3, q4, q5, q6, q7, q8⟩ := sup_cells b0
  have HW := Lib.hid hW
  have K0 := Lib.hid b0
  clear hW b0
  have G := Geo.of hg
  have i1 := G.i1; have i2 := G.i2; have bb1 := G.b1; have bb2 := G.b2
  obtain ⟨gr1, gr2⟩ : 1 ≤ grp B P I J ∧ grp B P I J ≤ 14 := by rw [grp_yes hg]; have := G.n1; have := G.n2; omega
  have m1 : grp B P I J * I ≤ 14 * 512 := Int.mul_le_mul gr2 i2 (by omega) (by omega)
  have m0 : 1 * 8 ≤ grp B P I J * I := Int.mul_le_mul gr1 i1 (by omega) (by omega)
  obtain ⟨f0, f1⟩ := fixd_le hg
  have hw : IntKind.i64.wrap (grp B P I J * I) = grp B P I J * I := by rw [IntKind.wrap_i64]; omega
  have hz : (grp B P I J == 0) = false := by simp; omega
  have hw2 : IntKind.i64.wrap (B - fixd B P I J) = B - fixd B P I J := by rw [IntKind.wrap_i64]; omega
  have C1 := Lib.hid c1
  clear G hg c1
  go_enter Try.func68, Try.ntmps68
  go_wp2_with fail
  rw [HW.out]
  refine (rGroups_any _ _ _ _ _).mono ?_
  rintro e w1 ⟨rfl, hb1⟩
  have B1 := Lib.hid (below_all B0.out B0.out.size hb1)
  have s1 := K0.out.belowAll hb1
  clear hb1 q0 q1 q2 q3 q4 q5 q6 q7 q8
  have SC := sup_cells s1
  obtain ⟨q0, q1, q2, q3, q4, q5, q6, q7, q8⟩ := SC
  go_wp2_with fail
  clear q0 q1 q2 q3 q4 q5 q6 q7 q8 hw
  have SC := sup_cells s1
  refine region_mix [true, true, true, true, true, true, true, false] (S := fun w' => w'.cell? ⟨w.heap.size, 0, none⟩ = some (.int .i64 B) ∧ w'.cell? ⟨w.heap.size, 1, none⟩ = some (.int .i64 P) ∧ w'.cell? ⟨w.heap.size, 2, none⟩ = some (.int .i64 I) ∧ w'.cell? ⟨w.heap.size, 3, none⟩ = some (.int .i64 J) ∧ w'.cell? ⟨w.heap.size, 4, none⟩ = some (.int .i64 fb) ∧ w'.cell? ⟨w.heap.size, 5, none⟩ = some (.int .i64 fi) ∧ w'.cell? ⟨w.heap.size, 6, none⟩ = some (.int .i64 o) ∧ w'.cell? ⟨w.heap.size, 7, none⟩ = some (.int .i64 m) ∧ w'.cell? ⟨w.heap.size, 8, none⟩ = some (.bool cl)) (by kernel_rfl) (by kernel_rfl) (fun _ _ d _ _ h => by cases d <;> exact h) SC ?_
  clear SC
  iterate 7 (refine mix_take (v := ?_) (by kernel_rfl) ?_ (fun K hK => ?_); rotate_left; (· (intro w' hSw; (try dsimp only at hSw); go_simp; with_reducible rfl)); simp only [Act.put, List.setIfInBounds_toArray, List.set_cons_zero, List.set_cons_succ]; refine hK _ ?_; clear hK K)
  refine mix_do (E := False) (fun K hK => ?_) (by kernel_rfl)
  go_simp
  go_at_call 95
  refine (rfixed_any _ _ _ _ _).mono ?_
  rintro e w2 ⟨rfl, hb2⟩
  have s2 := s1.drew.belowAll hb2
  have B2 := Lib.hid (below_all B1.out.drew B1.out.size hb2)
  clear hb2 s1
  refine hK.out _ _ (sup_cells s2) ?_
  clear hK K
  try simp only [Act.put, List.setIfInBounds_toArray, List.set_cons_zero, List.set_cons_succ]
  refine mix_still ?_
  obtain ⟨q0, q1, q2, q3, q4, q5, q6, q7, q8⟩ := sup_cells s2
  iterate 1 (refine still_take (v := ?_) (by kernel_rfl) ?_ (fun K hK => ?_); rotate_left; (· (go_simp; with_reducible rfl)); simp only [Act.put, List.setIfInBounds_toArray, List.set_cons_zero, List.set_cons_succ]; refine hK _ ?_; clear hK K)
  refine still_call_ (v := ?_) (f := ?_) (args := ?_) (by kernel_rfl) ?_ ?_ (fun K hK => ?_)
  rotate_left 3
  · (go_simp; constructor <;> rfl)
  · exact wq C1.out w2
  simp only [Act.put, List.setIfInBounds_toArray, List.set_cons_zero, List.set_cons_succ]
  refine hK _ ?_
  clear hK K
  iterate 1 (refine still_take (v := ?_) (by kernel_rfl) ?_ (fun K hK => ?_); rotate_left; (· (go_simp; with_reducible rfl)); simp only [Act.put, List.setIfInBounds_toArray, List.set_cons_zero, List.set_cons_succ]; refine hK _ ?_; clear hK K)
  iterate 4 (refine still_skip ?_ ?_; (· kernel_rfl); intro K hK; simp only [Act.put, List.setIfInBounds_toArray, List.set_cons_zero, List.set_cons_succ]; apply hK; clear hK K)
  iterate 2 (refine still_take (v := ?_) (by kernel_rfl) ?_ (fun K hK => ?_); rotate_left; (· (go_simp; with_reducible rfl)); simp only [Act.put, List.setIfInBounds_toArray, List.set_cons_zero, List.set_cons_succ]; refine hK _ ?_; clear hK K)
  iterate 4 (refine still_skip ?_ ?_; (· kernel_rfl); intro K hK; simp only [Act.put, List.setIfInBounds_toArray, List.set_cons_zero, List.set_cons_succ]; apply hK; clear hK K)
  iterate 2 (refine still_take (v := ?_) (by kernel_rfl) ?_ (fun K hK => ?_); rotate_left; (· (go_simp; with_reducible rfl)); simp only [Act.put, List.setIfInBounds_toArray, List.set_cons_zero, List.set_cons_succ]; refine hK _ ?_; clear hK K)
  iterate 3 (refine still_skip ?_ ?_; (· kernel_rfl); intro K hK; simp only [Act.put, List.setIfInBounds_toArray, List.set_cons_zero, List.set_cons_succ]; apply hK; clear hK K)
  iterate 2 (refine still_take (v := ?_) (by kernel_rfl) ?_ (fun K hK => ?_); rotate_left; (· (go_simp; with_reducible rfl)); simp only [Act.put, List.setIfInBounds_toArray, List.set_cons_zero, List.set_cons_succ]; refine hK _ ?_; clear hK K)
  refine still_end ?_
  go_wp2
  go_ret
  exact ⟨rfl, B2.out⟩

theorem superMay_2 (B P I J fb fi o m : Int) (cl : Bool) (w : World) (hg : gok B P I J = true) (c1 : rg fb 0 (B - fixd B P I J) = true) (c2 : rg fi 0 (grp B P I J * I) = false) :
    Calls Try.prog 68 #[.agg #[.int .i64 B, .int .i64 P, .int .i64 I, .int .i64 J, .int .i64 fb, .int .i64 fi, .int .i64 o, .int .i64 m, .bool cl]] w fun e w' =>  e = .returned (.bool false) ∧ Below w.heap.size w w' := by
  obtain ⟨W, hW⟩ : ∃ W, w.alloc (.cells #[.int .i64 B, .int .i64 P, .int .i64 I, .int .i64 J, .int .i64 fb, .int .i64 fi, .int .i64 o, .int .i64 m, .bool cl] 39) = W := ⟨_, rfl⟩
  have b0 : Blk W w.heap.size 39 #[.int .i64 B, .int .i64 P, .int .i64 I, .int .i64 J, .int .i64 fb, .int .i64 fi, .int .i64 o, .int .i64 m, .bool cl] := by rw [← hW]; exact Blk.new w _ _
  have B0 := Lib.hid (show Below w.heap.size w W by rw [← hW]; exact (Below.refl w.heap.size w).alloc (Nat.le_refl _) _)
  obtain ⟨q0, q1, q2, q3, q4, q5, q6, q7, q8⟩ := sup_cells b0
  have HW := Lib.hid hW
  have K0 := Lib.hid b0
  clear hW b0
  have G := Geo.of hg
  have i1 := G.i1; have i2 := G.i2; have bb1 := G.b1; have bb2 := G.b2
  obtain ⟨gr1, gr2⟩ : 1 ≤ grp B P I J ∧ grp B P I J ≤ 14 := by rw [grp_yes hg]; have := G.n1; have := G.n2; omega
  have m1 : grp B P I J * I ≤ 14 * 512 := Int.mul_le_mul gr2 i2 (by omega) (by omega)
  have m0 : 1 * 8 ≤ grp B P I J * I := Int.mul_le_mul gr1 i1 (by omega) (by omega)
  obtain ⟨f0, f1⟩ := fixd_le hg
  have hw : IntKind.i64.wrap (grp B P I J * I) = grp B P I J * I := by rw [IntKind.wrap_i64]; omega
  have hz : (grp B P I J == 0) = false := by simp; omega
  have hw2 : IntKind.i64.wrap (B - fixd B P I J) = B - fixd B P I J := by rw [IntKind.wrap_i64]; omega
  have C1 := Lib.hid c1
  have C2 := Lib.hid c2
  clear G hg c1 c2
  go_enter Try.func68, Try.ntmps68
  go_wp2_with fail
  rw [HW.out]
  refine (rGroups_any _ _ _ _ _).mono ?_
  rintro e w1 ⟨rfl, hb1⟩
  have B1 := Lib.hid (below_all B0.out B0.out.size hb1)
  have s1 := K0.out.belowAll hb1
  clear hb1 q0 q1 q2 q3 q4 q5 q6 q7 q8
  have SC := sup_cells s1
  obtain ⟨q0, q1, q2, q3, q4, q5, q6, q7, q8⟩ := SC
  go_wp2_with fail
  clear q0 q1 q2 q3 q4 q5 q6 q7 q8 hw
  have SC := sup_cells s1
  refine region_mix [true, true, true, true, true, true, true, false] (S := fun w' => w'.cell? ⟨w.heap.size, 0, none⟩ = some (.int .i64 B) ∧ w'.cell? ⟨w.heap.size, 1, none⟩ = some (.int .i64 P) ∧ w'.cell? ⟨w.heap.size, 2, none⟩ = some (.int .i64 I) ∧ w'.cell? ⟨w.heap.size, 3, none⟩ = some (.int .i64 J) ∧ w'.cell? ⟨w.heap.size, 4, none⟩ = some (.int .i64 fb) ∧ w'.cell? ⟨w.heap.size, 5, none⟩ = some (.int .i64 fi) ∧ w'.cell? ⟨w.heap.size, 6, none⟩ = some (.int .i64 o) ∧ w'.cell? ⟨w.heap.size, 7, none⟩ = some (.int .i64 m) ∧ w'.cell? ⟨w.heap.size, 8, none⟩ = some (.bool cl)) (by kernel_rfl) (by kernel_rfl) (fun _ _ d _ _ h => by cases d <;> exact h) SC ?_
  clear SC
  iterate 7 (refine mix_take (v := ?_) (by kernel_rfl) ?_ (fun K hK => ?_); rotate_left; (· (intro w' hSw; (try dsimp only at hSw); go_simp; with_reducible rfl)); simp only [Act.put, List.setIfInBounds_toArray, List.set_cons_zero, List.set_cons_succ]; refine hK _ ?_; clear hK K)
  refine mix_do (E := False) (fun K hK => ?_) (by kernel_rfl)
  go_simp
  go_at_call 95
  refine (rfixed_any _ _ _ _ _).mono ?_
  rintro e w2 ⟨rfl, hb2⟩
  have s2 := s1.drew.belowAll hb2
  have B2 := Lib.hid (below_all B1.out.drew B1.out.size hb2)
  clear hb2 s1
  refine hK.out _ _ (sup_cells s2) ?_
  clear hK K
  try simp only [Act.put, List.setIfInBounds_toArray, List.set_cons_zero, List.set_cons_succ]
  refine mix_still ?_
  obtain ⟨q0, q1, q2, q3, q4, q5, q6, q7, q8⟩ := sup_cells s2
  iterate 1 (refine still_take (v := ?_) (by kernel_rfl) ?_ (fun K hK => ?_); rotate_left; (· (go_simp; with_reducible rfl)); simp only [Act.put, List.setIfInBounds_toArray, List.set_cons_zero, List.set_cons_succ]; refine hK _ ?_; clear hK K)
  refine still_call_ (v := ?_) (f := ?_) (args := ?_) (by kernel_rfl) ?_ ?_ (fun K hK => ?_)
  rotate_left 3
  · (go_simp; constructor <;> rfl)
  · exact wq C1.out w2
  simp only [Act.put, List.setIfInBounds_toArray, List.set_cons_zero, List.set_cons_succ]
  refine hK _ ?_
  clear hK K
  iterate 1 (refine still_take (v := ?_) (by kernel_rfl) ?_ (fun K hK => ?_); rotate_left; (· (go_simp; with_reducible rfl)); simp only [Act.put, List.setIfInBounds_toArray, List.set_cons_zero, List.set_cons_succ]; refine hK _ ?_; clear hK K)
  iterate 3 (refine still_take (v := ?_) (by kernel_rfl) ?_ (fun K hK => ?_); rotate_left; (· (go_simp; with_reducible rfl)); simp only [Act.put, List.setIfInBounds_toArray, List.set_cons_zero, List.set_cons_succ]; refine hK _ ?_; clear hK K)
  refine still_call_ (v := ?_) (f := ?_) (args := ?_) (by kernel_rfl) ?_ ?_ (fun K hK => ?_)
  rotate_left 3
  · (go_simp; constructor <;> rfl)
  · exact wq C2.out w2
  simp only [Act.put, List.setIfInBounds_toArray, List.set_cons_zero, List.set_cons_succ]
  refine hK _ ?_
  clear hK K
  iterate 2 (refine still_take (v := ?_) (by kernel_rfl) ?_ (fun K hK => ?_); rotate_left; (· (go_simp; with_reducible rfl)); simp only [Act.put, List.setIfInBounds_toArray, List.set_cons_zero, List.set_cons_succ]; refine hK _ ?_; clear hK K)
  iterate 4 (refine still_skip ?_ ?_; (· kernel_rfl); intro K hK; simp only [Act.put, List.setIfInBounds_toArray, List.set_cons_zero, List.set_cons_succ]; apply hK; clear hK K)
  iterate 2 (refine still_take (v := ?_) (by kernel_rfl) ?_ (fun K hK => ?_); rotate_left; (· (go_simp; with_reducible rfl)); simp only [Act.put, List.setIfInBounds_toArray, List.set_cons_zero, List.set_cons_succ]; refine hK _ ?_; clear hK K)
  iterate 3 (refine still_skip ?_ ?_; (· kernel_rfl); intro K hK; simp only [Act.put, List.setIfInBounds_toArray, List.set_cons_zero, List.set_cons_succ]; apply hK; clear hK K)
  iterate 2 (refine still_take (v := ?_) (by kernel_rfl) ?_ (fun K hK => ?_); rotate_left; (· (go_simp; with_reducible rfl)); simp only [Act.put, List.setIfInBounds_toArray, List.set_cons_zero, List.set_cons_succ]; refine hK _ ?_; clear hK K)
  refine still_end ?_
  go_wp2
  go_ret
  exact ⟨rfl, B2.out⟩

theorem superMay_3 (B P I J fb fi o m : Int) (cl : Bool) (w : World) (hg : gok B P I J = true) (c1 : rg fb 0 (B - fixd B P I J) = true) (c2 : rg fi 0 (grp B P I J * I) = true) (c3 : rg o 0 (grp B P I J * I) = false) :
    Calls Try.prog 68 #[.agg #[.int .i64 B, .int .i64 P, .int .i64 I, .int .i64 J, .int .i64 fb, .int .i64 fi, .int .i64 o, .int .i64 m, .bool cl]] w fun e w' =>  e = .returned (.bool false) ∧ Below w.heap.size w w' := by
  obtain ⟨W, hW⟩ : ∃ W, w.alloc (.cells #[.int .i64 B, .int .i64 P, .int .i64 I, .int .i64 J, .int .i64 fb, .int .i64 fi, .int .i64 o, .int .i64 m, .bool cl] 39) = W := ⟨_, rfl⟩
  have b0 : Blk W w.heap.size 39 #[.int .i64 B, .int .i64 P, .int .i64 I, .int .i64 J, .int .i64 fb, .int .i64 fi, .int .i64 o, .int .i64 m, .bool cl] := by rw [← hW]; exact Blk.new w _ _
  have B0 := Lib.hid (show Below w.heap.size w W by rw [← hW]; exact (Below.refl w.heap.size w).alloc (Nat.le_refl _) _)
  obtain ⟨q0, q1, q2, q3, q4, q5, q6, q7, q8⟩ := sup_cells b0
  have HW := Lib.hid hW
  have K0 := Lib.hid b0
  clear hW b0
  have G := Geo.of hg
  have i1 := G.i1; have i2 := G.i2; have bb1 := G.b1; have bb2 := G.b2
  obtain ⟨gr1, gr2⟩ : 1 ≤ grp B P I J ∧ grp B P I J ≤ 14 := by rw [grp_yes hg]; have := G.n1; have := G.n2; omega
  have m1 : grp B P I J * I ≤ 14 * 512 := Int.mul_le_mul gr2 i2 (by omega) (by omega)
  have m0 : 1 * 8 ≤ grp B P I J * I := Int.mul_le_mul gr1 i1 (by omega) (by omega)
  obtain ⟨f0, f1⟩ := fixd_le hg
  have hw : IntKind.i64.wrap (grp B P I J * I) = grp B P I J * I := by rw [IntKind.wrap_i64]; omega
  have hz : (grp B P I J == 0) = false := by simp; omega
  have hw2 : IntKind.i64.wrap (B - fixd B P I J) = B - fixd B P I J := by rw [IntKind.wrap_i64]; omega
  have C1 := Lib.hid c1
  have C2 := Lib.hid c2
  have C3 := Lib.hid c3
  clear G hg c1 c2 c3
  go_enter Try.func68, Try.ntmps68
  go_wp2_with fail
  rw [HW.out]
  refine (rGroups_any _ _ _ _ _).mono ?_
  rintro e w1 ⟨rfl, hb1⟩
  have B1 := Lib.hid (below_all B0.out B0.out.size hb1)
  have s1 := K0.out.belowAll hb1
  clear hb1 q0 q1 q2 q3 q4 q5 q6 q7 q8
  have SC := sup_cells s1
  obtain ⟨q0, q1, q2, q3, q4, q5, q6, q7, q8⟩ := SC
  go_wp2_with fail
  clear q0 q1 q2 q3 q4 q5 q6 q7 q8 hw
  have SC := sup_cells s1
  refine region_mix [true, true, true, true, true, true, true, false] (S := fun w' => w'.cell? ⟨w.heap.size, 0, none⟩ = some (.int .i64 B) ∧ w'.cell? ⟨w.heap.size, 1, none⟩ = some (.int .i64 P) ∧ w'.cell? ⟨w.heap.size, 2, none⟩ = some (.int .i64 I) ∧ w'.cell? ⟨w.heap.size, 3, none⟩ = some (.int .i64 J) ∧ w'.cell? ⟨w.heap.size, 4, none⟩ = some (.int .i64 fb) ∧ w'.cell? ⟨w.heap.size, 5, none⟩ = some (.int .i64 fi) ∧ w'.cell? ⟨w.heap.size, 6, none⟩ = some (.int .i64 o) ∧ w'.cell? ⟨w.heap.size, 7, none⟩ = some (.int .i64 m) ∧ w'.cell? ⟨w.heap.size, 8, none⟩ = some (.bool cl)) (by kernel_rfl) (by kernel_rfl) (fun _ _ d _ _ h => by cases d <;> exact h) SC ?_
  clear SC
  iterate 7 (refine mix_take (v := ?_) (by kernel_rfl) ?_ (fun K hK => ?_); rotate_left; (· (intro w' hSw; (try dsimp only at hSw); go_simp; with_reducible rfl)); simp only [Act.put, List.setIfInBounds_toArray, List.set_cons_zero, List.set_cons_succ]; refine hK _ ?_; clear hK K)
  refine mix_do (E := False) (fun K hK => ?_) (by kernel_rfl)
  go_simp
  go_at_call 95
  refine (rfixed_any _ _ _ _ _).mono ?_
  rintro e w2 ⟨rfl, hb2⟩
  have s2 := s1.drew.belowAll hb2
  have B2 := Lib.hid (below_all B1.out.drew B1.out.size hb2)
  clear hb2 s1
  refine hK.out _ _ (sup_cells s2) ?_
  clear hK K
  try simp only [Act.put, List.setIfInBounds_toArray, List.set_cons_zero, List.set_cons_succ]
  refine mix_still ?_
  obtain ⟨q0, q1, q2, q3, q4, q5, q6, q7, q8⟩ := sup_cells s2
  iterate 1 (refine still_take (v := ?_) (by kernel_rfl) ?_ (fun K hK => ?_); rotate_left; (· (go_simp; with_reducible rfl)); simp only [Act.put, List.setIfInBounds_toArray, List.set_cons_zero, List.set_cons_succ]; refine hK _ ?_; clear hK K)
  refine still_call_ (v := ?_) (f := ?_) (args := ?_) (by kernel_rfl) ?_ ?_ (fun K hK => ?_)
  rotate_left 3
  · (go_simp; constructor <;> rfl)
  · exact wq C1.out w2
  simp only [Act.put, List.setIfInBounds_toArray, List.set_cons_zero, List.set_cons_succ]
  refine hK _ ?_
  clear hK K
  iterate 1 (refine still_take (v := ?_) (by kernel_rfl) ?_ (fun K hK => ?_); rotate_left; (· (go_simp; with_reducible rfl)); simp only [Act.put, List.setIfInBounds_toArray, List.set_cons_zero, List.set_cons_succ]; refine hK _ ?_; clear hK K)
  iterate 3 (refine still_take (v := ?_) (by kernel_rfl) ?_ (fun K hK => ?_); rotate_left; (· (go_simp; with_reducible rfl)); simp only [Act.put, List.setIfInBounds_toArray, List.set_cons_zero, List.set_cons_succ]; refine hK _ ?_; clear hK K)
  refine still_call_ (v := ?_) (f := ?_) (args := ?_) (by kernel_rfl) ?_ ?_ (fun K hK => ?_)
  rotate_left 3
  · (go_simp; constructor <;> rfl)
  · exact wq C2.out w2
  simp only [Act.put, List.setIfInBounds_toArray, List.set_cons_zero, List.set_cons_succ]
  refine hK _ ?_
  clear hK K
  iterate 2 (refine still_take (v := ?_) (by kernel_rfl) ?_ (fun K hK => ?_); rotate_left; (· (go_simp; with_reducible rfl)); simp only [Act.put, List.setIfInBounds_toArray, List.set_cons_zero, List.set_cons_succ]; refine hK _ ?_; clear hK K)
  iterate 3 (refine still_take (v := ?_) (by kernel_rfl) ?_ (fun K hK => ?_); rotate_left; (· (go_simp; with_reducible rfl)); simp only [Act.put, List.setIfInBounds_toArray, List.set_cons_zero, List.set_cons_succ]; refine hK _ ?_; clear hK K)
  refine still_call_ (v := ?_) (f := ?_) (args := ?_) (by kernel_rfl) ?_ ?_ (fun K hK => ?_)
  rotate_left 3
  · (go_simp; constructor <;> rfl)
  · exact wq C3.out w2
  simp only [Act.put, List.setIfInBounds_toArray, List.set_cons_zero, List.set_cons_succ]
  refine hK _ ?_
  clear hK K
  iterate 2 (refine still_take (v := ?_) (by kernel_rfl) ?_ (fun K hK => ?_); rotate_left; (· (go_simp; with_reducible rfl)); simp only [Act.put, List.setIfInBounds_toArray, List.set_cons_zero, List.set_cons_succ]; refine hK _ ?_; clear hK K)
  iterate 3 (refine still_skip ?_ ?_; (· kernel_rfl); intro K hK; simp only [Act.put, List.setIfInBounds_toArray, List.set_cons_zero, List.set_cons_succ]; apply hK; clear hK K)
  iterate 2 (refine still_take (v := ?_) (by kernel_rfl) ?_ (fun K hK => ?_); rotate_left; (· (go_simp; with_reducible rfl)); simp only [Act.put, List.setIfInBounds_toArray, List.set_cons_zero, List.set_cons_succ]; refine hK _ ?_; clear hK K)
  refine still_end ?_
  go_wp2
  go_ret
  exact ⟨rfl, B2.out⟩

theorem superMay_4 (B P I J fb fi o m : Int) (cl : Bool) (w : World) (hg : gok B P I J = true) (c1 : rg fb 0 (B - fixd B P I J) = true) (c2 : rg fi 0 (grp B P I J * I) = true) (c3 : rg o 0 (grp B P I J * I) = true) (c4 : rg m 0 2147483647 = false) :
    Calls Try.prog 68 #[.agg #[.int .i64 B, .int .i64 P, .int .i64 I, .int .i64 J, .int .i64 fb, .int .i64 fi, .int .i64 o, .int .i64 m, .bool cl]] w fun e w' =>  e = .returned (.bool false) ∧ Below w.heap.size w w' := by
  obtain ⟨W, hW⟩ : ∃ W, w.alloc (.cells #[.int .i64 B, .int .i64 P, .int .i64 I, .int .i64 J, .int .i64 fb, .int .i64 fi, .int .i64 o, .int .i64 m, .bool cl] 39) = W := ⟨_, rfl⟩
  have b0 : Blk W w.heap.size 39 #[.int .i64 B, .int .i64 P, .int .i64 I, .int .i64 J, .int .i64 fb, .int .i64 fi, .int .i64 o, .int .i64 m, .bool cl] := by rw [← hW]; exact Blk.new w _ _
  have B0 := Lib.hid (show Below w.heap.size w W by rw [← hW]; exact (Below.refl w.heap.size w).alloc (Nat.le_refl _) _)
  obtain ⟨q0, q1, q2, q3, q4, q5, q6, q7, q8⟩ := sup_cells b0
  have HW := Lib.hid hW
  have K0 := Lib.hid b0
  clear hW b0
  have G := Geo.of hg
  have i1 := G.i1; have i2 := G.i2; have bb1 := G.b1; have bb2 := G.b2
  obtain ⟨gr1, gr2⟩ : 1 ≤ grp B P I J ∧ grp B P I J ≤ 14 := by rw [grp_yes hg]; have := G.n1; have := G.n2; omega
  have m1 : grp B P I J * I ≤ 14 * 512 := Int.mul_le_mul gr2 i2 (by omega) (by omega)
  have m0 : 1 * 8 ≤ grp B P I J * I := Int.mul_le_mul gr1 i1 (by omega) (by omega)
  obtain ⟨f0, f1⟩ := fixd_le hg
  have hw : IntKind.i64.wrap (grp B P I J * I) = grp B P I J * I := by rw [IntKind.wrap_i64]; omega
  have hz : (grp B P I J == 0) = false := by simp; omega
  have hw2 : IntKind.i64.wrap (B - fixd B P I J) = B - fixd B P I J := by rw [IntKind.wrap_i64]; omega
  have C1 := Lib.hid c1
  have C2 := Lib.hid c2
  have C3 := Lib.hid c3
  have C4 := Lib.hid c4
  clear G hg c1 c2 c3 c4
  go_enter Try.func68, Try.ntmps68
  go_wp2_with fail
  rw [HW.out]
  refine (rGroups_any _ _ _ _ _).mono ?_
  rintro e w1 ⟨rfl, hb1⟩
  have B1 := Lib.hid (below_all B0.out B0.out.size hb1)
  have s1 := K0.out.belowAll hb1
  clear hb1 q0 q1 q2 q3 q4 q5 q6 q7 q8
  have SC := sup_cells s1
  obtain ⟨q0, q1, q2, q3, q4, q5, q6, q7, q8⟩ := SC
  go_wp2_with fail
  clear q0 q1 q2 q3 q4 q5 q6 q7 q8 hw
  have SC := sup_cells s1
  refine region_mix [true, true, true, true, true, true, true, false] (S := fun w' => w'.cell? ⟨w.heap.size, 0, none⟩ = some (.int .i64 B) ∧ w'.cell? ⟨w.heap.size, 1, none⟩ = some (.int .i64 P) ∧ w'.cell? ⟨w.heap.size, 2, none⟩ = some (.int .i64 I) ∧ w'.cell? ⟨w.heap.size, 3, none⟩ = some (.int .i64 J) ∧ w'.cell? ⟨w.heap.size, 4, none⟩ = some (.int .i64 fb) ∧ w'.cell? ⟨w.heap.size, 5, none⟩ = some (.int .i64 fi) ∧ w'.cell? ⟨w.heap.size, 6, none⟩ = some (.int .i64 o) ∧ w'.cell? ⟨w.heap.size, 7, none⟩ = some (.int .i64 m) ∧ w'.cell? ⟨w.heap.size, 8, none⟩ = some (.bool cl)) (by kernel_rfl) (by kernel_rfl) (fun _ _ d _ _ h => by cases d <;> exact h) SC ?_
  clear SC
  iterate 7 (refine mix_take (v := ?_) (by kernel_rfl) ?_ (fun K hK => ?_); rotate_left; (· (intro w' hSw; (try dsimp only at hSw); go_simp; with_reducible rfl)); simp only [Act.put, List.setIfInBounds_toArray, List.set_cons_zero, List.set_cons_succ]; refine hK _ ?_; clear hK K)
  refine mix_do (E := False) (fun K hK => ?_) (by kernel_rfl)
  go_simp
  go_at_call 95
  refine (rfixed_any _ _ _ _ _).mono ?_
  rintro e w2 ⟨rfl, hb2⟩
  have s2 := s1.drew.belowAll hb2
  have B2 := Lib.hid (below_all B1.out.drew B1.out.size hb2)
  clear hb2 s1
  refine hK.out _ _ (sup_cells s2) ?_
  clear hK K
  try simp only [Act.put, List.setIfInBounds_toArray, List.set_cons_zero, List.set_cons_succ]
  refine mix_still ?_
  obtain ⟨q0, q1, q2, q3, q4, q5, q6, q7, q8⟩ := sup_cells s2
  iterate 1 (refine still_take (v := ?_) (by kernel_rfl) ?_ (fun K hK => ?_); rotate_left; (· (go_simp; with_reducible rfl)); simp only [Act.put, List.setIfInBounds_toArray, List.set_cons_zero, List.set_cons_succ]; refine hK _ ?_; clear hK K)
  refine still_call_ (v := ?_) (f := ?_) (args := ?_) (by kernel_rfl) ?_ ?_ (fun K hK => ?_)
  rotate_left 3
  · (go_simp; constructor <;> rfl)
  · exact wq C1.out w2
  simp only [Act.put, List.setIfInBounds_toArray, List.set_cons_zero, List.set_cons_succ]
  refine hK _ ?_
  clear hK K
  iterate 1 (refine still_take (v := ?_) (by kernel_rfl) ?_ (fun K hK => ?_); rotate_left; (· (go_simp; with_reducible rfl)); simp only [Act.put, List.setIfInBounds_toArray, List.set_cons_zero, List.set_cons_succ]; refine hK _ ?_; clear hK K)
  iterate 3 (refine still_take (v := ?_) (by kernel_rfl) ?_ (fun K hK => ?_); rotate_left; (· (go_simp; with_reducible rfl)); simp only [Act.put, List.setIfInBounds_toArray, List.set_cons_zero, List.set_cons_succ]; refine hK _ ?_; clear hK K)
  refine still_call_ (v := ?_) (f := ?_) (args := ?_) (by kernel_rfl) ?_ ?_ (fun K hK => ?_)
  rotate_left 3
  · (go_simp; constructor <;> rfl)
  · exact wq C2.out w2
  simp only [Act.put, List.setIfInBounds_toArray, List.set_cons_zero, List.set_cons_succ]
  refine hK _ ?_
  clear hK K
  iterate 2 (refine still_take (v := ?_) (by kernel_rfl) ?_ (fun K hK => ?_); rotate_left; (· (go_simp; with_reducible rfl)); simp only [Act.put, List.setIfInBounds_toArray, List.set_cons_zero, List.set_cons_succ]; refine hK _ ?_; clear hK K)
  iterate 3 (refine still_take (v := ?_) (by kernel_rfl) ?_ (fun K hK => ?_); rotate_left; (· (go_simp; with_reducible rfl)); simp only [Act.put, List.setIfInBounds_toArray, List.set_cons_zero, List.set_cons_succ]; refine hK _ ?_; clear hK K)
  refine still_call_ (v := ?_) (f := ?_) (args := ?_) (by kernel_rfl) ?_ ?_ (fun K hK => ?_)
  rotate_left 3
  · (go_simp; constructor <;> rfl)
  · exact wq C3.out w2
  simp only [Act.put, List.setIfInBounds_toArray, List.set_cons_zero, List.set_cons_succ]
  refine hK _ ?_
  clear hK K
  iterate 2 (refine still_take (v := ?_) (by kernel_rfl) ?_ (fun K hK => ?_); rotate_left; (· (go_simp; with_reducible rfl)); simp only [Act.put, List.setIfInBounds_toArray, List.set_cons_zero, List.set_cons_succ]; refine hK _ ?_; clear hK K)
  iterate 2 (refine still_take (v := ?_) (by kernel_rfl) ?_ (fun K hK => ?_); rotate_left; (· (go_simp; with_reducible rfl)); simp only [Act.put, List.setIfInBounds_toArray, List.set_cons_zero, List.set_cons_succ]; refine hK _ ?_; clear hK K)
  refine still_call_ (v := ?_) (f := ?_) (args := ?_) (by kernel_rfl) ?_ ?_ (fun K hK => ?_)
  rotate_left 3
  · (go_simp; constructor <;> rfl)
  · exact wq C4.out w2
  simp only [Act.put, List.setIfInBounds_toArray, List.set_cons_zero, List.set_cons_succ]
  refine hK _ ?_
  clear hK K
  iterate 2 (refine still_take (v := ?_) (by kernel_rfl) ?_ (fun K hK => ?_); rotate_left; (· (go_simp; with_reducible rfl)); simp only [Act.put, List.setIfInBounds_toArray, List.set_cons_zero, List.set_cons_succ]; refine hK _ ?_; clear hK K)
  refine still_end ?_
  go_wp2
  go_ret
  exact ⟨rfl, B2.out⟩

theorem superMay_5 (B P I J fb fi o m : Int) (cl : Bool) (w : World) (hg : gok B P I J = true) (c1 : rg fb 0 (B - fixd B P I J) = true) (c2 : rg fi 0 (grp B P I J * I) = true) (c3 : rg o 0 (grp B P I J * I) = true) (c4 : rg m 0 2147483647 = true) :
    Calls Try.prog 68 #[.agg #[.int .i64 B, .int .i64 P, .int .i64 I, .int .i64 J, .int .i64 fb, .int .i64 fi, .int .i64 o, .int .i64 m, .bool cl]] w fun e w' =>  e = .returned (.bool true) ∧ Below w.heap.size w w' := by
  obtain ⟨W, hW⟩ : ∃ W, w.alloc (.cells #[.int .i64 B, .int .i64 P, .int .i64 I, .int .i64 J, .int .i64 fb, .int .i64 fi, .int .i64 o, .int .i64 m, .bool cl] 39) = W := ⟨_, rfl⟩
  have b0 : Blk W w.heap.size 39 #[.int .i64 B, .int .i64 P, .int .i64 I, .int .i64 J, .int .i64 fb, .int .i64 fi, .int .i64 o, .int .i64 m, .bool cl] := by rw [← hW]; exact Blk.new w _ _
  have B0 := Lib.hid (show Below w.heap.size w W by rw [← hW]; exact (Below.refl w.heap.size w).alloc (Nat.le_refl _) _)
  obtain ⟨q0, q1, q2, q3, q4, q5, q6, q7, q8⟩ := sup_cells b0
  have HW := Lib.hid hW
  have K0 := Lib.hid b0
  clear hW b0
  have G := Geo.of hg
  have i1 := G.i1; have i2 := G.i2; have bb1 := G.b1; have bb2 := G.b2
  obtain ⟨gr1, gr2⟩ : 1 ≤ grp B P I J ∧ grp B P I J ≤ 14 := by rw [grp_yes hg]; have := G.n1; have := G.n2; omega
  have m1 : grp B P I J * I ≤ 14 * 512 := Int.mul_le_mul gr2 i2 (by omega) (by omega)
  have m0 : 1 * 8 ≤ grp B P I J * I := Int.mul_le_mul gr1 i1 (by omega) (by omega)
  obtain ⟨f0, f1⟩ := fixd_le hg
  have hw : IntKind.i64.wrap (grp B P I J * I) = grp B P I J * I := by rw [IntKind.wrap_i64]; omega
  have hz : (grp B P I J == 0) = false := by simp; omega
  have hw2 : IntKind.i64.wrap (B - fixd B P I J) = B - fixd B P I J := by rw [IntKind.wrap_i64]; omega
  have C1 := Lib.hid c1
  have C2 := Lib.hid c2
  have C3 := Lib.hid c3
  have C4 := Lib.hid c4
  clear G hg c1 c2 c3 c4
  go_enter Try.func68, Try.ntmps68
  go_wp2_with fail
  rw [HW.out]
  refine (rGroups_any _ _ _ _ _).mono ?_
  rintro e w1 ⟨rfl, hb1⟩
  have B1 := Lib.hid (below_all B0.out B0.out.size hb1)
  have s1 := K0.out.belowAll hb1
  clear hb1 q0 q1 q2 q3 q4 q5 q6 q7 q8
  have SC := sup_cells s1
  obtain ⟨q0, q1, q2, q3, q4, q5, q6, q7, q8⟩ := SC
  go_wp2_with fail
  clear q0 q1 q2 q3 q4 q5 q6 q7 q8 hw
  have SC := sup_cells s1
  refine region_mix [true, true, true, true, true, true, true, false] (S := fun w' => w'.cell? ⟨w.heap.size, 0, none⟩ = some (.int .i64 B) ∧ w'.cell? ⟨w.heap.size, 1, none⟩ = some (.int .i64 P) ∧ w'.cell? ⟨w.heap.size, 2, none⟩ = some (.int .i64 I) ∧ w'.cell? ⟨w.heap.size, 3, none⟩ = some (.int .i64 J) ∧ w'.cell? ⟨w.heap.size, 4, none⟩ = some (.int .i64 fb) ∧ w'.cell? ⟨w.heap.size, 5, none⟩ = some (.int .i64 fi) ∧ w'.cell? ⟨w.heap.size, 6, none⟩ = some (.int .i64 o) ∧ w'.cell? ⟨w.heap.size, 7, none⟩ = some (.int .i64 m) ∧ w'.cell? ⟨w.heap.size, 8, none⟩ = some (.bool cl)) (by kernel_rfl) (by kernel_rfl) (fun _ _ d _ _ h => by cases d <;> exact h) SC ?_
  clear SC
  iterate 7 (refine mix_take (v := ?_) (by kernel_rfl) ?_ (fun K hK => ?_); rotate_left; (· (intro w' hSw; (try dsimp only at hSw); go_simp; with_reducible rfl)); simp only [Act.put, List.setIfInBounds_toArray, List.set_cons_zero, List.set_cons_succ]; refine hK _ ?_; clear hK K)
  refine mix_do (E := False) (fun K hK => ?_) (by kernel_rfl)
  go_simp
  go_at_call 95
  refine (rfixed_any _ _ _ _ _).mono ?_
  rintro e w2 ⟨rfl, hb2⟩
  have s2 := s1.drew.belowAll hb2
  have B2 := Lib.hid (below_all B1.out.drew B1.out.size hb2)
  clear hb2 s1
  refine hK.out _ _ (sup_cells s2) ?_
  clear hK K
  try simp only [Act.put, List.setIfInBounds_toArray, List.set_cons_zero, List.set_cons_succ]
  refine mix_still ?_
  obtain ⟨q0, q1, q2, q3, q4, q5, q6, q7, q8⟩ := sup_cells s2
  iterate 1 (refine still_take (v := ?_) (by kernel_rfl) ?_ (fun K hK => ?_); rotate_left; (· (go_simp; with_reducible rfl)); simp only [Act.put, List.setIfInBounds_toArray, List.set_cons_zero, List.set_cons_succ]; refine hK _ ?_; clear hK K)
  refine still_call_ (v := ?_) (f := ?_) (args := ?_) (by kernel_rfl) ?_ ?_ (fun K hK => ?_)
  rotate_left 3
  · (go_simp; constructor <;> rfl)
  · exact wq C1.out w2
  simp only [Act.put, List.setIfInBounds_toArray, List.set_cons_zero, List.set_cons_succ]
  refine hK _ ?_
  clear hK K
  iterate 1 (refine still_take (v := ?_) (by kernel_rfl) ?_ (fun K hK => ?_); rotate_left; (· (go_simp; with_reducible rfl)); simp only [Act.put, List.setIfInBounds_toArray, List.set_cons_zero, List.set_cons_succ]; refine hK _ ?_; clear hK K)
  iterate 3 (refine still_take (v := ?_) (by kernel_rfl) ?_ (fun K hK => ?_); rotate_left; (· (go_simp; with_reducible rfl)); simp only [Act.put, List.setIfInBounds_toArray, List.set_cons_zero, List.set_cons_succ]; refine hK _ ?_; clear hK K)
  refine still_call_ (v := ?_) (f := ?_) (args := ?_) (by kernel_rfl) ?_ ?_ (fun K hK => ?_)
  rotate_left 3
  · (go_simp; constructor <;> rfl)
  · exact wq C2.out w2
  simp only [Act.put, List.setIfInBounds_toArray, List.set_cons_zero, List.set_cons_succ]
  refine hK _ ?_
  clear hK K
  iterate 2 (refine still_take (v := ?_) (by kernel_rfl) ?_ (fun K hK => ?_); rotate_left; (· (go_simp; with_reducible rfl)); simp only [Act.put, List.setIfInBounds_toArray, List.set_cons_zero, List.set_cons_succ]; refine hK _ ?_; clear hK K)
  iterate 3 (refine still_take (v := ?_) (by kernel_rfl) ?_ (fun K hK => ?_); rotate_left; (· (go_simp; with_reducible rfl)); simp only [Act.put, List.setIfInBounds_toArray, List.set_cons_zero, List.set_cons_succ]; refine hK _ ?_; clear hK K)
  refine still_call_ (v := ?_) (f := ?_) (args := ?_) (by kernel_rfl) ?_ ?_ (fun K hK => ?_)
  rotate_left 3
  · (go_simp; constructor <;> rfl)
  · exact wq C3.out w2
  simp only [Act.put, List.setIfInBounds_toArray, List.set_cons_zero, List.set_cons_succ]
  refine hK _ ?_
  clear hK K
  iterate 2 (refine still_take (v := ?_) (by kernel_rfl) ?_ (fun K hK => ?_); rotate_left; (· (go_simp; with_reducible rfl)); simp only [Act.put, List.setIfInBounds_toArray, List.set_cons_zero, List.set_cons_succ]; refine hK _ ?_; clear hK K)
  iterate 2 (refine still_take (v := ?_) (by kernel_rfl) ?_ (fun K hK => ?_); rotate_left; (· (go_simp; with_reducible rfl)); simp only [Act.put, List.setIfInBounds_toArray, List.set_cons_zero, List.set_cons_succ]; refine hK _ ?_; clear hK K)
  refine still_call_ (v := ?_) (f := ?_) (args := ?_) (by kernel_rfl) ?_ ?_ (fun K hK => ?_)
  rotate_left 3
  · (go_simp; constructor <;> rfl)
  · exact wq C4.out w2
  simp only [Act.put, List.setIfInBounds_toArray, List.set_cons_zero, List.set_cons_succ]
  refine hK _ ?_
  clear hK K
  iterate 2 (refine still_take (v := ?_) (by kernel_rfl) ?_ (fun K hK => ?_); rotate_left; (· (go_simp; with_reducible rfl)); simp only [Act.put, List.setIfInBounds_toArray, List.set_cons_zero, List.set_cons_succ]; refine hK _ ?_; clear hK K)
  refine still_end ?_
  go_wp2
  go_ret
  exact ⟨rfl, B2.out⟩

theorem superMay_any (B P I J fb fi o m : Int) (cl : Bool) (w : World) :
    Calls Try.prog 68 #[.agg #[.int .i64 B, .int .i64 P, .int .i64 I, .int .i64 J, .int .i64 fb, .int .i64 fi, .int .i64 o, .int .i64 m, .bool cl]] w fun e w' =>  e = .returned (.bool (supOk B P I J fb fi o m)) ∧ Below w.heap.size w w' := by
  cases hg : gok B P I J
  · rw [show supOk B P I J fb fi o m = false by simp [supOk, hg]]; exact superMay_geo B P I J fb fi o m cl w hg
  cases c1 : rg fb 0 (B - fixd B P I J)
  · rw [show supOk B P I J fb fi o m = false by simp [supOk, c1]]; exact superMay_1 B P I J fb fi o m cl w hg c1
  cases c2 : rg fi 0 (grp B P I J * I)
  · rw [show supOk B P I J fb fi o m = false by simp [supOk, c2]]; exact superMay_2 B P I J fb fi o m cl w hg c1 c2
  cases c3 : rg o 0 (grp B P I J * I)
  · rw [show supOk B P I J fb fi o m = false by simp [supOk, c3]]; exact superMay_3 B P I J fb fi o m cl w hg c1 c2 c3
  cases c4 : rg m 0 2147483647
  · rw [show supOk B P I J fb fi o m = false by simp [supOk, c4]]; exact superMay_4 B P I J fb fi o m cl w hg c1 c2 c3 c4
  · rw [show supOk B P I J fb fi o m = true by simp [supOk, hg, c1, c2, c3, c4]]; exact superMay_5 B P I J fb fi o m cl w hg c1 c2 c3 c4

theorem superL_u64 {B P I J fb fi o m : Int} (cl : Bool) (z0 : 0 ≤ B) (z1 : 0 ≤ P) (z2 : 0 ≤ I) (z3 : 0 ≤ J) (z4 : 0 ≤ fb) (z5 : 0 ≤ fi) (z6 : 0 ≤ o) (z7 : 0 ≤ m) :
    nums (superL B P I J fb fi o m cl) = [.int .u64 1213813321, .int .u64 1, .int .u64 B, .int .u64 P, .int .u64 I, .int .u64 J, .int .u64 fb, .int .u64 fi, .int .u64 o, .int .u64 m, .int .u64 (if cl then 1 else 0)] := by
  simp only [superL, nums, List.map_cons, List.map_nil, Int.toNat_of_nonneg z0, Int.toNat_of_nonneg z1, Int.toNat_of_nonneg z2, Int.toNat_of_nonneg z3, Int.toNat_of_nonneg z4, Int.toNat_of_nonneg z5, Int.toNat_of_nonneg z6, Int.toNat_of_nonneg z7]
  cases cl <;> rfl
theorem packSuperR_any (B P I J fb fi o m : Int) (cl : Bool) (w : World) :
    Calls Try.prog 23 #[.agg #[.int .i64 B, .int .i64 P, .int .i64 I, .int .i64 J, .int .i64 fb, .int .i64 fi, .int .i64 o, .int .i64 m, .bool cl]] w fun e w' =>  ∃ v, e = .returned (.tuple #[v, .int .i64 (supE B P I J fb fi o m)]) ∧ Below w.heap.size w w' ∧ w'.ownsRow w.heap.size 5 1 v (supB B P I J fb fi o m cl).length (bvl (supB B P I J fb fi o m cl)) := by
  obtain ⟨W, hW⟩ : ∃ W, w.alloc (.cells #[.int .i64 B, .int .i64 P, .int .i64 I, .int .i64 J, .int .i64 fb, .int .i64 fi, .int .i64 o, .int .i64 m, .bool cl] 39) = W := ⟨_, rfl⟩
  have b0 : Blk W w.heap.size 39 #[.int .i64 B, .int .i64 P, .int .i64 I, .int .i64 J, .int .i64 fb, .int .i64 fi, .int .i64 o, .int .i64 m, .bool cl] := by rw [← hW]; exact Blk.new w _ _
  have B0 := Lib.hid (show Below w.heap.size w W by rw [← hW]; exact (Below.refl w.heap.size w).alloc (Nat.le_refl _) _)
  obtain ⟨q0, q1, q2, q3, q4, q5, q6, q7, q8⟩ := sup_cells b0
  have HW := Lib.hid hW
  have K0 := Lib.hid b0
  clear hW b0
  cases hok : supOk B P I J fb fi o m
  · have e1 : supE B P I J fb fi o m = 22 := by simp [supE, hok]
    have e2 : supB B P I J fb fi o m cl = [] := by simp [supB, hok]
    have E1 := Lib.hid e1
    have E2 := Lib.hid e2
    have HOK := Lib.hid hok
    clear e1 e2 hok
    go_enter Try.func23, Try.ntmps23
    go_wp2_with fail
    rw [HW.out]
    refine (superMay_any B P I J fb fi o m cl _).mono ?_
    rintro e w1 ⟨rfl, hb1⟩
    have B1 := Lib.hid (below_all B0.out B0.out.size hb1)
    clear hb1 q0 q1 q2 q3 q4 q5 q6 q7 q8
    rw [HOK.out]
    go_wp2_with fail
    go_ret2
    refine ⟨_, by rw [E1.out]; rfl, B1.out, ?_⟩
    rw [E2.out]
    exact World.ownsRow_nil _ _ _ _
  · have e1 : supE B P I J fb fi o m = 0 := by simp [supE, hok]
    have e2 : supB B P I J fb fi o m cl = sealB 0#32 (packB (superL B P I J fb fi o m cl) superWs 256) := by simp [supB, hok]
    have E1 := Lib.hid e1
    have E2 := Lib.hid e2
    have HOK := Lib.hid hok
    obtain ⟨hg, c1, c2, c3, c4⟩ := supOk_parts hok
    have hcs := sup_nat hg c1 c2 c3 c4
    obtain ⟨⟨z0, y0⟩, ⟨z1, y1⟩, ⟨z2, y2⟩, ⟨z3, y3⟩, ⟨z4, y4⟩, ⟨z5, y5⟩, ⟨z6, y6⟩, ⟨z7, y7⟩⟩ := id hcs
    have HSI := Lib.hid (superL_u64 cl z0 z1 z2 z3 z4 z5 z6 z7)
    have H63 := Lib.hid (superL_le cl hcs)
    clear e1 e2 hok hg c1 c2 c3 c4 hcs
    go_enter Try.func23, Try.ntmps23
    go_wp2_with fail
    rw [HW.out]
    refine (superMay_any B P I J fb fi o m cl _).mono ?_
    rintro e w1 ⟨rfl, hb1⟩
    have B1 := Lib.hid (below_all B0.out B0.out.size hb1)
    have s1 := K0.out.belowAll hb1
    have hz1 : w.heap.size < w1.heap.size := by
      have h1 := hb1.size
      rw [← HW.out] at h1
      simp at h1; omega
    clear hb1 q0 q1 q2 q3 q4 q5 q6 q7 q8
    obtain ⟨q0, q1, q2, q3, q4, q5, q6, q7, q8⟩ := sup_cells s1
    rw [HOK.out]
    obtain ⟨W1, hW1⟩ : ∃ W1, w1.alloc (.cells #[.int .i64 B, .int .i64 P, .int .i64 I, .int .i64 J] 37) = W1 := ⟨_, rfl⟩
    have B2 := Lib.hid (show Below w.heap.size w W1 by rw [← hW1]; exact B1.out.alloc B1.out.size _)
    have HW1 := Lib.hid hW1
    clear hW1
    have l1 := fun c => (lit_rowN W1 84 [.int .u64 1213813321, .int .u64 1, .int .u64 B, .int .u64 P, .int .u64 I, .int .u64 J, .int .u64 fb, .int .u64 fi, .int .u64 o, .int .u64 m, .int .u64 c] 11 W1.heap.size rfl rfl).alloc (.cells (ints superWs).toArray 3)
    have l2 := fun c => lit_rowN (W1.alloc (.cells #[.int .u64 1213813321, .int .u64 1, .int .u64 B, .int .u64 P, .int .u64 I, .int .u64 J, .int .u64 fb, .int .u64 fi, .int .u64 o, .int .u64 m, .int .u64 c] 84)) 3 (ints superWs) 11 (W1.heap.size + 1) rfl (by simp)
    have B3 := Lib.hid (fun c => (B2.out.alloc B2.out.size (.cells #[.int .u64 1213813321, .int .u64 1, .int .u64 B, .int .u64 P, .int .u64 I, .int .u64 J, .int .u64 fb, .int .u64 fi, .int .u64 o, .int .u64 m, .int .u64 c] 84)).alloc (by simp; have := B2.out.size; omega) (.cells (ints superWs).toArray 3))
    have L1 := Lib.hid l1
    have L2 := Lib.hid l2
    clear l1 l2
    have hz2 := B2.out.size
    have hbl : ∀ x ∈ superL B P I J fb fi o m cl, x < 18446744073709551616 := fun x hx => by have := H63.out x hx; omega
    have HBL := Lib.hid hbl
    clear hbl
    cases cl
    · have HSJ := HSI.out
      simp only [Bool.false_eq_true, if_false, if_true] at HSJ
      have HSI2 := Lib.hid HSJ
      clear HSJ
      obtain ⟨pb, hpb⟩ : ∃ pb, packB (superL B P I J fb fi o m false) superWs 256 = pb := ⟨_, rfl⟩
      obtain ⟨n, hpn⟩ : ∃ n, pb.length = n := ⟨_, rfl⟩
      have HP := ref_pack_any (some ⟨W1.heap.size, 0, none⟩) (some ⟨W1.heap.size + 1, 0, none⟩) 11 11 11 11 (superL B P I J fb fi o m false) superWs 256 _ (by omega) HBL.out (by rw [HSI2.out]; exact L1.out _) (L2.out _)
      have hsW : W1.heap.size = w1.heap.size + 1 := by rw [← HW1.out]; simp
      rw [hpb, hpn, hsW] at HP
      clear hsW
      have HPP := Lib.hid HP
      have hpl := sealB_length 0#32 pb
      have HPL := Lib.hid hpl
      have HPB := Lib.hid hpb
      have HN := Lib.hid hpn
      clear hpl hpb hpn HP
      generalize packE (superL B P I J fb fi o m false) superWs 256 = pe at HPP
      go_wp2_with fail
      rw [HW1.out]
      refine HPP.out.mono ?_
      rintro e w3 ⟨v3, rfl, hb3, ho3⟩
      have B4 := Lib.hid (below_all (B3.out _) (B3.out _).size hb3)
      obtain ⟨A3, c3, rfl, _, _, _, _, _⟩ := own_slice ho3
      have O3 := Lib.hid (own_mono ho3 (B3.out _).size)
      clear hb3 ho3 q0 q1 q2 q3 q4 q5 q6 q7 q8
      have HS := Lib.hid (ref_seal_row w.heap.size n c3 A3 pb 0#32 w3 HN.out O3.out)
      go_wp2_with fail
      refine HS.out.mono ?_
      rintro e w4 ⟨rfl, ho4, hg4⟩
      have O4 := Lib.hid ho4
      have B5 := Lib.hid (below_own O3.out B4.out (Nat.le_refl _) hg4)
      clear ho4 hg4
      go_wp2_with fail
      go_ret2
      refine ⟨_, by rw [E1.out]; rfl, B5.out, ?_⟩
      rw [E2.out, HPB.out, HPL.out, HN.out]
      exact O4.out
    · have HSJ := HSI.out
      simp only [Bool.false_eq_true, if_false, if_true] at HSJ
      have HSI2 := Lib.hid HSJ
      clear HSJ
      obtain ⟨pb, hpb⟩ : ∃ pb, packB (superL B P I J fb fi o m true) superWs 256 = pb := ⟨_, rfl⟩
      obtain ⟨n, hpn⟩ : ∃ n, pb.length = n := ⟨_, rfl⟩
      have HP := ref_pack_any (some ⟨W1.heap.size, 0, none⟩) (some ⟨W1.heap.size + 1, 0, none⟩) 11 11 11 11 (superL B P I J fb fi o m true) superWs 256 _ (by omega) HBL.out (by rw [HSI2.out]; exact L1.out _) (L2.out _)
      have hsW : W1.heap.size = w1.heap.size + 1 := by rw [← HW1.out]; simp
      rw [hpb, hpn, hsW] at HP
      clear hsW
      have HPP := Lib.hid HP
      have hpl := sealB_length 0#32 pb
      have HPL := Lib.hid hpl
      have HPB := Lib.hid hpb
      have HN := Lib.hid hpn
      clear hpl hpb hpn HP
      generalize packE (superL B P I J fb fi o m true) superWs 256 = pe at HPP
      go_wp2_with fail
      rw [HW1.out]
      refine HPP.out.mono ?_
      rintro e w3 ⟨v3, rfl, hb3, ho3⟩
      have B4 := Lib.hid (below_all (B3.out _) (B3.out _).size hb3)
      obtain ⟨A3, c3, rfl, _, _, _, _, _⟩ := own_slice ho3
      have O3 := Lib.hid (own_mono ho3 (B3.out _).size)
      clear hb3 ho3 q0 q1 q2 q3 q4 q5 q6 q7 q8
      have HS := Lib.hid (ref_seal_row w.heap.size n c3 A3 pb 0#32 w3 HN.out O3.out)
      go_wp2_with fail
      refine HS.out.mono ?_
      rintro e w4 ⟨rfl, ho4, hg4⟩
      have O4 := Lib.hid ho4
      have B5 := Lib.hid (below_own O3.out B4.out (Nat.le_refl _) hg4)
      clear ho4 hg4
      go_wp2_with fail
      go_ret2
      refine ⟨_, by rw [E1.out]; rfl, B5.out, ?_⟩
      rw [E2.out, HPB.out, HPL.out, HN.out]
      exact O4.out

end Go.Proofs.Ytafonjnanfekkaa.Lay

namespace Go.Proofs.Ytafonjnanfekkaa.Lay
open Go.RowKit Go.Proofs.Ytafonjnanfekkaa.Wire
set_option linter.unusedVariables false
set_option linter.unusedSimpArgs false

theorem zip_fits {l : List Nat} {ws : List Int} (h : ∀ p ∈ l.zip ws, p.1 < 256 ^ p.2.toNat) : ∀ (k x : Nat) (z : Int), l[k]? = some x → ws[k]? = some z → x < 256 ^ z.toNat := fun k x z hx hz => by
  have : (l.zip ws)[k]? = some (x, z) := by rw [List.getElem?_zip_eq_some]; exact ⟨hx, hz⟩
  exact h _ (List.mem_of_getElem? this)
theorem packB_full {l : List Nat} {ws : List Int} {size : Int} (hm : pmay l ws size = true) (h : ∀ p ∈ l.zip ws, p.1 < 256 ^ p.2.toNat) (hs : 0 ≤ size) :
    packE l ws size = 0 ∧ packB l ws size = pre l ws l.length ++ List.replicate (size.toNat - (pre l ws l.length).length) 0 ∧ (packB l ws size).length = size.toNat := by
  have hm' := hm
  simp only [pmay, Bool.and_eq_true, decide_eq_true_eq] at hm'
  obtain ⟨m1, m2, m3, m4⟩ := hm'
  have hp := packs_some l ws m1 (zip_fits h)
  have hpl := pre_length l ws l.length m1 m2
  rw [m1, List.take_length, ← m1] at hpl
  have e1 : packE l ws size = 0 := by simp [packE, hm, hp]
  have e2 : packB l ws size = pre l ws l.length ++ List.replicate (size.toNat - (pre l ws l.length).length) 0 := by simp [packB, hm, hp]
  refine ⟨e1, e2, ?_⟩
  rw [e2]
  simp
  omega
theorem super_zip {B P I J fb fi o m : Int} {cl : Bool} (h : (0 ≤ B ∧ B ≤ 4096) ∧ (0 ≤ P ∧ P ≤ 2016) ∧ (0 ≤ I ∧ I ≤ 512) ∧ (0 ≤ J ∧ J ≤ 512) ∧ (0 ≤ fb ∧ fb ≤ 4096) ∧ (0 ≤ fi ∧ fi ≤ 7168) ∧ (0 ≤ o ∧ o ≤ 7168) ∧ (0 ≤ m ∧ m ≤ 2147483647)) :
    ∀ p ∈ (superL B P I J fb fi o m cl).zip superWs, p.1 < 256 ^ p.2.toNat := by
  intro p hp
  simp only [superL, superWs, List.zip_cons_cons, List.zip_nil_right, List.mem_cons, List.not_mem_nil, or_false] at hp
  rcases hp with rfl | rfl | rfl | rfl | rfl | rfl | rfl | rfl | rfl | rfl | rfl
  all_goals simp only [show Int.toNat 4 = 4 from rfl, show Int.toNat 2 = 2 from rfl, show Int.toNat 1 = 1 from rfl]
  all_goals first | omega | (split <;> omega)
theorem super_may (B P I J fb fi o m : Int) (cl : Bool) : pmay (superL B P I J fb fi o m cl) superWs 256 = true := by
  have h1 : (superL B P I J fb fi o m cl).length = superWs.length := rfl
  have h2 : wok superWs = true := by decide
  have h3 : superWs.sum ≤ 256 := by decide
  simp [pmay, h1, h2, h3]
theorem supB_len {B P I J fb fi o m : Int} {cl : Bool} (hok : supOk B P I J fb fi o m = true) : (supB B P I J fb fi o m cl).length = 256 := by
  obtain ⟨hg, c1, c2, c3, c4⟩ := supOk_parts hok
  rw [supB, if_pos hok, sealB_length, (packB_full (super_may B P I J fb fi o m cl) (super_zip (sup_nat hg c1 c2 c3 c4)) (by omega)).2.2]
  rfl
theorem usOk_len {bs : List UInt8} (h : usOk bs = true) : bs.length = 256 := by
  simp only [usOk, Bool.and_eq_true, beq_iff_eq] at h
  have := supB_len (cl := ucl bs) h.1
  rw [← h.2] at this
  exact this
theorem uf_byte {bs : List UInt8} {p : Nat} {c : UInt8} (h : bs[p]? = some c) : uf bs p 1 = (c.toNat : Int) := by
  have hl := (List.getElem?_eq_some_iff.1 h).1
  have hf : fits bs.length (p : Int) 1 = true := fits_mk (by omega) (by omega) (by omega) (by omega)
  have hd : bs.drop p = c :: bs.drop (p + 1) := by rw [List.drop_eq_getElem_cons hl]; congr 1; exact (List.getElem?_eq_some_iff.1 h).2
  have e : (sub bs (p : Int) 1) = [c] := by
    rw [sub, Int.toNat_natCast, hd]; rfl
  show ((getX bs (p : Int) 1 : Nat) : Int) = _
  rw [getX, if_pos hf, e]
  simp [num]
theorem usV_agg (bs : List UInt8) : ∃ (x0 x1 x2 x3 x4 x5 x6 x7 : Int) (c : Bool), usV bs = .agg #[.int .i64 x0, .int .i64 x1, .int .i64 x2, .int .i64 x3, .int .i64 x4, .int .i64 x5, .int .i64 x6, .int .i64 x7, .bool c] := by
  unfold usV
  split
  · exact ⟨_, _, _, _, _, _, _, _, _, rfl⟩
  · exact ⟨_, _, _, _, _, _, _, _, _, rfl⟩
end Go.Proofs.Ytafonjnanfekkaa.Lay

namespace Go.Proofs.Ytafonjnanfekkaa.Lay
open Go.RowKit Go.Proofs.Ytafonjnanfekkaa.Wire
set_option maxHeartbeats 8000000
set_option maxRecDepth 100000
set_option linter.unusedVariables false
set_option linter.unusedSimpArgs false

theorem unpackSuperR_no (A : Option Addr) (len cap : Nat) (bs : List UInt8) (w : World) (hb : BytesAt w A len bs) (hc : len ≤ 9223372036854775807) (hne : len ≠ 256) :
    Calls Try.prog 25 #[.slice A len cap] w fun e w' => e = .returned (.tuple #[usV bs, .int .i64 (usE bs)]) ∧ Below w.heap.size w w' := by
  have huo : usOk bs = false := by
    cases h : usOk bs
    · rfl
    · have := usOk_len h; have := hb.len; omega
  have HV := Lib.hid (show usV bs = supV 0 0 0 0 0 0 0 0 false by simp [usV, huo])
  have HE := Lib.hid (show usE bs = 117 by simp [usE, huo])
  have hd : ((len : Int) != 256) = true := by simp; omega
  have HB := Lib.hid ((Below.refl w.heap.size w).alloc (Nat.le_refl _) (.cells #[.int .i64 0, .int .i64 0, .int .i64 0, .int .i64 0, .int .i64 0, .int .i64 0, .int .i64 0, .int .i64 0, .bool false] 39))
  clear huo hne hb
  go_enter Try.func25, Try.ntmps25
  go_wp2_with fail
  refine bodyPost_ret (v := .tuple #[.agg #[.int .i64 0, .int .i64 0, .int .i64 0, .int .i64 0, .int .i64 0, .int .i64 0, .int .i64 0, .int .i64 0, .bool false], .int .i64 117]) (by simp [results, Try.results25, go_sem]) rfl ⟨by rw [HV.out, HE.out]; rfl, HB.out⟩

theorem unpackSuperR_yes (a : Addr) (cap : Nat) (bs : List UInt8) (w : World) (hl : 256 ≤ cap) (hc : cap ≤ 9223372036854775807) (hb : BytesAt w (some a) 256 bs) :
    Calls Try.prog 25 #[.slice (some a) 256 cap] w fun e w' => e = .returned (.tuple #[usV bs, .int .i64 (usE bs)]) ∧ Below w.heap.size w w' := by
  have hbl := hb.len
  obtain ⟨c38, hc38⟩ : ∃ c, bs[38]? = some c := ⟨_, List.getElem?_eq_getElem (by omega)⟩
  have hu38 := uf_byte (p := 38) hc38
  have hcell : ∀ w', BytesAt w' (some a) 256 bs → w'.cell? ⟨a.block, a.off + 38, none⟩ = some (.int .u8 (uf bs 38 1)) := fun w' h => by
    obtain ⟨a', e, h'⟩ := h.2 (by omega)
    obtain rfl : a = a' := by simpa using e
    have h8 := h' 38 c38 hc38
    have h0 := h' 0 _ (List.getElem?_eq_getElem (by omega))
    rw [show a.add 0 = a by unfold Addr.add; simp] at h0
    have hsa := World.cell?_spot h0
    rw [add_spot hsa] at h8
    rw [h8]
    exact congrArg (fun x => some (Value.int .u8 x)) hu38.symm
  have HC := Lib.hid hcell
  have k0 := Blk.new w 39 #[.int .i64 0, .int .i64 0, .int .i64 0, .int .i64 0, .int .i64 0, .int .i64 0, .int .i64 0, .int .i64 0, .bool false]
  have hB0 := (Below.refl w.heap.size w).alloc (Nat.le_refl _) (.cells #[.int .i64 0, .int .i64 0, .int .i64 0, .int .i64 0, .int .i64 0, .int .i64 0, .int .i64 0, .int .i64 0, .bool false] 39)
  have hb0 := hb.alloc (.cells #[.int .i64 0, .int .i64 0, .int .i64 0, .int .i64 0, .int .i64 0, .int .i64 0, .int .i64 0, .int .i64 0, .bool false] 39)
  obtain ⟨W, hW⟩ : ∃ W, w.alloc (.cells #[.int .i64 0, .int .i64 0, .int .i64 0, .int .i64 0, .int .i64 0, .int .i64 0, .int .i64 0, .int .i64 0, .bool false] 39) = W := ⟨_, rfl⟩
  rw [hW] at k0 hB0 hb0
  have HW := Lib.hid hW
  have K0 := Lib.hid k0
  have B0 := Lib.hid hB0
  have HB := Lib.hid hb0
  clear hW hb hbl hc38 hu38 hcell k0 hB0 hb0
  go_enter Try.func25, Try.ntmps25
  go_wp2_with fail
  rw [HW.out]
  refine region_mix [true, true, true, true, true, true, true, true, true, true, true, true, true, true, true, true, true, true, true, true, true, true, false, false] (S := fun w' => BytesAt w' (some a) 256 bs ∧ w'.cell? ⟨a.block, a.off + 38, none⟩ = some (.int .u8 (uf bs 38 1))) (by kernel_rfl) (by kernel_rfl) (fun _ _ d _ _ h => by cases d <;> exact h) ⟨HB.out, HC.out _ HB.out⟩ ?_
  iterate 1 (refine mix_take (v := ?_) (by kernel_rfl) ?_ (fun K hK => ?_); rotate_left; (· (intro w' hSw; (try dsimp only at hSw); go_simp; with_reducible rfl)); simp only [Act.put, List.setIfInBounds_toArray, List.set_cons_zero, List.set_cons_succ]; refine hK _ ?_; clear hK K)
  refine mix_call (v := ?_) (f := ?_) (args := ?_) (by kernel_rfl) ?_ ?_ (fun K hK => ?_)
  rotate_left 3
  · intro w' hSw; (try dsimp only at hSw); go_simp; constructor <;> rfl
  · intro w' hSw; exact number_ref (some a) 256 cap 6 4 bs w' hl hc hSw.1 (by omega)
  simp only [Act.put, List.setIfInBounds_toArray, List.set_cons_zero, List.set_cons_succ]
  refine hK _ ?_
  clear hK K
  iterate 1 (refine mix_take (v := ?_) (by kernel_rfl) ?_ (fun K hK => ?_); rotate_left; (· (intro w' hSw; (try dsimp only at hSw); go_simp; with_reducible rfl)); simp only [Act.put, List.setIfInBounds_toArray, List.set_cons_zero, List.set_cons_succ]; refine hK _ ?_; clear hK K)
  refine mix_call (v := ?_) (f := ?_) (args := ?_) (by kernel_rfl) ?_ ?_ (fun K hK => ?_)
  rotate_left 3
  · intro w' hSw; (try dsimp only at hSw); go_simp; constructor <;> rfl
  · intro w' hSw; exact number_ref (some a) 256 cap 10 4 bs w' hl hc hSw.1 (by omega)
  simp only [Act.put, List.setIfInBounds_toArray, List.set_cons_zero, List.set_cons_succ]
  refine hK _ ?_
  clear hK K
  iterate 1 (refine mix_take (v := ?_) (by kernel_rfl) ?_ (fun K hK => ?_); rotate_left; (· (intro w' hSw; (try dsimp only at hSw); go_simp; with_reducible rfl)); simp only [Act.put, List.setIfInBounds_toArray, List.set_cons_zero, List.set_cons_succ]; refine hK _ ?_; clear hK K)
  refine mix_call (v := ?_) (f := ?_) (args := ?_) (by kernel_rfl) ?_ ?_ (fun K hK => ?_)
  rotate_left 3
  · intro w' hSw; (try dsimp only at hSw); go_simp; constructor <;> rfl
  · intro w' hSw; exact number_ref (some a) 256 cap 14 4 bs w' hl hc hSw.1 (by omega)
  simp only [Act.put, List.setIfInBounds_toArray, List.set_cons_zero, List.set_cons_succ]
  refine hK _ ?_
  clear hK K
  iterate 1 (refine mix_take (v := ?_) (by kernel_rfl) ?_ (fun K hK => ?_); rotate_left; (· (intro w' hSw; (try dsimp only at hSw); go_simp; with_reducible rfl)); simp only [Act.put, List.setIfInBounds_toArray, List.set_cons_zero, List.set_cons_succ]; refine hK _ ?_; clear hK K)
  refine mix_call (v := ?_) (f := ?_) (args := ?_) (by kernel_rfl) ?_ ?_ (fun K hK => ?_)
  rotate_left 3
  · intro w' hSw; (try dsimp only at hSw); go_simp; constructor <;> rfl
  · intro w' hSw; exact number_ref (some a) 256 cap 18 4 bs w' hl hc hSw.1 (by omega)
  simp only [Act.put, List.setIfInBounds_toArray, List.set_cons_zero, List.set_cons_succ]
  refine hK _ ?_
  clear hK K
  iterate 1 (refine mix_take (v := ?_) (by kernel_rfl) ?_ (fun K hK => ?_); rotate_left; (· (intro w' hSw; (try dsimp only at hSw); go_simp; with_reducible rfl)); simp only [Act.put, List.setIfInBounds_toArray, List.set_cons_zero, List.set_cons_succ]; refine hK _ ?_; clear hK K)
  iterate 1 (refine mix_take (v := ?_) (by kernel_rfl) ?_ (fun K hK => ?_); rotate_left; (· (intro w' hSw; (try dsimp only at hSw); go_simp; with_reducible rfl)); simp only [Act.put, List.setIfInBounds_toArray, List.set_cons_zero, List.set_cons_succ]; refine hK _ ?_; clear hK K)
  refine mix_call (v := ?_) (f := ?_) (args := ?_) (by kernel_rfl) ?_ ?_ (fun K hK => ?_)
  rotate_left 3
  · intro w' hSw; (try dsimp only at hSw); go_simp; constructor <;> rfl
  · intro w' hSw; exact number_ref (some a) 256 cap 22 4 bs w' hl hc hSw.1 (by omega)
  simp only [Act.put, List.setIfInBounds_toArray, List.set_cons_zero, List.set_cons_succ]
  refine hK _ ?_
  clear hK K
  iterate 1 (refine mix_take (v := ?_) (by kernel_rfl) ?_ (fun K hK => ?_); rotate_left; (· (intro w' hSw; (try dsimp only at hSw); go_simp; with_reducible rfl)); simp only [Act.put, List.setIfInBounds_toArray, List.set_cons_zero, List.set_cons_succ]; refine hK _ ?_; clear hK K)
  refine mix_call (v := ?_) (f := ?_) (args := ?_) (by kernel_rfl) ?_ ?_ (fun K hK => ?_)
  rotate_left 3
  · intro w' hSw; (try dsimp only at hSw); go_simp; constructor <;> rfl
  · intro w' hSw; exact number_ref (some a) 256 cap 26 4 bs w' hl hc hSw.1 (by omega)
  simp only [Act.put, List.setIfInBounds_toArray, List.set_cons_zero, List.set_cons_succ]
  refine hK _ ?_
  clear hK K
  iterate 1 (refine mix_take (v := ?_) (by kernel_rfl) ?_ (fun K hK => ?_); rotate_left; (· (intro w' hSw; (try dsimp only at hSw); go_simp; with_reducible rfl)); simp only [Act.put, List.setIfInBounds_toArray, List.set_cons_zero, List.set_cons_succ]; refine hK _ ?_; clear hK K)
  refine mix_call (v := ?_) (f := ?_) (args := ?_) (by kernel_rfl) ?_ ?_ (fun K hK => ?_)
  rotate_left 3
  · intro w' hSw; (try dsimp only at hSw); go_simp; constructor <;> rfl
  · intro w' hSw; exact number_ref (some a) 256 cap 30 4 bs w' hl hc hSw.1 (by omega)
  simp only [Act.put, List.setIfInBounds_toArray, List.set_cons_zero, List.set_cons_succ]
  refine hK _ ?_
  clear hK K
  iterate 1 (refine mix_take (v := ?_) (by kernel_rfl) ?_ (fun K hK => ?_); rotate_left; (· (intro w' hSw; (try dsimp only at hSw); go_simp; with_reducible rfl)); simp only [Act.put, List.setIfInBounds_toArray, List.set_cons_zero, List.set_cons_succ]; refine hK _ ?_; clear hK K)
  refine mix_call (v := ?_) (f := ?_) (args := ?_) (by kernel_rfl) ?_ ?_ (fun K hK => ?_)
  rotate_left 3
  · intro w' hSw; (try dsimp only at hSw); go_simp; constructor <;> rfl
  · intro w' hSw; exact number_ref (some a) 256 cap 34 4 bs w' hl hc hSw.1 (by omega)
  simp only [Act.put, List.setIfInBounds_toArray, List.set_cons_zero, List.set_cons_succ]
  refine hK _ ?_
  clear hK K
  iterate 5 (refine mix_take (v := ?_) (by kernel_rfl) ?_ (fun K hK => ?_); rotate_left; (· (intro w' hSw; (try dsimp only at hSw); go_simp; with_reducible rfl)); simp only [Act.put, List.setIfInBounds_toArray, List.set_cons_zero, List.set_cons_succ]; refine hK _ ?_; clear hK K)
  refine mix_do (E := False) (fun K hK => ?_) (by kernel_rfl)
  go_simp
  refine hK.out _ _ (⟨HB.out.drew.alloc _, HC.out _ (HB.out.drew.alloc _)⟩) ?_
  clear hK K
  try simp only [Act.put, List.setIfInBounds_toArray, List.set_cons_zero, List.set_cons_succ]
  refine mix_do (E := False) (fun K hK => ?_) (by kernel_rfl)
  go_simp
  refine hK.out _ _ (⟨HB.out.drew.alloc _, HC.out _ (HB.out.drew.alloc _)⟩) ?_
  clear hK K
  try simp only [Act.put, List.setIfInBounds_toArray, List.set_cons_zero, List.set_cons_succ]
  refine mix_end ?_
  have K3 := Lib.hid (K0.out.alloc (.cells #[.int .i64 (uf bs 6 4), .int .i64 (uf bs 10 4), .int .i64 (uf bs 14 4), .int .i64 (uf bs 18 4), .int .i64 (uf bs 22 4), .int .i64 (uf bs 26 4), .int .i64 (uf bs 30 4), .int .i64 (uf bs 34 4), .bool (uf bs 38 1 == 1)] 39)).drew
  have S3 := Lib.hid (Blk.new W 39 #[.int .i64 (uf bs 6 4), .int .i64 (uf bs 10 4), .int .i64 (uf bs 14 4), .int .i64 (uf bs 18 4), .int .i64 (uf bs 22 4), .int .i64 (uf bs 26 4), .int .i64 (uf bs 30 4), .int .i64 (uf bs 34 4), .bool (uf bs 38 1 == 1)]).drew
  have B3 := Lib.hid (B0.out.alloc B0.out.size (.cells #[.int .i64 (uf bs 6 4), .int .i64 (uf bs 10 4), .int .i64 (uf bs 14 4), .int .i64 (uf bs 18 4), .int .i64 (uf bs 22 4), .int .i64 (uf bs 26 4), .int .i64 (uf bs 30 4), .int .i64 (uf bs 34 4), .bool (uf bs 38 1 == 1)] 39)).drew
  have HB3 := Lib.hid (HB.out.alloc (.cells #[.int .i64 (uf bs 6 4), .int .i64 (uf bs 10 4), .int .i64 (uf bs 14 4), .int .i64 (uf bs 18 4), .int .i64 (uf bs 22 4), .int .i64 (uf bs 26 4), .int .i64 (uf bs 30 4), .int .i64 (uf bs 34 4), .bool (uf bs 38 1 == 1)] 39)).drew
  clear K0 B0 HB
  go_wp2_with fail
  generalize hW3 : (W.alloc (.cells #[.int .i64 (uf bs 6 4), .int .i64 (uf bs 10 4), .int .i64 (uf bs 14 4), .int .i64 (uf bs 18 4), .int .i64 (uf bs 22 4), .int .i64 (uf bs 26 4), .int .i64 (uf bs 30 4), .int .i64 (uf bs 34 4), .bool (uf bs 38 1 == 1)] 39)).drew = w3 at *
  clear hW3
  refine (packSuperR_any (uf bs 6 4) (uf bs 10 4) (uf bs 14 4) (uf bs 18 4) (uf bs 22 4) (uf bs 26 4) (uf bs 30 4) (uf bs 34 4) (uf bs 38 1 == 1) _).mono ?_
  rintro e w4 ⟨v4, rfl, hb4, ho4⟩
  have B4 := Lib.hid (below_all B3.out B3.out.size hb4)
  have k4 := K3.out.belowAll hb4
  have s4 := S3.out.belowAll hb4
  obtain ⟨A4, c4, rfl, hr4, _, _, _, _⟩ := own_slice ho4
  have R4 := Lib.hid hr4
  have HB4 := Lib.hid (HB3.out.below hb4)
  clear hb4 ho4 hr4
  obtain ⟨q0, q1, q2, q3, q4, q5, q6, q7, q8⟩ := sup_cells k4
  obtain ⟨r0, r1, r2, r3, r4, r5, r6, r7, r8⟩ := sup_cells s4
  have z0 : w4.frozen? ⟨w.heap.size, 0, none⟩ = false := k4.frozen 0
  have z1 : w4.frozen? ⟨w.heap.size, 1, none⟩ = false := k4.frozen 1
  have z2 : w4.frozen? ⟨w.heap.size, 2, none⟩ = false := k4.frozen 2
  have z3 : w4.frozen? ⟨w.heap.size, 3, none⟩ = false := k4.frozen 3
  have z4 : w4.frozen? ⟨w.heap.size, 4, none⟩ = false := k4.frozen 4
  have z5 : w4.frozen? ⟨w.heap.size, 5, none⟩ = false := k4.frozen 5
  have z6 : w4.frozen? ⟨w.heap.size, 6, none⟩ = false := k4.frozen 6
  have z7 : w4.frozen? ⟨w.heap.size, 7, none⟩ = false := k4.frozen 7
  have z8 : w4.frozen? ⟨w.heap.size, 8, none⟩ = false := k4.frozen 8
  clear k4 s4
  cases hu : supOk (uf bs 6 4) (uf bs 10 4) (uf bs 14 4) (uf bs 18 4) (uf bs 22 4) (uf bs 26 4) (uf bs 30 4) (uf bs 34 4)
  · have e1 : supE (uf bs 6 4) (uf bs 10 4) (uf bs 14 4) (uf bs 18 4) (uf bs 22 4) (uf bs 26 4) (uf bs 30 4) (uf bs 34 4) = 22 := by simp [supE, hu]
    have huo : usOk bs = false := by simp [usOk, hu]
    have HV := Lib.hid (show usV bs = supV 0 0 0 0 0 0 0 0 false by simp [usV, huo])
    have HE := Lib.hid (show usE bs = 117 by simp [usE, huo])
    rw [e1]
    clear e1 huo hu
    go_wp2_with fail
    refine bodyPost_ret (v := .tuple #[.agg #[.int .i64 0, .int .i64 0, .int .i64 0, .int .i64 0, .int .i64 0, .int .i64 0, .int .i64 0, .int .i64 0, .bool false], .int .i64 117]) (by simp [results, Try.results25, go_sem, q0, q1, q2, q3, q4, q5, q6, q7, q8, z0, z1, z2, z3, z4, z5, z6, z7, z8]) rfl ⟨by rw [HV.out, HE.out]; rfl, ?_⟩
    exact (((((((((B4.out.setCell (p := ⟨w.heap.size, 0, none⟩) (Nat.le_refl _) (.int .i64 0)).setCell (p := ⟨w.heap.size, 1, none⟩) (Nat.le_refl _) (.int .i64 0)).setCell (p := ⟨w.heap.size, 2, none⟩) (Nat.le_refl _) (.int .i64 0)).setCell (p := ⟨w.heap.size, 3, none⟩) (Nat.le_refl _) (.int .i64 0)).setCell (p := ⟨w.heap.size, 4, none⟩) (Nat.le_refl _) (.int .i64 0)).setCell (p := ⟨w.heap.size, 5, none⟩) (Nat.le_refl _) (.int .i64 0)).setCell (p := ⟨w.heap.size, 6, none⟩) (Nat.le_refl _) (.int .i64 0)).setCell (p := ⟨w.heap.size, 7, none⟩) (Nat.le_refl _) (.int .i64 0)).setCell (p := ⟨w.heap.size, 8, none⟩) (Nat.le_refl _) (.bool false))
  · have e1 : supE (uf bs 6 4) (uf bs 10 4) (uf bs 14 4) (uf bs 18 4) (uf bs 22 4) (uf bs 26 4) (uf bs 30 4) (uf bs 34 4) = 0 := by simp [supE, hu]
    have hlen := supB_len (cl := (uf bs 38 1 == 1)) hu
    rw [e1]
    clear e1
    cases hq : (bs == supB (uf bs 6 4) (uf bs 10 4) (uf bs 14 4) (uf bs 18 4) (uf bs 22 4) (uf bs 26 4) (uf bs 30 4) (uf bs 34 4) (uf bs 38 1 == 1))
    · have huo : usOk bs = false := by simp only [usOk, hu, ucl, hq]; rfl
      have HV := Lib.hid (show usV bs = supV 0 0 0 0 0 0 0 0 false by simp [usV, huo])
      have HE := Lib.hid (show usE bs = 117 by simp [usE, huo])
      have HQ := Lib.hid hq
      have HLN := Lib.hid hlen
      clear huo hu hq hlen
      go_wp2_with fail
      refine (same_any (some a) A4 256 _ cap c4 bs _ w4 (by omega) HB4.out R4.out).mono ?_
      rintro e w' ⟨rfl, nn, rfl⟩
      rw [HQ.out]
      go_wp2_with fail
      refine bodyPost_ret (v := .tuple #[.agg #[.int .i64 0, .int .i64 0, .int .i64 0, .int .i64 0, .int .i64 0, .int .i64 0, .int .i64 0, .int .i64 0, .bool false], .int .i64 117]) (by simp [results, Try.results25, go_sem, q0, q1, q2, q3, q4, q5, q6, q7, q8, z0, z1, z2, z3, z4, z5, z6, z7, z8]) rfl ⟨by rw [HV.out, HE.out]; rfl, ?_⟩
      exact ((((((((((below_drewN B4.out nn).setCell (p := ⟨w.heap.size, 0, none⟩) (Nat.le_refl _) (.int .i64 0)).setCell (p := ⟨w.heap.size, 1, none⟩) (Nat.le_refl _) (.int .i64 0)).setCell (p := ⟨w.heap.size, 2, none⟩) (Nat.le_refl _) (.int .i64 0)).setCell (p := ⟨w.heap.size, 3, none⟩) (Nat.le_refl _) (.int .i64 0)).setCell (p := ⟨w.heap.size, 4, none⟩) (Nat.le_refl _) (.int .i64 0)).setCell (p := ⟨w.heap.size, 5, none⟩) (Nat.le_refl _) (.int .i64 0)).setCell (p := ⟨w.heap.size, 6, none⟩) (Nat.le_refl _) (.int .i64 0)).setCell (p := ⟨w.heap.size, 7, none⟩) (Nat.le_refl _) (.int .i64 0)).setCell (p := ⟨w.heap.size, 8, none⟩) (Nat.le_refl _) (.bool false))
    · have huo : usOk bs = true := by simp only [usOk, hu, ucl, hq]; rfl
      have HV := Lib.hid (show usV bs = supV (uf bs 6 4) (uf bs 10 4) (uf bs 14 4) (uf bs 18 4) (uf bs 22 4) (uf bs 26 4) (uf bs 30 4) (uf bs 34 4) (uf bs 38 1 == 1) by simp [usV, huo, ucl])
      have HE := Lib.hid (show usE bs = 0 by simp [usE, huo])
      have HQ := Lib.hid hq
      have HLN := Lib.hid hlen
      clear huo hu hq hlen
      go_wp2_with fail
      refine (same_any (some a) A4 256 _ cap c4 bs _ w4 (by omega) HB4.out R4.out).mono ?_
      rintro e w' ⟨rfl, nn, rfl⟩
      rw [HQ.out]
      go_wp2_with fail
      refine bodyPost_ret (v := .tuple #[.agg #[.int .i64 (uf bs 6 4), .int .i64 (uf bs 10 4), .int .i64 (uf bs 14 4), .int .i64 (uf bs 18 4), .int .i64 (uf bs 22 4), .int .i64 (uf bs 26 4), .int .i64 (uf bs 30 4), .int .i64 (uf bs 34 4), .bool (uf bs 38 1 == 1)], .int .i64 0]) (by simp [results, Try.results25, go_sem, q0, q1, q2, q3, q4, q5, q6, q7, q8, z0, z1, z2, z3, z4, z5, z6, z7, z8]) rfl ⟨by rw [HV.out, HE.out]; rfl, ?_⟩
      exact ((((((((((below_drewN B4.out nn).setCell (p := ⟨w.heap.size, 0, none⟩) (Nat.le_refl _) (.int .i64 (uf bs 6 4))).setCell (p := ⟨w.heap.size, 1, none⟩) (Nat.le_refl _) (.int .i64 (uf bs 10 4))).setCell (p := ⟨w.heap.size, 2, none⟩) (Nat.le_refl _) (.int .i64 (uf bs 14 4))).setCell (p := ⟨w.heap.size, 3, none⟩) (Nat.le_refl _) (.int .i64 (uf bs 18 4))).setCell (p := ⟨w.heap.size, 4, none⟩) (Nat.le_refl _) (.int .i64 (uf bs 22 4))).setCell (p := ⟨w.heap.size, 5, none⟩) (Nat.le_refl _) (.int .i64 (uf bs 26 4))).setCell (p := ⟨w.heap.size, 6, none⟩) (Nat.le_refl _) (.int .i64 (uf bs 30 4))).setCell (p := ⟨w.heap.size, 7, none⟩) (Nat.le_refl _) (.int .i64 (uf bs 34 4))).setCell (p := ⟨w.heap.size, 8, none⟩) (Nat.le_refl _) (.bool (uf bs 38 1 == 1)))

theorem unpackSuperR_any (A : Option Addr) (len cap : Nat) (bs : List UInt8) (w : World) (hl : len ≤ cap) (hc : cap ≤ 9223372036854775807) (hb : BytesAt w A len bs) :
    Calls Try.prog 25 #[.slice A len cap] w fun e w' => e = .returned (.tuple #[usV bs, .int .i64 (usE bs)]) ∧ Below w.heap.size w w' := by
  by_cases h : len = 256
  · subst h
    obtain ⟨a, c, rfl, _, _⟩ := hb.at_ (k := 0) (by omega)
    exact unpackSuperR_yes a cap bs w hl hc hb
  · exact unpackSuperR_no A len cap bs w hb (by omega) h
end Go.Proofs.Ytafonjnanfekkaa.Lay

namespace Go.Proofs.Ytafonjnanfekkaa.Lay
open Go.RowKit Go.Proofs.Ytafonjnanfekkaa.Wire
set_option linter.unusedVariables false
set_option linter.unusedSimpArgs false

abbrev Grp := Int × Int × Int
def gcells (gs : List Grp) : List Value := gs.flatMap fun g => [.int .i64 g.1, .int .i64 g.2.1, .int .i64 g.2.2]
theorem gcells_length (gs : List Grp) : (gcells gs).length = gs.length * 3 := by
  induction gs with
  | nil => rfl
  | cons g gs ih => simp only [gcells, List.flatMap_cons, List.length_append, List.length_cons, List.length_nil] at ih ⊢; omega
theorem flat3_at {α β : Type} (f0 f1 f2 : α → β) : ∀ (gs : List α) (k : Nat) (g : α), gs[k]? = some g →
    (gs.flatMap fun g => [f0 g, f1 g, f2 g])[k * 3]? = some (f0 g) ∧ (gs.flatMap fun g => [f0 g, f1 g, f2 g])[k * 3 + 1]? = some (f1 g) ∧ (gs.flatMap fun g => [f0 g, f1 g, f2 g])[k * 3 + 2]? = some (f2 g)
  | [], k, g, h => by simp at h
  | x :: gs, 0, g, h => by simp at h; subst h; simp
  | x :: gs, k + 1, g, h => by
    have := flat3_at f0 f1 f2 gs k g (by simpa using h)
    rw [show (k + 1) * 3 = k * 3 + 3 by omega]
    simpa [List.flatMap_cons] using this
theorem gcells_at {gs : List Grp} {k : Nat} {g : Grp} (h : gs[k]? = some g) : (gcells gs)[k * 3]? = some (.int .i64 g.1) ∧ (gcells gs)[k * 3 + 1]? = some (.int .i64 g.2.1) ∧ (gcells gs)[k * 3 + 2]? = some (.int .i64 g.2.2) :=
  flat3_at _ _ _ gs k g h
theorem gcells_snoc (gs : List Grp) (g : Grp) : gcells (gs ++ [g]) = gcells gs ++ [.int .i64 g.1, .int .i64 g.2.1, .int .i64 g.2.2] := by simp [gcells]
theorem one_gcells (gs : List Grp) : ∀ u ∈ gcells gs, u.oneCell' = true := fun u hu => by
  simp only [gcells, List.mem_flatMap] at hu
  obtain ⟨g, _, hu⟩ := hu
  simp at hu
  rcases hu with rfl | rfl | rfl <;> rfl

def gOk1 (g : Grp) : Bool := rg g.1 0 65535 && (rg g.2.1 0 65535 && rg g.2.2 0 65535)
def gsOk (gs : List Grp) : Bool := rg gs.length 1 14 && gs.all gOk1
def gL (gs : List Grp) : List Nat := gs.flatMap fun g => [g.1.toNat, g.2.1.toNat, g.2.2.toNat]
def gWs (n : Nat) : List Int := List.replicate (3 * n) 4
def gB (gs : List Grp) : List UInt8 := if gsOk gs = true then sealB 1#32 (packB (gL gs) (gWs gs.length) 256) else []
def gE (gs : List Grp) : Int := if gsOk gs = true then 0 else 22
theorem gL_length (gs : List Grp) : (gL gs).length = 3 * gs.length := by
  induction gs with
  | nil => rfl
  | cons g gs ih => simp only [gL, List.flatMap_cons, List.length_append, List.length_cons, List.length_nil] at ih ⊢; omega
theorem gL_snoc (gs : List Grp) (g : Grp) : gL (gs ++ [g]) = gL gs ++ [g.1.toNat, g.2.1.toNat, g.2.2.toNat] := by simp [gL]
theorem gOk1_parts {g : Grp} (h : gOk1 g = true) : (0 ≤ g.1 ∧ g.1 ≤ 65535) ∧ (0 ≤ g.2.1 ∧ g.2.1 ≤ 65535) ∧ (0 ≤ g.2.2 ∧ g.2.2 ≤ 65535) := by
  simp only [gOk1, Bool.and_eq_true] at h
  exact ⟨rg_true h.1, rg_true h.2.1, rg_true h.2.2⟩
theorem gL_le {gs : List Grp} (h : gs.all gOk1 = true) : ∀ x ∈ gL gs, x ≤ 65535 := fun x hx => by
  simp only [gL, List.mem_flatMap] at hx
  obtain ⟨g, hg, hx⟩ := hx
  have := gOk1_parts (List.all_eq_true.1 h g hg)
  simp at hx
  omega
theorem gWs_wok (n : Nat) : wok (gWs n) = true := by
  simp only [wok, gWs, List.all_eq_true, List.mem_replicate]
  rintro x ⟨_, rfl⟩
  rfl
theorem gWs_four (n : Nat) : ∀ z ∈ gWs n, z ≤ 4 := fun z hz => by
  simp only [gWs, List.mem_replicate] at hz
  omega
theorem gWs_sum (n : Nat) : (gWs n).sum = 12 * (n : Int) := by
  have : ∀ m : Nat, (List.replicate m (4 : Int)).sum = 4 * (m : Int) := fun m => by
    induction m with
    | zero => rfl
    | succ m ih => rw [List.replicate_succ, List.sum_cons, ih]; omega
  rw [gWs, this]; omega
theorem gB_len {gs : List Grp} (h : gsOk gs = true) : (gB gs).length = 256 := by
  have h' := h
  simp only [gsOk, Bool.and_eq_true] at h'
  obtain ⟨hn1, hn2⟩ := rg_true h'.1
  have hm : pmay (gL gs) (gWs gs.length) 256 = true := by
    have h1 : (gL gs).length = (gWs gs.length).length := by rw [gL_length]; simp [gWs]
    have h2 := gWs_wok gs.length
    have h3 : (gWs gs.length).sum ≤ 256 := by rw [gWs_sum]; omega
    simp [pmay, h1, h2, h3]
  have hz : ∀ p ∈ (gL gs).zip (gWs gs.length), p.1 < 256 ^ p.2.toNat := fun p hp => by
    obtain ⟨h1, h2⟩ := List.of_mem_zip (a := p.1) (b := p.2) hp
    have h3 := gL_le h'.2 _ h1
    simp only [gWs, List.mem_replicate] at h2
    rw [h2.2]
    show p.1 < 256 ^ 4
    omega
  rw [gB, if_pos h, sealB_length, (packB_full hm hz (by omega)).2.2]
  rfl

/-- What a block says of n groups. -/
def ugs (bs : List UInt8) (n : Nat) : List Grp := (List.range n).map fun (i : Nat) => (uf bs (12 * (i : Int)) 4, uf bs (12 * (i : Int) + 4) 4, uf bs (12 * (i : Int) + 8) 4)
theorem ugs_length (bs : List UInt8) (n : Nat) : (ugs bs n).length = n := by simp [ugs]
theorem ugs_at {bs : List UInt8} {n k : Nat} (h : k < n) : (ugs bs n)[k]? = some (uf bs (12 * (k : Int)) 4, uf bs (12 * (k : Int) + 4) 4, uf bs (12 * (k : Int) + 8) 4) := by
  simp [ugs, h]
theorem recs_four (bs : List UInt8) (m j : Nat) (h : j < m) : (recs bs 0 (List.replicate m 4))[j]? = some (uf bs (4 * (j : Int)) 4) := by
  have := recs_at bs (List.replicate m 4) 0 j 4 (by simp [h])
  rw [this]
  have hs : ∀ q : Nat, (List.replicate q (4 : Int)).sum = 4 * (q : Int) := fun q => by
    induction q with
    | zero => rfl
    | succ q ih => rw [List.replicate_succ, List.sum_cons, ih]; omega
  rw [List.take_replicate, hs, Nat.min_eq_left (by omega), Int.zero_add]
  rfl
def ugOk (bs : List UInt8) (n : Int) : Bool := rg n 1 14 && (gsOk (ugs bs n.toNat) && (bs == gB (ugs bs n.toNat)))
def ugE (bs : List UInt8) (n : Int) : Int := if rg n 1 14 = true then (if ugOk bs n = true then 0 else 117) else 22
def ugX (bs : List UInt8) (n : Int) : List Grp := if ugOk bs n = true then ugs bs n.toNat else []
theorem ugOk_len {bs : List UInt8} {n : Int} (h : ugOk bs n = true) : bs.length = 256 := by
  simp only [ugOk, Bool.and_eq_true, beq_iff_eq] at h
  rw [h.2.2]
  exact gB_len h.2.1
end Go.Proofs.Ytafonjnanfekkaa.Lay

namespace Go.Proofs.Ytafonjnanfekkaa.Lay
open Go.RowKit Go.Proofs.Ytafonjnanfekkaa.Wire
set_option maxHeartbeats 8000000
set_option maxRecDepth 100000
set_option linter.unusedVariables false
set_option linter.unusedSimpArgs false

theorem row_spot {w : World} {a : Addr} {n : Nat} {vs : List Value} (h : RowAt w (some a) n vs) (hn : 0 < n) : a.spot = none := by
  obtain ⟨a', u, e, _, hc⟩ := h.at_ hn
  obtain rfl : a = a' := by simpa using e
  rw [show a.add 0 = a by unfold Addr.add; simp] at hc
  exact World.cell?_spot hc
/-- A group's three cells. -/
def GrpAt (w : World) (p : Addr) (g : Grp) : Prop :=
  w.cell? p = some (.int .i64 g.1) ∧ w.cell? ⟨p.block, p.off + 1, none⟩ = some (.int .i64 g.2.1) ∧ w.cell? ⟨p.block, p.off + 2, none⟩ = some (.int .i64 g.2.2)
theorem GrpAt.below {w w' : World} {p : Addr} {g : Grp} {B : Nat} (h : GrpAt w p g) (hb : Below B w w') (hlt : p.block < B) : GrpAt w' p g :=
  ⟨(hb.cell hlt).trans h.1, (hb.cell (p := ⟨p.block, p.off + 1, none⟩) hlt).trans h.2.1, (hb.cell (p := ⟨p.block, p.off + 2, none⟩) hlt).trans h.2.2⟩
theorem grp_cells {w : World} {A : Option Addr} {n : Nat} {gs : List Grp} (h : RowAt w A (n * 3) (gcells gs)) {k : Nat} {g : Grp} (hg : gs[k]? = some g) :
    ∃ a, A = some a ∧ a.block < w.heap.size ∧ (a.add (k * 3)).block < w.heap.size ∧ GrpAt w (a.add (k * 3)) g := by
  obtain ⟨h0, h1, h2⟩ := gcells_at hg
  have hk : k < gs.length := (List.getElem?_eq_some_iff.1 hg).1
  have hl := h.len
  rw [gcells_length] at hl
  obtain ⟨a, rfl, hc⟩ := h.2 (by omega)
  have hs := row_spot h (by omega)
  have e0 := hc _ _ h0
  have e1 := hc _ _ h1
  have e2 := hc _ _ h2
  have hb := World.block_lt_of_cell? w _ e0
  refine ⟨a, rfl, by rwa [block_of_add] at hb, hb, e0, ?_, ?_⟩
  · rw [add_spot hs] at e1 ⊢; exact e1
  · rw [add_spot hs] at e2 ⊢; exact e2

theorem packGroups_no (A : Option Addr) (n c : Nat) (gs : List Grp) (w : World) (hn : n ≤ 9223372036854775807) (hr : rg (n : Int) 1 14 = false) :
    Calls Try.prog 27 #[.slice A n c] w fun e w' => e = .returned (.tuple #[.slice none 0 0, .int .i64 22]) ∧ Below w.heap.size w w' := by
  have HR := Lib.hid hr
  clear hr
  go_enter Try.func27, Try.ntmps27
  go_wp2_with fail
  refine (ranged_any _ _ _ _).mono ?_
  rintro e w' ⟨rfl, rfl⟩
  rw [HR.out]
  go_wp2_with fail
  go_ret2
  exact ⟨rfl, Below.refl _ _⟩

theorem packGroups_in (A : Option Addr) (n c : Nat) (gs : List Grp) (w : World) (hr : RowAt w A (n * 3) (gcells gs)) (hg : rg (n : Int) 1 14 = true) :
    Calls Try.prog 27 #[.slice A n c] w fun e w' => ∃ v, e = .returned (.tuple #[v, .int .i64 (gE gs)]) ∧ Below w.heap.size w w' ∧ w'.ownsRow w.heap.size 5 1 v (gB gs).length (bvl (gB gs)) := by
  have hlen : gs.length = n := by have := hr.len; rw [gcells_length] at this; omega
  obtain ⟨n1, n2⟩ := rg_true hg
  have HG := Lib.hid hg
  have HR := Lib.hid hr
  have HL := Lib.hid hlen
  clear hg hr hlen
  go_enter Try.func27, Try.ntmps27
  go_wp2_with fail
  refine (ranged_any _ _ _ _).mono ?_
  rintro e w' ⟨rfl, rfl⟩
  rw [HG.out]
  go_wp2_with fail
  go_loopw [4, 13] (fun v i wr => ∃ (k : Nat), k ≤ n ∧ i = .int .i64 k ∧ (gs.take k).all gOk1 = true ∧ wr.ownsRow w.heap.size 84 1 v (3 * k) (nums (gL (gs.take k))) ∧ Below w.heap.size w wr) (fun _ i _ => n - (intOf i).toNat)
  case atStart => exact ⟨0, by omega, rfl, rfl, World.ownsRow_nil _ _ _ _, Below.refl _ _⟩
  case round =>
    obtain ⟨k, hk, rfl, hall, hown, hbel⟩ := hrel
    have hsz := hbel.size
    have X3 := Lib.hid hall
    have X5 := Lib.hid hown
    have X6 := Lib.hid hbel
    clear hall hown hbel
    by_cases hlt : k < n
    · obtain ⟨g, hg⟩ : ∃ g, gs[k]? = some g := ⟨_, List.getElem?_eq_getElem (by have := HL.out; omega)⟩
      obtain ⟨a, rfl, hab, hpb, hga⟩ := grp_cells HR.out hg
      obtain ⟨x, y, z⟩ := g
      obtain ⟨f0, f1, f2⟩ := hga.below X6.out hpb
      simp only at f0 f1 f2
      have hall1 : (gs.take (k + 1)).all gOk1 = (gOk1 (x, y, z)) := by
        rw [List.take_add_one, hg, List.all_append, X3.out]; simp
      have HA1 := Lib.hid hall1
      have HGL := Lib.hid (show gL (gs.take (k + 1)) = gL (gs.take k) ++ [x.toNat, y.toNat, z.toNat] by rw [List.take_add_one, hg]; exact gL_snoc _ _)
      have HGM := Lib.hid (List.mem_of_getElem? hg)
      have X7 := Lib.hid (X6.out.alloc hsz (.cells #[.int .i64 x, .int .i64 y, .int .i64 z] 108))
      have bad : gOk1 (x, y, z) = false → gE gs = 22 ∧ gB gs = [] := fun h => by
        have h1 : gs.all gOk1 = false := List.all_eq_false.2 ⟨_, HGM.out, by simp [h]⟩
        have h2 : gsOk gs = false := by simp [gsOk, h1]
        simp [gE, gB, h2]
      have BAD := Lib.hid bad
      clear hga hg hall1 bad
      cases r1 : rg x 0 65535
      · obtain ⟨b1, b2⟩ := BAD.out (by simp [gOk1, r1])
        have E1 := Lib.hid b1
        have E2 := Lib.hid b2
        clear b1 b2
        go_wp2_with (go_at_call 64; refine (ranged_any _ _ _ _).mono ?_; rintro e w' ⟨rfl, rfl⟩)
        go_ret2
        refine ⟨_, by rw [E1.out]; rfl, X7.out, ?_⟩
        rw [E2.out]
        exact World.ownsRow_nil _ _ _ _
      cases r2 : rg y 0 65535
      · obtain ⟨b1, b2⟩ := BAD.out (by simp [gOk1, r2])
        have E1 := Lib.hid b1
        have E2 := Lib.hid b2
        clear b1 b2
        go_wp2_with (go_at_call 64; refine (ranged_any _ _ _ _).mono ?_; rintro e w' ⟨rfl, rfl⟩)
        go_ret2
        refine ⟨_, by rw [E1.out]; rfl, X7.out, ?_⟩
        rw [E2.out]
        exact World.ownsRow_nil _ _ _ _
      cases r3 : rg z 0 65535
      · obtain ⟨b1, b2⟩ := BAD.out (by simp [gOk1, r3])
        have E1 := Lib.hid b1
        have E2 := Lib.hid b2
        clear b1 b2
        go_wp2_with (go_at_call 64; refine (ranged_any _ _ _ _).mono ?_; rintro e w' ⟨rfl, rfl⟩)
        go_ret2
        refine ⟨_, by rw [E1.out]; rfl, X7.out, ?_⟩
        rw [E2.out]
        exact World.ownsRow_nil _ _ _ _
      clear BAD
      obtain ⟨x0, x1⟩ := rg_true r1
      obtain ⟨y0, y1⟩ := rg_true r2
      obtain ⟨z0, z1⟩ := rg_true r3
      have HOK := Lib.hid (show gOk1 (x, y, z) = true by simp [gOk1, r1, r2, r3])
      go_wp2_with (go_at_call 64; refine (ranged_any _ _ _ _).mono ?_; rintro e w' ⟨rfl, rfl⟩)
      go_wp2_with fail
      have hrow := lit_rowN (wr.alloc (.cells #[.int .i64 x, .int .i64 y, .int .i64 z] 108)) 3 (ints [x, y, z]) 3 (wr.heap.size + 1) rfl (by simp)
      rw [show ints [x, y, z] = ints ([x.toNat, y.toNat, z.toNat].map fun (q : Nat) => (q : Int)) by simp [Int.toNat_of_nonneg x0, Int.toNat_of_nonneg y0, Int.toNat_of_nonneg z0]] at hrow
      have HN := Lib.hid (numbers_any4 (some ⟨wr.heap.size + 1, 0, none⟩) 3 3 [x.toNat, y.toNat, z.toNat] _ (by omega) hrow (by intro q hq; simp at hq; omega))
      rw [show ints ([x.toNat, y.toNat, z.toNat].map fun (q : Nat) => (q : Int)) = ints [x, y, z] by simp [Int.toNat_of_nonneg x0, Int.toNat_of_nonneg y0, Int.toNat_of_nonneg z0]] at HN
      have B2 := Lib.hid (X7.out.alloc (by simp; omega) (.cells (ints [x, y, z]).toArray 3))
      have O2 := Lib.hid ((X5.out.alloc (.cells #[.int .i64 x, .int .i64 y, .int .i64 z] 108)).alloc (.cells (ints [x, y, z]).toArray 3))
      clear hrow
      refine HN.out.mono ?_
      rintro e w3 ⟨v3, rfl, hb3, ho3⟩
      have B3 := Lib.hid (below_all B2.out B2.out.size hb3)
      have O3 := Lib.hid (own_below O2.out hb3)
      obtain ⟨A3, c3, rfl, hr3, _, _, hA3, _⟩ := own_nums ho3
      have R3 := Lib.hid hr3
      have HA3 := Lib.hid hA3
      have hz3 := B3.out.size
      clear hb3 ho3 hr3 hA3
      go_wp2_with (first
        | (at_builtin
           refine app_n64 _ rfl (.tmp 33) (.tmp 41) rfl w.heap.size u4 (3 * k) (nums (gL (gs.take k))) rfl O3.out A3 3 c3 [x.toNat, y.toNat, z.toNat] rfl HA3.out R3.out (by omega) (by omega) ?_
           intro v' w4 hown4 hg4
           have bel4 := Lib.hid (below_row B3.out hg4 (fun g e => (O3.out.lt g e).1) hz3)
           have own4 := Lib.hid hown4
           clear hown4 hg4)
        | fail)
      go_roundw
      case rel => exact ⟨k + 1, by omega, by go_num, by rw [HA1.out]; exact HOK.out, by
        rw [show 3 * (k + 1) = 3 * k + 3 by omega, HGL.out, nums, List.map_append]; exact own4.out, bel4.out⟩
      case measure => simp [intOf]; omega
    · obtain rfl : k = n := by omega
      have htk : gs.take k = gs := List.take_of_length_le (by rw [HL.out]; exact Nat.le_refl _)
      have hall := X3.out
      have hown := X5.out
      rw [htk] at hall hown
      have hok : gsOk gs = true := by simp [gsOk, hall, HL.out, HG.out]
      have E1 := Lib.hid (show gE gs = 0 by simp [gE, hok])
      have E2 := Lib.hid (show gB gs = sealB 1#32 (packB (gL gs) (gWs k) 256) by simp [gB, hok, HL.out])
      have HLE := Lib.hid (gL_le hall)
      obtain ⟨A4, c4, rfl, hr4, _, _, _, _⟩ := own_nums hown
      have R4 := Lib.hid hr4
      clear htk hall hown hok hr4
      go_wp2_with fail
      refine (gwidths_any k _ (by omega)).mono ?_
      rintro e w5 ⟨v5, rfl, hb5, ho5⟩
      have B5 := Lib.hid (below_all X6.out hsz hb5)
      have R4' := Lib.hid (R4.out.below hb5)
      obtain ⟨A5, c5, rfl, hr5, _, _, _, _⟩ := own_ints ho5
      have R5 := Lib.hid hr5
      clear hb5 ho5 hr5
      go_wp2_with fail
      refine (sealed_lay A4 A5 (3 * k) c4 (3 * k) c5 (gL gs) (gWs k) 1#32 _ (by omega) (fun x hx => by have := HLE.out x hx; omega) R4'.out R5.out).mono ?_
      rintro e w6 ⟨v6, rfl, hb6, ho6⟩
      have B6 := Lib.hid (below_all B5.out B5.out.size hb6)
      have O6 := Lib.hid (own_mono ho6 B5.out.size)
      clear hb6 ho6
      go_wp2_with fail
      go_ret2
      refine ⟨_, by rw [E1.out]; rfl, B6.out, ?_⟩
      rw [E2.out]
      exact O6.out

theorem packGroups_any (A : Option Addr) (n c : Nat) (gs : List Grp) (w : World) (hn : n ≤ 9223372036854775807) (hr : RowAt w A (n * 3) (gcells gs)) :
    Calls Try.prog 27 #[.slice A n c] w fun e w' => ∃ v, e = .returned (.tuple #[v, .int .i64 (gE gs)]) ∧ Below w.heap.size w w' ∧ w'.ownsRow w.heap.size 5 1 v (gB gs).length (bvl (gB gs)) := by
  have hlen : gs.length = n := by have := hr.len; rw [gcells_length] at this; omega
  cases hg : rg (n : Int) 1 14
  · have hok : gsOk gs = false := by simp [gsOk, hlen, hg]
    have e1 : gE gs = 22 := by simp [gE, hok]
    have e2 : gB gs = [] := by simp [gB, hok]
    rw [e1, e2]
    exact (packGroups_no A n c gs w hn hg).mono fun e w' ⟨he, hb⟩ => ⟨_, he, hb, World.ownsRow_nil _ _ _ _⟩
  · exact packGroups_in A n c gs w hr hg
end Go.Proofs.Ytafonjnanfekkaa.Lay

namespace Go.Proofs.Ytafonjnanfekkaa.Lay
open Go.RowKit Go.Proofs.Ytafonjnanfekkaa.Wire
set_option maxHeartbeats 8000000
set_option maxRecDepth 100000
set_option linter.unusedVariables false
set_option linter.unusedSimpArgs false

theorem infoGrp : (Try.prog.info? 108).map (fun i => (i.zero, i.size, i.bytes)) = some (some (.agg #[.int .i64 0, .int .i64 0, .int .i64 0]), 3, 24) := by kernel_rfl

theorem unpackGroups_no (A : Option Addr) (len cap : Nat) (n : Int) (w : World) (hr : rg n 1 14 = false) :
    Calls Try.prog 29 #[.slice A len cap, .int .i64 n] w fun e w' => e = .returned (.tuple #[.slice none 0 0, .int .i64 22]) ∧ Below w.heap.size w w' := by
  have HR := Lib.hid hr
  clear hr
  go_enter Try.func29, Try.ntmps29
  go_wp2_with fail
  refine (ranged_any _ _ _ _).mono ?_
  rintro e w' ⟨rfl, rfl⟩
  rw [HR.out]
  go_wp2_with fail
  go_ret2
  exact ⟨rfl, Below.refl _ _⟩

theorem unpackGroups_in (A : Option Addr) (len cap : Nat) (m : Nat) (bs : List UInt8) (w : World) (hl : len ≤ cap) (hc : cap ≤ 9223372036854775807) (hb : BytesAt w A len bs) (hg : rg (m : Int) 1 14 = true) :
    Calls Try.prog 29 #[.slice A len cap, .int .i64 (m : Int)] w fun e w' => ∃ v, e = .returned (.tuple #[v, .int .i64 (ugE bs m)]) ∧ Below w.heap.size w w' ∧ w'.ownsRow w.heap.size 108 3 v (ugX bs m).length (gcells (ugX bs m)) := by
  obtain ⟨n1, n2⟩ := rg_true hg
  have HG := Lib.hid hg
  have HB := Lib.hid hb
  clear hg hb
  go_enter Try.func29, Try.ntmps29
  go_wp2_with fail
  refine (ranged_any _ _ _ _).mono ?_
  rintro e w' ⟨rfl, rfl⟩
  rw [HG.out]
  go_wp2_with fail
  refine (gwidths_any m _ (by omega)).mono ?_
  rintro e w1 ⟨v1, rfl, hb1, ho1⟩
  have B1 := Lib.hid hb1
  obtain ⟨A1, c1, rfl, hr1, _, _, _, _⟩ := own_ints ho1
  have R1 := Lib.hid hr1
  clear hb1 ho1 hr1
  go_wp2_with fail
  refine (record_any A1 A (3 * m) c1 len cap (gWs m) bs _ (by omega) hl hc R1.out (HB.out.below B1.out) (gWs_wok m) (gWs_four m)).mono ?_
  rintro e w2 ⟨v2, rfl, hb2, ho2⟩
  have B2 := Lib.hid (below_all B1.out B1.out.size hb2)
  obtain ⟨g, c2, cs2, rfl, hg2, _, hc2, hm2, _⟩ := own_form ho2 (by omega)
  have O2 := Lib.hid ho2
  have hz1 := B1.out.size
  have hz2 := B2.out.size
  have hgl : g < w2.heap.size := (ho2.lt g rfl).2
  clear hb2 ho2
  go_wp2_with fail
  go_loopw [6, 8, 19] (fun v _ i wr => ∃ (k : Nat), k ≤ m ∧ i = .int .i64 k ∧ wr.ownsRow w2.heap.size 108 3 v k (gcells ((ugs bs m).take k)) ∧ Below w2.heap.size w2 wr) (fun _ _ i _ => m - (intOf i).toNat)
  case atStart => exact ⟨0, by omega, rfl, World.ownsRow_nil _ _ _ _, Below.refl _ _⟩
  case round =>
    obtain ⟨k, hk, rfl, hown, hbel⟩ := hrel
    have hsz := hbel.size
    have X5 := Lib.hid hown
    have X6 := Lib.hid hbel
    clear hown hbel
    by_cases hlt : k < m
    · have hrow := fun (W' : World) (hW : Below w2.heap.size w2 W') (j : Nat) (hj : j < 3 * m) => show W'.cell? ⟨g, j, none⟩ = some (.int .i64 (uf bs (4 * (j : Int)) 4)) from by
        rw [hW.cell (p := ⟨g, j, none⟩) hgl, O2.out.cellAt j (by omega), ints, List.getElem?_map, gWs, recs_four bs _ _ hj]; rfl
      have hat := ugs_at (bs := bs) hlt
      obtain ⟨x0, h0⟩ : ∃ x, uf bs (12 * (k : Int)) 4 = x := ⟨_, rfl⟩
      obtain ⟨x1, h1⟩ : ∃ x, uf bs (12 * (k : Int) + 4) 4 = x := ⟨_, rfl⟩
      obtain ⟨x2, h2⟩ : ∃ x, uf bs (12 * (k : Int) + 8) 4 = x := ⟨_, rfl⟩
      rw [h0, h1, h2] at hat
      have hsk : ∀ W', Below w2.heap.size w2 W' → W'.cell? ⟨g, 3 * k, none⟩ = some (.int .i64 x0) ∧ W'.cell? ⟨g, 3 * k + 1, none⟩ = some (.int .i64 x1) ∧ W'.cell? ⟨g, 3 * k + 2, none⟩ = some (.int .i64 x2) := fun W' hW => by
        have f0 := hrow W' hW (3 * k) (by omega)
        have f1 := hrow W' hW (3 * k + 1) (by omega)
        have f2 := hrow W' hW (3 * k + 2) (by omega)
        rw [show 4 * ((3 * k : Nat) : Int) = 12 * (k : Int) by omega, h0] at f0
        rw [show 4 * ((3 * k + 1 : Nat) : Int) = 12 * (k : Int) + 4 by omega, h1] at f1
        rw [show 4 * ((3 * k + 2 : Nat) : Int) = 12 * (k : Int) + 8 by omega, h2] at f2
        exact ⟨f0, f1, f2⟩
      have SK := Lib.hid hsk
      have HTK := Lib.hid (show (ugs bs m).take (k + 1) = (ugs bs m).take k ++ [(x0, x1, x2)] by rw [List.take_add_one, hat]; rfl)
      obtain ⟨f0, f1, f2⟩ := hsk wr X6.out
      clear hrow hat h0 h1 h2 hsk
      have e0 : IntKind.i64.wrap (3 * (k : Int)) = 3 * (k : Int) := by rw [IntKind.wrap_i64]; omega
      have e1 : IntKind.i64.wrap (3 * (k : Int) + 1) = 3 * (k : Int) + 1 := by rw [IntKind.wrap_i64]; omega
      have e2 : IntKind.i64.wrap (3 * (k : Int) + 2) = 3 * (k : Int) + 2 := by rw [IntKind.wrap_i64]; omega
      have b0 : (0 : Int) ≤ 3 * (k : Int) := by omega
      have b1 : (0 : Int) ≤ 3 * (k : Int) + 1 := by omega
      have b2 : (0 : Int) ≤ 3 * (k : Int) + 2 := by omega
      have b4 : 3 * (k : Int) + 1 < 3 * (m : Int) := by omega
      have b5 : 3 * (k : Int) + 2 < 3 * (m : Int) := by omega
      have t0 : (3 * (k : Int)).toNat = 3 * k := by omega
      have t1 : (3 * (k : Int) + 1).toNat = 3 * k + 1 := by omega
      have t2 : (3 * (k : Int) + 2).toNat = 3 * k + 2 := by omega
      go_wp2_with fail
      refine region_mix [true, true, true, true, true, true, true, true, true, true, true, true, true, true, true, true, true, true, true, false, false] (S := fun W' => W'.cell? ⟨g, 3 * k, none⟩ = some (.int .i64 x0) ∧ W'.cell? ⟨g, 3 * k + 1, none⟩ = some (.int .i64 x1) ∧ W'.cell? ⟨g, 3 * k + 2, none⟩ = some (.int .i64 x2)) (by kernel_rfl) (by kernel_rfl) (fun _ _ d _ _ h => by cases d <;> exact h) ⟨f0, f1, f2⟩ ?_
      iterate 19 (refine mix_take (v := ?_) (by kernel_rfl) ?_ (fun K hK => ?_); rotate_left; (· (intro w' hSw; (try dsimp only at hSw); go_simp; with_reducible rfl)); simp only [Act.put, List.setIfInBounds_toArray, List.set_cons_zero, List.set_cons_succ]; refine hK _ ?_; clear hK K)
      refine mix_do (E := False) (fun K hK => ?_) (by kernel_rfl)
      go_simp
      have B7 := Lib.hid (X6.out.alloc hsz (.cells #[.int .i64 x0, .int .i64 x1, .int .i64 x2] 108)).drew
      have O7 := Lib.hid (show (wr.alloc (.cells #[.int .i64 x0, .int .i64 x1, .int .i64 x2] 108)).drew.ownsRow w2.heap.size 108 3 u6 k (gcells ((ugs bs m).take k)) from X5.out.alloc _)
      have L7 := Lib.hid (show RowAt (wr.alloc (.cells #[.int .i64 x0, .int .i64 x1, .int .i64 x2] 108)).drew (some ⟨wr.heap.size, 0, none⟩) (1 * 3) (gcells [(x0, x1, x2)]) from lit_rowN wr 108 (gcells [(x0, x1, x2)]) 3 wr.heap.size rfl rfl)
      refine hK.out _ _ (SK.out _ B7.out) ?_
      clear hK K
      try simp only [Act.put, List.setIfInBounds_toArray, List.set_cons_zero, List.set_cons_succ]
      refine mix_do (E := False) (fun K hK => ?_) (by kernel_rfl)
      refine step_app_gen _ 45 108 (.agg #[.int .i64 0, .int .i64 0, .int .i64 0]) 3 24 Try.underlying45 infoGrp rfl (by decide) rfl (.tmp 22) (.tmp 41) rfl w2.heap.size u6 k (gcells ((ugs bs m).take k)) rfl O7.out ⟨wr.heap.size, 0, none⟩ 1 1 (gcells [(x0, x1, x2)]) rfl L7.out (one_gcells _) (by unfold maxLen; omega) (by omega) (by simp; omega) ?_
      intro v' w4 hown4 hg4
      have B8 := Lib.hid (below_row B7.out hg4 (fun g e => (O7.out.lt g e).1) (by simp; omega))
      have own4 := Lib.hid hown4
      clear hown4 hg4 f0 f1 f2
      refine hK.out _ _ (SK.out _ B8.out) ?_
      clear hK K
      try simp only [Act.put, List.setIfInBounds_toArray, List.set_cons_zero, List.set_cons_succ]
      refine mix_still ?_
      iterate 1 (refine still_take (v := ?_) (by kernel_rfl) ?_ (fun K hK => ?_); rotate_left; (· (go_simp; with_reducible rfl)); simp only [Act.put, List.setIfInBounds_toArray, List.set_cons_zero, List.set_cons_succ]; refine hK _ ?_; clear hK K)
      refine still_end ?_
      go_wp2_with fail
      go_roundw
      case rel => exact ⟨k + 1, by omega, by go_num, by rw [HTK.out, gcells_snoc]; exact own4.out, B8.out⟩
      case measure => simp [intOf]; omega
    · obtain rfl : k = m := by omega
      have htk : (ugs bs k).take k = ugs bs k := List.take_of_length_le (by rw [ugs_length]; exact Nat.le_refl _)
      have hown := X5.out
      rw [htk] at hown
      have OW := Lib.hid hown
      obtain ⟨A4, c4, rfl, hr4, _, hm4, _, _⟩ := own_sliceN hown
      have R4 := Lib.hid hr4
      have B9 := Lib.hid (below_all B2.out B2.out.size X6.out)
      have HB9 := Lib.hid (HB.out.below B9.out)
      clear htk hown hr4
      have hP := packGroups_any A4 k c4 (ugs bs k) wr (by omega) R4.out
      have HP := Lib.hid hP
      clear hP
      cases hu : gsOk (ugs bs k)
      · have e1 : gE (ugs bs k) = 22 := by simp [gE, hu]
        have huo : ugOk bs k = false := by simp [ugOk, hu]
        have E1 := Lib.hid e1
        have HE := Lib.hid (show ugE bs k = 117 by simp [ugE, huo, HG.out])
        have HX := Lib.hid (show ugX bs k = [] by simp [ugX, huo])
        clear e1 huo hu
        go_wp2_with fail
        refine HP.out.mono ?_
        rintro e w5 ⟨v5, rfl, hb5, ho5⟩
        rw [E1.out]
        have B10 := Lib.hid (below_all B9.out B9.out.size hb5)
        clear hb5 ho5
        go_wp2_with fail
        go_ret2
        refine ⟨_, by rw [HE.out]; rfl, B10.out, ?_⟩
        rw [HX.out]
        exact World.ownsRow_nil _ _ _ _
      · have e1 : gE (ugs bs k) = 0 := by simp [gE, hu]
        have E1 := Lib.hid e1
        clear e1
        cases hq : (bs == gB (ugs bs k))
        · have huo : ugOk bs k = false := by simp only [ugOk, Int.toNat_natCast, hu, hq, Bool.and_false]
          have HE := Lib.hid (show ugE bs k = 117 by simp [ugE, huo, HG.out])
          have HX := Lib.hid (show ugX bs k = [] by simp [ugX, huo])
          have HQ := Lib.hid hq
          clear huo hu hq
          go_wp2_with fail
          refine HP.out.mono ?_
          rintro e w5 ⟨v5, rfl, hb5, ho5⟩
          rw [E1.out]
          have B10 := Lib.hid (below_all B9.out B9.out.size hb5)
          obtain ⟨A6, c6, rfl, hr6, _, _, _, _⟩ := own_slice ho5
          have R6 := Lib.hid hr6
          have HB10 := Lib.hid (HB9.out.below hb5)
          clear hb5 ho5 hr6
          go_wp2_with fail
          refine (equal_any A A6 len _ cap c6 bs _ w5 HB10.out R6.out).mono ?_
          rintro e w' ⟨rfl, rfl⟩
          rw [HQ.out]
          go_wp2_with fail
          go_ret2
          refine ⟨_, by rw [HE.out]; rfl, B10.out, ?_⟩
          rw [HX.out]
          exact World.ownsRow_nil _ _ _ _
        · have huo : ugOk bs k = true := by simp only [ugOk, Int.toNat_natCast, hu, hq, HG.out]; rfl
          have HE := Lib.hid (show ugE bs k = 0 by simp [ugE, huo, HG.out])
          have HX := Lib.hid (show ugX bs k = ugs bs k by simp [ugX, huo])
          have HQ := Lib.hid hq
          clear huo hu hq
          go_wp2_with fail
          refine HP.out.mono ?_
          rintro e w5 ⟨v5, rfl, hb5, ho5⟩
          rw [E1.out]
          have B10 := Lib.hid (below_all B9.out B9.out.size hb5)
          have OW5 := Lib.hid (own_mono (own_belowN OW.out hb5) B2.out.size)
          obtain ⟨A6, c6, rfl, hr6, _, _, _, _⟩ := own_slice ho5
          have R6 := Lib.hid hr6
          have HB10 := Lib.hid (HB9.out.below hb5)
          clear hb5 ho5 hr6
          go_wp2_with fail
          refine (equal_any A A6 len _ cap c6 bs _ w5 HB10.out R6.out).mono ?_
          rintro e w' ⟨rfl, rfl⟩
          rw [HQ.out]
          go_wp2_with fail
          go_ret2
          refine ⟨_, by rw [HE.out]; rfl, B10.out, ?_⟩
          rw [HX.out, ugs_length]
          exact OW5.out

theorem unpackGroups_any (A : Option Addr) (len cap : Nat) (n : Int) (bs : List UInt8) (w : World) (hl : len ≤ cap) (hc : cap ≤ 9223372036854775807) (hb : BytesAt w A len bs) :
    Calls Try.prog 29 #[.slice A len cap, .int .i64 n] w fun e w' => ∃ v, e = .returned (.tuple #[v, .int .i64 (ugE bs n)]) ∧ Below w.heap.size w w' ∧ w'.ownsRow w.heap.size 108 3 v (ugX bs n).length (gcells (ugX bs n)) := by
  cases hg : rg n 1 14
  · have e1 : ugE bs n = 22 := by simp [ugE, hg]
    have e2 : ugX bs n = [] := by simp [ugX, ugOk, hg]
    rw [e1, e2]
    exact (unpackGroups_no A len cap n w hg).mono fun e w' ⟨he, hb⟩ => ⟨_, he, hb, World.ownsRow_nil _ _ _ _⟩
  · obtain ⟨m, rfl⟩ := Int.eq_ofNat_of_zero_le (show 0 ≤ n by have := rg_true hg; omega)
    exact unpackGroups_in A len cap m bs w hl hc hb hg
end Go.Proofs.Ytafonjnanfekkaa.Lay
