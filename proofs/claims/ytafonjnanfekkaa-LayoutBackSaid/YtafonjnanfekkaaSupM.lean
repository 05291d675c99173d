
/-
  THE FIRST BLOCK, plain: which numbers may be, their bytes, what bytes say.
-/
import Derived.Test.YtafonjnanfekkaaLay1
namespace Go.Proofs.Ytafonjnanfekkaa.Lay
open Go.RowKit Go.Proofs.Ytafonjnanfekkaa.Wire
set_option linter.unusedVariables false
set_option linter.unusedSimpArgs false

def supOk (B P I J fb fi o m : Int) : Bool :=
  gok B P I J && (rg fb 0 (B - fixd B P I J) && (rg fi 0 (grp B P I J * I) && (rg o 0 (grp B P I J * I) && rg m 0 2147483647)))
def superL (B P I J fb fi o m : Int) (cl : Bool) : List Nat :=
  [1213813321, 1, B.toNat, P.toNat, I.toNat, J.toNat, fb.toNat, fi.toNat, o.toNat, m.toNat, if cl then 1 else 0]
def supB (B P I J fb fi o m : Int) (cl : Bool) : List UInt8 := if supOk B P I J fb fi o m = true then sealB 0#32 (packB (superL B P I J fb fi o m cl) superWs 256) else []
def supE (B P I J fb fi o m : Int) : Int := if supOk B P I J fb fi o m = true then 0 else 22
theorem fixd_le {B P I J : Int} (hg : gok B P I J = true) : 0 ≤ fixd B P I J ∧ fixd B P I J ≤ 4096 := by
  have G := Geo.of hg
  have h := fixd_eq hg ((grp B P I J).toNat) (by have := (grp_le B P I J).1; omega)
  have h2 := dsum_le hg ((grp B P I J).toNat) (by have := (grp_le B P I J).1; have := grp_yes hg; omega)
  have := G.b1; have := G.b2
  have h3 : 0 ≤ fixd B P I J := by
    rw [fixd, if_pos hg]
    have := Int.mul_nonneg (a := (B - 1) / P + 1) (b := 2 + I / 2) (by have := G.n1; omega) (by have := G.i1; omega)
    have := G.j1
    omega
  omega
/-- All numbers are none below 0, and go in. -/
theorem sup_nat {B P I J fb fi o m : Int} (hg : gok B P I J = true) (c1 : rg fb 0 (B - fixd B P I J) = true) (c2 : rg fi 0 (grp B P I J * I) = true) (c3 : rg o 0 (grp B P I J * I) = true) (c4 : rg m 0 2147483647 = true) :
    (0 ≤ B ∧ B ≤ 4096) ∧ (0 ≤ P ∧ P ≤ 2016) ∧ (0 ≤ I ∧ I ≤ 512) ∧ (0 ≤ J ∧ J ≤ 512) ∧ (0 ≤ fb ∧ fb ≤ 4096) ∧ (0 ≤ fi ∧ fi ≤ 7168) ∧ (0 ≤ o ∧ o ≤ 7168) ∧ (0 ≤ m ∧ m ≤ 2147483647) := by
  have G := Geo.of hg
  have i1 := G.i1; have i2 := G.i2; have bb1 := G.b1; have bb2 := G.b2; have pp1 := G.p1; have pp2 := G.p2; have jj1 := G.j1; have jj2 := G.j2
  obtain ⟨gr1, gr2⟩ : 1 ≤ grp B P I J ∧ grp B P I J ≤ 14 := by rw [grp_yes hg]; have := G.n1; have := G.n2; omega
  have m1 : grp B P I J * I ≤ 14 * 512 := Int.mul_le_mul gr2 i2 (by omega) (by omega)
  have f := fixd_le hg
  have := rg_true c1; have := rg_true c2; have := rg_true c3; have := rg_true c4
  omega
theorem supOk_parts {B P I J fb fi o m : Int} (h : supOk B P I J fb fi o m = true) : gok B P I J = true ∧ rg fb 0 (B - fixd B P I J) = true ∧ rg fi 0 (grp B P I J * I) = true ∧ rg o 0 (grp B P I J * I) = true ∧ rg m 0 2147483647 = true := by
  simp only [supOk, Bool.and_eq_true] at h
  exact h
theorem superL_ints {B P I J fb fi o m : Int} (cl : Bool) (z0 : 0 ≤ B) (z1 : 0 ≤ P) (z2 : 0 ≤ I) (z3 : 0 ≤ J) (z4 : 0 ≤ fb) (z5 : 0 ≤ fi) (z6 : 0 ≤ o) (z7 : 0 ≤ m) :
    ints ((superL B P I J fb fi o m cl).map fun (x : Nat) => (x : Int)) = ints [1213813321, 1, B, P, I, J, fb, fi, o, m, if cl then 1 else 0] := by
  simp only [superL, List.map_cons, List.map_nil, Int.toNat_of_nonneg z0, Int.toNat_of_nonneg z1, Int.toNat_of_nonneg z2, Int.toNat_of_nonneg z3, Int.toNat_of_nonneg z4, Int.toNat_of_nonneg z5, Int.toNat_of_nonneg z6, Int.toNat_of_nonneg z7]
  cases cl <;> rfl
theorem superL_le {B P I J fb fi o m : Int} (cl : Bool) (h : (0 ≤ B ∧ B ≤ 4096) ∧ (0 ≤ P ∧ P ≤ 2016) ∧ (0 ≤ I ∧ I ≤ 512) ∧ (0 ≤ J ∧ J ≤ 512) ∧ (0 ≤ fb ∧ fb ≤ 4096) ∧ (0 ≤ fi ∧ fi ≤ 7168) ∧ (0 ≤ o ∧ o ≤ 7168) ∧ (0 ≤ m ∧ m ≤ 2147483647)) :
    ∀ x ∈ superL B P I J fb fi o m cl, x ≤ 9223372036854775807 := by
  intro x hx
  simp only [superL, List.mem_cons, List.not_mem_nil, or_false] at hx
  rcases hx with rfl | rfl | rfl | rfl | rfl | rfl | rfl | rfl | rfl | rfl | rfl <;> first | omega | (split <;> omega)

/-- A number of a block. -/
def uf (bs : List UInt8) (p n : Int) : Int := (getX bs p n : Int)
def ucl (bs : List UInt8) : Bool := uf bs 38 1 == 1
theorem recs_super (bs : List UInt8) : recs bs 0 superWs = [uf bs 0 4, uf bs 4 2, uf bs 6 4, uf bs 10 4, uf bs 14 4, uf bs 18 4, uf bs 22 4, uf bs 26 4, uf bs 30 4, uf bs 34 4, uf bs 38 1] := by
  simp [recs, superWs, uf]
/-- Does a block say something of a disk? -/
def usOk (bs : List UInt8) : Bool :=
  supOk (uf bs 6 4) (uf bs 10 4) (uf bs 14 4) (uf bs 18 4) (uf bs 22 4) (uf bs 26 4) (uf bs 30 4) (uf bs 34 4) &&
    (bs == supB (uf bs 6 4) (uf bs 10 4) (uf bs 14 4) (uf bs 18 4) (uf bs 22 4) (uf bs 26 4) (uf bs 30 4) (uf bs 34 4) (ucl bs))
def usE (bs : List UInt8) : Int := if usOk bs = true then 0 else 117
def supV (B P I J fb fi o m : Int) (cl : Bool) : Value := .agg #[.int .i64 B, .int .i64 P, .int .i64 I, .int .i64 J, .int .i64 fb, .int .i64 fi, .int .i64 o, .int .i64 m, .bool cl]
def usV (bs : List UInt8) : Value := if usOk bs = true then supV (uf bs 6 4) (uf bs 10 4) (uf bs 14 4) (uf bs 18 4) (uf bs 22 4) (uf bs 26 4) (uf bs 30 4) (uf bs 34 4) (ucl bs) else supV 0 0 0 0 0 0 0 0 false
end Go.Proofs.Ytafonjnanfekkaa.Lay
