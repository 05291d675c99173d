
/-
  THE FIRST BLOCK, plain: which numbers may be, their bytes, what bytes say.
  THE WALK of layout.PackSuper.
  THE WALKS of the document's layer 4, the first block: number, superMay, PackSuper.
  THE FIRST BLOCK, plain, more: its length; the values that are told.
  THE WALK of the document's UnpackSuper.
  WHAT A FRAME HANDS OVER, more: structs by value.
  THE SECOND BLOCK, plain: which groups may be, their bytes, what bytes say.
  THE WALK of layout.PackGroups.
-/
import Derived.Test.YtifamhmiibhohaaKR5N5
import Derived.Test.YtifamhmiibhohaaKR5N3
import Derived.Test.YtifamhmiibhohaaKR5N4
import Derived.Test.YtifamhmiibhohaaKR5N2
import Derived.Test.YtifamhmiibhohaaProg
import Derived.ProofKit
import Derived.OpenShut
import Derived.Lib.SmallJoins
namespace Go.Proofs.Ytifamhmiibhohaa.Lay
open Go.RowKit Go.Proofs.Ytifamhmiibhohaa.Wire
set_option linter.unusedVariables false
set_option linter.unusedSimpArgs false

def supOk (B P I J fb fi o m : Int) : Bool :=
  gok B P I J && (rg fb 0 (B - fixd B P I J) && (rg fi 0 (grp B P I J * I) && (rg o 0 (grp B P I J * I) && rg m 0 2147483647)))
def superL (B P I J fb fi o m : Int) (cl : Bool) : List Nat :=
  [1213813321, 1, B.toNat, P.toNat, I.toNat, J.toNat, fb.toNat, fi.toNat, o.toNat, m.toNat, if cl then 1 else 0]
def supB (B P I J fb fi o m : Int) (cl : Bool) : List UInt8 := if supOk B P I J fb fi o m = true then sealB 0#32 (packB (superL B P I J fb fi o m cl) superWs 256) else []
def supE (B P I J fb fi o m : Int) : Int := if supOk B P I J fb fi o m = true then 0 else 22
theorem fixd_le {B P I J : Int} (hg : gok B P I J = true) : 0 ≤ fixd B P I J ∧ fixd B P I J ≤ 4096 := by
  have G := Geo.of hg
  have h := fixd_eq hg ((grp B P I J).toNat) (by have := (grp_le B P I J).1; omega)
  have h2 := dsum_le hg ((grp B P I J).toNat) (by have := (grp_le B P I J).1; have := grp_yes hg; omega)
  have := G.b1; have := G.b2
  have h3 : 0 ≤ fixd B P I J := by
    rw [fixd, if_pos hg]
    have := Int.mul_nonneg (a := (B - 1) / P + 1) (b := 2 + I / 2) (by have := G.n1; omega) (by have := G.i1; omega)
    have := G.j1
    omega
  omega
/-- All numbers are none below 0, and go in. -/
theorem sup_nat {B P I J fb fi o m : Int} (hg : gok B P I J = true) (c1 : rg fb 0 (B - fixd B P I J) = true) (c2 : rg fi 0 (grp B P I J * I) = true) (c3 : rg o 0 (grp B P I J * I) = true) (c4 : rg m 0 2147483647 = true) :
    (0 ≤ B ∧ B ≤ 4096) ∧ (0 ≤ P ∧ P ≤ 2016) ∧ (0 ≤ I ∧ I ≤ 512) ∧ (0 ≤ J ∧ J ≤ 512) ∧ (0 ≤ fb ∧ fb ≤ 4096) ∧ (0 ≤ fi ∧ fi ≤ 7168) ∧ (0 ≤ o ∧ o ≤ 7168) ∧ (0 ≤ m ∧ m ≤ 2147483647) := by
  have G := Geo.of hg
  have i1 := G.i1; have i2 := G.i2; have bb1 := G.b1; have bb2 := G.b2; have pp1 := G.p1; have pp2 := G.p2; have jj1 := G.j1; have jj2 := G.j2
  obtain ⟨gr1, gr2⟩ : 1 ≤ grp B P I J ∧ grp B P I J ≤ 14 := by rw [grp_yes hg]; have := G.n1; have := G.n2; omega
  have m1 : grp B P I J * I ≤ 14 * 512 := Int.mul_le_mul gr2 i2 (by omega) (by omega)
  have f := fixd_le hg
  have := rg_true c1; have := rg_true c2; have := rg_true c3; have := rg_true c4
  omega
theorem supOk_parts {B P I J fb fi o m : Int} (h : supOk B P I J fb fi o m = true) : gok B P I J = true ∧ rg fb 0 (B - fixd B P I J) = true ∧ rg fi 0 (grp B P I J * I) = true ∧ rg o 0 (grp B P I J * I) = true ∧ rg m 0 2147483647 = true := by
  simp only [supOk, Bool.and_eq_true] at h
  exact h
theorem superL_ints {B P I J fb fi o m : Int} (cl : Bool) (z0 : 0 ≤ B) (z1 : 0 ≤ P) (z2 : 0 ≤ I) (z3 : 0 ≤ J) (z4 : 0 ≤ fb) (z5 : 0 ≤ fi) (z6 : 0 ≤ o) (z7 : 0 ≤ m) :
    ints ((superL B P I J fb fi o m cl).map fun (x : Nat) => (x : Int)) = ints [1213813321, 1, B, P, I, J, fb, fi, o, m, if cl then 1 else 0] := by
  simp only [superL, List.map_cons, List.map_nil, Int.toNat_of_nonneg z0, Int.toNat_of_nonneg z1, Int.toNat_of_nonneg z2, Int.toNat_of_nonneg z3, Int.toNat_of_nonneg z4, Int.toNat_of_nonneg z5, Int.toNat_of_nonneg z6, Int.toNat_of_nonneg z7]
  cases cl <;> rfl
theorem superL_le {B P I J fb fi o m : Int} (cl : Bool) (h : (0 ≤ B ∧ B ≤ 4096) ∧ (0 ≤ P ∧ P ≤ 2016) ∧ (0 ≤ I ∧ I ≤ 512) ∧ (0 ≤ J ∧ J ≤ 512) ∧ (0 ≤ fb ∧ fb ≤ 4096) ∧ (0 ≤ fi ∧ fi ≤ 7168) ∧ (0 ≤ o ∧ o ≤ 7168) ∧ (0 ≤ m ∧ m ≤ 2147483647)) :
    ∀ x ∈ superL B P I J fb fi o m cl, x ≤ 9223372036854775807 := by
  intro x hx
  simp only [superL, List.mem_cons, List.not_mem_nil, or_false] at hx
  rcases hx with rfl | rfl | rfl | rfl | rfl | rfl | rfl | rfl | rfl | rfl | rfl <;> first | omega | (split <;> omega)

/-- A number of a block. -/
def uf (bs : List UInt8) (p n : Int) : Int := (getX bs p n : Int)
def ucl (bs : List UInt8) : Bool := uf bs 38 1 == 1
theorem recs_super (bs : List UInt8) : recs bs 0 superWs = [uf bs 0 4, uf bs 4 2, uf bs 6 4, uf bs 10 4, uf bs 14 4, uf bs 18 4, uf bs 22 4, uf bs 26 4, uf bs 30 4, uf bs 34 4, uf bs 38 1] := by
  simp [recs, superWs, uf]
/-- Does a block say something of a disk? -/
def usOk (bs : List UInt8) : Bool :=
  supOk (uf bs 6 4) (uf bs 10 4) (uf bs 14 4) (uf bs 18 4) (uf bs 22 4) (uf bs 26 4) (uf bs 30 4) (uf bs 34 4) &&
    (bs == supB (uf bs 6 4) (uf bs 10 4) (uf bs 14 4) (uf bs 18 4) (uf bs 22 4) (uf bs 26 4) (uf bs 30 4) (uf bs 34 4) (ucl bs))
def usE (bs : List UInt8) : Int := if usOk bs = true then 0 else 117
def supV (B P I J fb fi o m : Int) (cl : Bool) : Value := .agg #[.int .i64 B, .int .i64 P, .int .i64 I, .int .i64 J, .int .i64 fb, .int .i64 fi, .int .i64 o, .int .i64 m, .bool cl]
def usV (bs : List UInt8) : Value := if usOk bs = true then supV (uf bs 6 4) (uf bs 10 4) (uf bs 14 4) (uf bs 18 4) (uf bs 22 4) (uf bs 26 4) (uf bs 30 4) (uf bs 34 4) (ucl bs) else supV 0 0 0 0 0 0 0 0 false
end Go.Proofs.Ytifamhmiibhohaa.Lay

namespace Go.Proofs.Ytifamhmiibhohaa.Lay
open Go.RowKit Go.Proofs.Ytifamhmiibhohaa.Wire
set_option maxHeartbeats 8000000
set_option maxRecDepth 100000
set_option linter.unusedVariables false
set_option linter.unusedSimpArgs false

theorem boxes2 (w : World) (c0 c1 : Array Value) (t0 t1 : TypeId) (W : World) (hW : (w.alloc (.cells c0 t0)).alloc (.cells c1 t1) = W) :
    Blk W w.heap.size t0 c0 ∧ Blk W (w.heap.size + 1) t1 c1 ∧ Below w.heap.size w W ∧ W.heap.size = w.heap.size + 1 + 1 := by
  subst hW
  refine ⟨(Blk.new w t0 c0).alloc _, ?_, ?_, by simp⟩
  · have := Blk.new (w.alloc (.cells c0 t0)) t1 c1
    simpa using this
  · exact ((Below.refl w.heap.size w).alloc (Nat.le_refl _) _).alloc (by simp) _

end Go.Proofs.Ytifamhmiibhohaa.Lay

namespace Go.Proofs.Ytifamhmiibhohaa.Lay
open Go.RowKit Go.Proofs.Ytifamhmiibhohaa.Wire
set_option maxHeartbeats 8000000
set_option maxRecDepth 100000
set_option linter.unusedVariables false
set_option linter.unusedSimpArgs false

theorem superL_u64 {B P I J fb fi o m : Int} (cl : Bool) (z0 : 0 ≤ B) (z1 : 0 ≤ P) (z2 : 0 ≤ I) (z3 : 0 ≤ J) (z4 : 0 ≤ fb) (z5 : 0 ≤ fi) (z6 : 0 ≤ o) (z7 : 0 ≤ m) :
    nums (superL B P I J fb fi o m cl) = [.int .u64 1213813321, .int .u64 1, .int .u64 B, .int .u64 P, .int .u64 I, .int .u64 J, .int .u64 fb, .int .u64 fi, .int .u64 o, .int .u64 m, .int .u64 (if cl then 1 else 0)] := by
  simp only [superL, nums, List.map_cons, List.map_nil, Int.toNat_of_nonneg z0, Int.toNat_of_nonneg z1, Int.toNat_of_nonneg z2, Int.toNat_of_nonneg z3, Int.toNat_of_nonneg z4, Int.toNat_of_nonneg z5, Int.toNat_of_nonneg z6, Int.toNat_of_nonneg z7]
  cases cl <;> rfl
end Go.Proofs.Ytifamhmiibhohaa.Lay

namespace Go.Proofs.Ytifamhmiibhohaa.Lay
open Go.RowKit Go.Proofs.Ytifamhmiibhohaa.Wire
set_option linter.unusedVariables false
set_option linter.unusedSimpArgs false

theorem zip_fits {l : List Nat} {ws : List Int} (h : ∀ p ∈ l.zip ws, p.1 < 256 ^ p.2.toNat) : ∀ (k x : Nat) (z : Int), l[k]? = some x → ws[k]? = some z → x < 256 ^ z.toNat := fun k x z hx hz => by
  have : (l.zip ws)[k]? = some (x, z) := by rw [List.getElem?_zip_eq_some]; exact ⟨hx, hz⟩
  exact h _ (List.mem_of_getElem? this)
theorem packB_full {l : List Nat} {ws : List Int} {size : Int} (hm : pmay l ws size = true) (h : ∀ p ∈ l.zip ws, p.1 < 256 ^ p.2.toNat) (hs : 0 ≤ size) :
    packE l ws size = 0 ∧ packB l ws size = pre l ws l.length ++ List.replicate (size.toNat - (pre l ws l.length).length) 0 ∧ (packB l ws size).length = size.toNat := by
  have hm' := hm
  simp only [pmay, Bool.and_eq_true, decide_eq_true_eq] at hm'
  obtain ⟨m1, m2, m3, m4⟩ := hm'
  have hp := packs_some l ws m1 (zip_fits h)
  have hpl := pre_length l ws l.length m1 m2
  rw [m1, List.take_length, ← m1] at hpl
  have e1 : packE l ws size = 0 := by simp [packE, hm, hp]
  have e2 : packB l ws size = pre l ws l.length ++ List.replicate (size.toNat - (pre l ws l.length).length) 0 := by simp [packB, hm, hp]
  refine ⟨e1, e2, ?_⟩
  rw [e2]
  simp
  omega
theorem super_zip {B P I J fb fi o m : Int} {cl : Bool} (h : (0 ≤ B ∧ B ≤ 4096) ∧ (0 ≤ P ∧ P ≤ 2016) ∧ (0 ≤ I ∧ I ≤ 512) ∧ (0 ≤ J ∧ J ≤ 512) ∧ (0 ≤ fb ∧ fb ≤ 4096) ∧ (0 ≤ fi ∧ fi ≤ 7168) ∧ (0 ≤ o ∧ o ≤ 7168) ∧ (0 ≤ m ∧ m ≤ 2147483647)) :
    ∀ p ∈ (superL B P I J fb fi o m cl).zip superWs, p.1 < 256 ^ p.2.toNat := by
  intro p hp
  simp only [superL, superWs, List.zip_cons_cons, List.zip_nil_right, List.mem_cons, List.not_mem_nil, or_false] at hp
  rcases hp with rfl | rfl | rfl | rfl | rfl | rfl | rfl | rfl | rfl | rfl | rfl
  all_goals simp only [show Int.toNat 4 = 4 from rfl, show Int.toNat 2 = 2 from rfl, show Int.toNat 1 = 1 from rfl]
  all_goals first | omega | (split <;> omega)
theorem super_may (B P I J fb fi o m : Int) (cl : Bool) : pmay (superL B P I J fb fi o m cl) superWs 256 = true := by
  have h1 : (superL B P I J fb fi o m cl).length = superWs.length := rfl
  have h2 : wok superWs = true := by decide
  have h3 : superWs.sum ≤ 256 := by decide
  simp [pmay, h1, h2, h3]
theorem supB_len {B P I J fb fi o m : Int} {cl : Bool} (hok : supOk B P I J fb fi o m = true) : (supB B P I J fb fi o m cl).length = 256 := by
  obtain ⟨hg, c1, c2, c3, c4⟩ := supOk_parts hok
  rw [supB, if_pos hok, sealB_length, (packB_full (super_may B P I J fb fi o m cl) (super_zip (sup_nat hg c1 c2 c3 c4)) (by omega)).2.2]
  rfl
theorem usOk_len {bs : List UInt8} (h : usOk bs = true) : bs.length = 256 := by
  simp only [usOk, Bool.and_eq_true, beq_iff_eq] at h
  have := supB_len (cl := ucl bs) h.1
  rw [← h.2] at this
  exact this
theorem uf_byte {bs : List UInt8} {p : Nat} {c : UInt8} (h : bs[p]? = some c) : uf bs p 1 = (c.toNat : Int) := by
  have hl := (List.getElem?_eq_some_iff.1 h).1
  have hf : fits bs.length (p : Int) 1 = true := fits_mk (by omega) (by omega) (by omega) (by omega)
  have hd : bs.drop p = c :: bs.drop (p + 1) := by rw [List.drop_eq_getElem_cons hl]; congr 1; exact (List.getElem?_eq_some_iff.1 h).2
  have e : (sub bs (p : Int) 1) = [c] := by
    rw [sub, Int.toNat_natCast, hd]; rfl
  show ((getX bs (p : Int) 1 : Nat) : Int) = _
  rw [getX, if_pos hf, e]
  simp [num]
theorem usV_agg (bs : List UInt8) : ∃ (x0 x1 x2 x3 x4 x5 x6 x7 : Int) (c : Bool), usV bs = .agg #[.int .i64 x0, .int .i64 x1, .int .i64 x2, .int .i64 x3, .int .i64 x4, .int .i64 x5, .int .i64 x6, .int .i64 x7, .bool c] := by
  unfold usV
  split
  · exact ⟨_, _, _, _, _, _, _, _, _, rfl⟩
  · exact ⟨_, _, _, _, _, _, _, _, _, rfl⟩
end Go.Proofs.Ytifamhmiibhohaa.Lay

namespace Go.Proofs.Ytifamhmiibhohaa.Lay
open Go.RowKit Go.Proofs.Ytifamhmiibhohaa.Wire
set_option maxHeartbeats 8000000
set_option maxRecDepth 100000
set_option linter.unusedVariables false
set_option linter.unusedSimpArgs false

end Go.Proofs.Ytifamhmiibhohaa.Lay

namespace Go.Proofs.Ytifamhmiibhohaa
open Go.ChangeShapes Go.WideShapes Go.ChangeAt Go.RowKit Go.Joins
set_option maxRecDepth 100000
set_option linter.unusedVariables false
set_option linter.unusedSimpArgs false
section
variable {H : Type} {enc : TypeId × Value → H} {w : World} {base : Nat} {spare : Nat → Bool} {held : Bool}
theorem some_at {α : Type} {xs : List α} {n : Nat} (h : xs.length = n) (i : Nat) (hi : i < n) : ∃ y, xs[i]? = some y := ⟨_, List.getElem?_eq_getElem (by omega)⟩
theorem one_int {n : Nat} {c : Value} {y : DataW H × List MemPlace} (h : DataW.trod enc Try.prog w base spare held n 3 [c] = some y) : ∃ k : Int, c = .int .i64 k ∧ (Lit.int .i64 k).wf = true := by
  obtain ⟨k, hk, _, hw⟩ := DataW.trod_int Try.underlying3 h
  simp at hk
  exact ⟨k, hk, hw⟩
theorem one_bool {n : Nat} {c : Value} {y : DataW H × List MemPlace} (h : DataW.trod enc Try.prog w base spare held n 4 [c] = some y) : ∃ k : Bool, c = .bool k := by
  obtain ⟨k, hk, _⟩ := DataW.trod_bool Try.underlying4 h
  simp at hk
  exact ⟨k, hk⟩
theorem cells_int : Try.prog.cellsOf 3 = 1 := by kernel_rfl
theorem cells_bool : Try.prog.cellsOf 4 = 1 := by kernel_rfl
end
end Go.Proofs.Ytifamhmiibhohaa

namespace Go.Proofs.Ytifamhmiibhohaa.Lay
open Go.RowKit Go.Proofs.Ytifamhmiibhohaa.Wire
set_option linter.unusedVariables false
set_option linter.unusedSimpArgs false

abbrev Grp := Int × Int × Int
def gcells (gs : List Grp) : List Value := gs.flatMap fun g => [.int .i64 g.1, .int .i64 g.2.1, .int .i64 g.2.2]
theorem gcells_length (gs : List Grp) : (gcells gs).length = gs.length * 3 := by
  induction gs with
  | nil => rfl
  | cons g gs ih => simp only [gcells, List.flatMap_cons, List.length_append, List.length_cons, List.length_nil] at ih ⊢; omega
theorem flat3_at {α β : Type} (f0 f1 f2 : α → β) : ∀ (gs : List α) (k : Nat) (g : α), gs[k]? = some g →
    (gs.flatMap fun g => [f0 g, f1 g, f2 g])[k * 3]? = some (f0 g) ∧ (gs.flatMap fun g => [f0 g, f1 g, f2 g])[k * 3 + 1]? = some (f1 g) ∧ (gs.flatMap fun g => [f0 g, f1 g, f2 g])[k * 3 + 2]? = some (f2 g)
  | [], k, g, h => by simp at h
  | x :: gs, 0, g, h => by simp at h; subst h; simp
  | x :: gs, k + 1, g, h => by
    have := flat3_at f0 f1 f2 gs k g (by simpa using h)
    rw [show (k + 1) * 3 = k * 3 + 3 by omega]
    simpa [List.flatMap_cons] using this
theorem gcells_at {gs : List Grp} {k : Nat} {g : Grp} (h : gs[k]? = some g) : (gcells gs)[k * 3]? = some (.int .i64 g.1) ∧ (gcells gs)[k * 3 + 1]? = some (.int .i64 g.2.1) ∧ (gcells gs)[k * 3 + 2]? = some (.int .i64 g.2.2) :=
  flat3_at _ _ _ gs k g h
theorem gcells_snoc (gs : List Grp) (g : Grp) : gcells (gs ++ [g]) = gcells gs ++ [.int .i64 g.1, .int .i64 g.2.1, .int .i64 g.2.2] := by simp [gcells]
theorem one_gcells (gs : List Grp) : ∀ u ∈ gcells gs, u.oneCell' = true := fun u hu => by
  simp only [gcells, List.mem_flatMap] at hu
  obtain ⟨g, _, hu⟩ := hu
  simp at hu
  rcases hu with rfl | rfl | rfl <;> rfl

def gOk1 (g : Grp) : Bool := rg g.1 0 65535 && (rg g.2.1 0 65535 && rg g.2.2 0 65535)
def gsOk (gs : List Grp) : Bool := rg gs.length 1 14 && gs.all gOk1
def gL (gs : List Grp) : List Nat := gs.flatMap fun g => [g.1.toNat, g.2.1.toNat, g.2.2.toNat]
def gWs (n : Nat) : List Int := List.replicate (3 * n) 4
def gB (gs : List Grp) : List UInt8 := if gsOk gs = true then sealB 1#32 (packB (gL gs) (gWs gs.length) 256) else []
def gE (gs : List Grp) : Int := if gsOk gs = true then 0 else 22
theorem gL_length (gs : List Grp) : (gL gs).length = 3 * gs.length := by
  induction gs with
  | nil => rfl
  | cons g gs ih => simp only [gL, List.flatMap_cons, List.length_append, List.length_cons, List.length_nil] at ih ⊢; omega
theorem gL_snoc (gs : List Grp) (g : Grp) : gL (gs ++ [g]) = gL gs ++ [g.1.toNat, g.2.1.toNat, g.2.2.toNat] := by simp [gL]
theorem gOk1_parts {g : Grp} (h : gOk1 g = true) : (0 ≤ g.1 ∧ g.1 ≤ 65535) ∧ (0 ≤ g.2.1 ∧ g.2.1 ≤ 65535) ∧ (0 ≤ g.2.2 ∧ g.2.2 ≤ 65535) := by
  simp only [gOk1, Bool.and_eq_true] at h
  exact ⟨rg_true h.1, rg_true h.2.1, rg_true h.2.2⟩
theorem gL_le {gs : List Grp} (h : gs.all gOk1 = true) : ∀ x ∈ gL gs, x ≤ 65535 := fun x hx => by
  simp only [gL, List.mem_flatMap] at hx
  obtain ⟨g, hg, hx⟩ := hx
  have := gOk1_parts (List.all_eq_true.1 h g hg)
  simp at hx
  omega
theorem gWs_wok (n : Nat) : wok (gWs n) = true := by
  simp only [wok, gWs, List.all_eq_true, List.mem_replicate]
  rintro x ⟨_, rfl⟩
  rfl
theorem gWs_four (n : Nat) : ∀ z ∈ gWs n, z ≤ 4 := fun z hz => by
  simp only [gWs, List.mem_replicate] at hz
  omega
theorem gWs_sum (n : Nat) : (gWs n).sum = 12 * (n : Int) := by
  have : ∀ m : Nat, (List.replicate m (4 : Int)).sum = 4 * (m : Int) := fun m => by
    induction m with
    | zero => rfl
    | succ m ih => rw [List.replicate_succ, List.sum_cons, ih]; omega
  rw [gWs, this]; omega
theorem gB_len {gs : List Grp} (h : gsOk gs = true) : (gB gs).length = 256 := by
  have h' := h
  simp only [gsOk, Bool.and_eq_true] at h'
  obtain ⟨hn1, hn2⟩ := rg_true h'.1
  have hm : pmay (gL gs) (gWs gs.length) 256 = true := by
    have h1 : (gL gs).length = (gWs gs.length).length := by rw [gL_length]; simp [gWs]
    have h2 := gWs_wok gs.length
    have h3 : (gWs gs.length).sum ≤ 256 := by rw [gWs_sum]; omega
    simp [pmay, h1, h2, h3]
  have hz : ∀ p ∈ (gL gs).zip (gWs gs.length), p.1 < 256 ^ p.2.toNat := fun p hp => by
    obtain ⟨h1, h2⟩ := List.of_mem_zip (a := p.1) (b := p.2) hp
    have h3 := gL_le h'.2 _ h1
    simp only [gWs, List.mem_replicate] at h2
    rw [h2.2]
    show p.1 < 256 ^ 4
    omega
  rw [gB, if_pos h, sealB_length, (packB_full hm hz (by omega)).2.2]
  rfl

/-- What a block says of n groups. -/
def ugs (bs : List UInt8) (n : Nat) : List Grp := (List.range n).map fun (i : Nat) => (uf bs (12 * (i : Int)) 4, uf bs (12 * (i : Int) + 4) 4, uf bs (12 * (i : Int) + 8) 4)
theorem ugs_length (bs : List UInt8) (n : Nat) : (ugs bs n).length = n := by simp [ugs]
theorem ugs_at {bs : List UInt8} {n k : Nat} (h : k < n) : (ugs bs n)[k]? = some (uf bs (12 * (k : Int)) 4, uf bs (12 * (k : Int) + 4) 4, uf bs (12 * (k : Int) + 8) 4) := by
  simp [ugs, h]
theorem recs_four (bs : List UInt8) (m j : Nat) (h : j < m) : (recs bs 0 (List.replicate m 4))[j]? = some (uf bs (4 * (j : Int)) 4) := by
  have := recs_at bs (List.replicate m 4) 0 j 4 (by simp [h])
  rw [this]
  have hs : ∀ q : Nat, (List.replicate q (4 : Int)).sum = 4 * (q : Int) := fun q => by
    induction q with
    | zero => rfl
    | succ q ih => rw [List.replicate_succ, List.sum_cons, ih]; omega
  rw [List.take_replicate, hs, Nat.min_eq_left (by omega), Int.zero_add]
  rfl
def ugOk (bs : List UInt8) (n : Int) : Bool := rg n 1 14 && (gsOk (ugs bs n.toNat) && (bs == gB (ugs bs n.toNat)))
def ugE (bs : List UInt8) (n : Int) : Int := if rg n 1 14 = true then (if ugOk bs n = true then 0 else 117) else 22
def ugX (bs : List UInt8) (n : Int) : List Grp := if ugOk bs n = true then ugs bs n.toNat else []
theorem ugOk_len {bs : List UInt8} {n : Int} (h : ugOk bs n = true) : bs.length = 256 := by
  simp only [ugOk, Bool.and_eq_true, beq_iff_eq] at h
  rw [h.2.2]
  exact gB_len h.2.1
end Go.Proofs.Ytifamhmiibhohaa.Lay

namespace Go.Proofs.Ytifamhmiibhohaa.Lay
open Go.RowKit Go.Proofs.Ytifamhmiibhohaa.Wire
set_option maxHeartbeats 8000000
set_option maxRecDepth 100000
set_option linter.unusedVariables false
set_option linter.unusedSimpArgs false

theorem row_spot {w : World} {a : Addr} {n : Nat} {vs : List Value} (h : RowAt w (some a) n vs) (hn : 0 < n) : a.spot = none := by
  obtain ⟨a', u, e, _, hc⟩ := h.at_ hn
  obtain rfl : a = a' := by simpa using e
  rw [show a.add 0 = a by unfold Addr.add; simp] at hc
  exact World.cell?_spot hc
/-- A group's three cells. -/
def GrpAt (w : World) (p : Addr) (g : Grp) : Prop :=
  w.cell? p = some (.int .i64 g.1) ∧ w.cell? ⟨p.block, p.off + 1, none⟩ = some (.int .i64 g.2.1) ∧ w.cell? ⟨p.block, p.off + 2, none⟩ = some (.int .i64 g.2.2)
theorem GrpAt.below {w w' : World} {p : Addr} {g : Grp} {B : Nat} (h : GrpAt w p g) (hb : Below B w w') (hlt : p.block < B) : GrpAt w' p g :=
  ⟨(hb.cell hlt).trans h.1, (hb.cell (p := ⟨p.block, p.off + 1, none⟩) hlt).trans h.2.1, (hb.cell (p := ⟨p.block, p.off + 2, none⟩) hlt).trans h.2.2⟩
theorem grp_cells {w : World} {A : Option Addr} {n : Nat} {gs : List Grp} (h : RowAt w A (n * 3) (gcells gs)) {k : Nat} {g : Grp} (hg : gs[k]? = some g) :
    ∃ a, A = some a ∧ a.block < w.heap.size ∧ (a.add (k * 3)).block < w.heap.size ∧ GrpAt w (a.add (k * 3)) g := by
  obtain ⟨h0, h1, h2⟩ := gcells_at hg
  have hk : k < gs.length := (List.getElem?_eq_some_iff.1 hg).1
  have hl := h.len
  rw [gcells_length] at hl
  obtain ⟨a, rfl, hc⟩ := h.2 (by omega)
  have hs := row_spot h (by omega)
  have e0 := hc _ _ h0
  have e1 := hc _ _ h1
  have e2 := hc _ _ h2
  have hb := World.block_lt_of_cell? w _ e0
  refine ⟨a, rfl, by rwa [block_of_add] at hb, hb, e0, ?_, ?_⟩
  · rw [add_spot hs] at e1 ⊢; exact e1
  · rw [add_spot hs] at e2 ⊢; exact e2

end Go.Proofs.Ytifamhmiibhohaa.Lay
