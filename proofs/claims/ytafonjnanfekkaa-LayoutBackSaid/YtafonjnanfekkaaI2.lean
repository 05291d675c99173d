
/-
  WHAT A FRAME HANDS OVER, more: structs by value.
-/
import Derived.Test.YtafonjnanfekkaaProg
import Derived.Test.YtafonjnanfekkaaI
import Derived.ProofKit
import Derived.OpenShut
import Derived.Lib.SmallJoins
namespace Go.Proofs.Ytafonjnanfekkaa
open Go.ChangeShapes Go.WideShapes Go.ChangeAt Go.RowKit Go.Joins
set_option maxRecDepth 100000
set_option linter.unusedVariables false
set_option linter.unusedSimpArgs false
section
variable {H : Type} {enc : TypeId × Value → H} {w : World} {base : Nat} {spare : Nat → Bool} {held : Bool}
theorem some_at {α : Type} {xs : List α} {n : Nat} (h : xs.length = n) (i : Nat) (hi : i < n) : ∃ y, xs[i]? = some y := ⟨_, List.getElem?_eq_getElem (by omega)⟩
theorem one_int {n : Nat} {c : Value} {y : DataW H × List MemPlace} (h : DataW.trod enc Try.prog w base spare held n 3 [c] = some y) : ∃ k : Int, c = .int .i64 k ∧ (Lit.int .i64 k).wf = true := by
  obtain ⟨k, hk, _, hw⟩ := DataW.trod_int Try.underlying3 h
  simp at hk
  exact ⟨k, hk, hw⟩
theorem one_bool {n : Nat} {c : Value} {y : DataW H × List MemPlace} (h : DataW.trod enc Try.prog w base spare held n 4 [c] = some y) : ∃ k : Bool, c = .bool k := by
  obtain ⟨k, hk, _⟩ := DataW.trod_bool Try.underlying4 h
  simp at hk
  exact ⟨k, hk⟩
theorem cells_super : Try.prog.cellsOf 39 = 9 := by kernel_rfl
theorem cells_geo : Try.prog.cellsOf 37 = 4 := by kernel_rfl
theorem cells_int : Try.prog.cellsOf 3 = 1 := by kernel_rfl
theorem cells_bool : Try.prog.cellsOf 4 = 1 := by kernel_rfl
theorem open_super {r : Reach} {b0 : Nat} {v : Value} {d : DataW H} {p : List MemPlace} (hv : Value.okWide Try.prog w r b0 39 v) (h : DataW.Trod enc Try.prog w base spare held 39 v d p) :
    ∃ (B P I J fb fi o m : Int) (cl : Bool), v = .agg #[.int .i64 B, .int .i64 P, .int .i64 I, .int .i64 J, .int .i64 fb, .int .i64 fi, .int .i64 o, .int .i64 m, .bool cl] := by
  obtain ⟨cs, rfl, hsz⟩ := okWide_struct Try.underlying39 hv
  rw [cells_super] at hsz
  obtain ⟨l⟩ := cs
  match l, hsz with
  | [c0, c1, c2, c3, c4, c5, c6, c7, c8], _ =>
    obtain ⟨fuel, hf⟩ := h
    obtain ⟨xs, n, _, hx, _, hlen, hg⟩ := DataW.trod_struct Try.underlying39 hf
    have hl : xs.length = 6 := hlen
    obtain ⟨y0, e0⟩ := some_at hl 0 (by omega)
    obtain ⟨y1, e1⟩ := some_at hl 1 (by omega)
    obtain ⟨y2, e2⟩ := some_at hl 2 (by omega)
    obtain ⟨y3, e3⟩ := some_at hl 3 (by omega)
    obtain ⟨y4, e4⟩ := some_at hl 4 (by omega)
    obtain ⟨y5, e5⟩ := some_at hl 5 (by omega)
    have g0 := hg 0 _ rfl
    have g1 := hg 1 _ rfl
    have g2 := hg 2 _ rfl
    have g3 := hg 3 _ rfl
    have g4 := hg 4 _ rfl
    have g5 := hg 5 _ rfl
    simp only [cells_geo, cells_int, cells_bool, e0, e1, e2, e3, e4, e5, Value.cells, List.drop_succ_cons, List.drop_zero, List.take_succ_cons, List.take_zero] at g0 g1 g2 g3 g4 g5
    obtain ⟨ys, n', _, hy, _, hlen', hg'⟩ := DataW.trod_struct Try.underlying37 g0
    have hl' : ys.length = 4 := hlen'
    obtain ⟨z0, f0⟩ := some_at hl' 0 (by omega)
    obtain ⟨z1, f1⟩ := some_at hl' 1 (by omega)
    obtain ⟨z2, f2⟩ := some_at hl' 2 (by omega)
    obtain ⟨z3, f3⟩ := some_at hl' 3 (by omega)
    have k0 := hg' 0 _ rfl
    have k1 := hg' 1 _ rfl
    have k2 := hg' 2 _ rfl
    have k3 := hg' 3 _ rfl
    simp only [cells_int, f0, f1, f2, f3, List.drop_succ_cons, List.drop_zero, List.take_succ_cons, List.take_zero] at k0 k1 k2 k3
    obtain ⟨B, rfl, _⟩ := one_int k0
    obtain ⟨P, rfl, _⟩ := one_int k1
    obtain ⟨I, rfl, _⟩ := one_int k2
    obtain ⟨J, rfl, _⟩ := one_int k3
    obtain ⟨fb, rfl, _⟩ := one_int g1
    obtain ⟨fi, rfl, _⟩ := one_int g2
    obtain ⟨o, rfl, _⟩ := one_int g3
    obtain ⟨m, rfl, _⟩ := one_int g4
    obtain ⟨cl, rfl⟩ := one_bool g5
    exact ⟨B, P, I, J, fb, fi, o, m, cl, rfl⟩
end
end Go.Proofs.Ytafonjnanfekkaa
