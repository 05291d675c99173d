
/-
  WHAT A FRAME HANDS OVER, more: rows of structs.
-/
import Derived.Test.YtafonjnanfekkaaI2
import Derived.Test.YtafonjnanfekkaaGrpM
import Derived.Deep.Slices
namespace Go.Proofs.Ytafonjnanfekkaa
open Go.ChangeShapes Go.WideShapes Go.ChangeAt Go.RowKit Go.Joins
set_option maxRecDepth 100000
set_option linter.unusedVariables false
set_option linter.unusedSimpArgs false
/-- A list out of what there is at each place. -/
theorem list_of {α : Type} {R : Nat → α → Prop} : ∀ (n : Nat), (∀ i, i < n → ∃ g, R i g) → ∃ gs : List α, gs.length = n ∧ ∀ i g, gs[i]? = some g → R i g
  | 0, _ => ⟨[], rfl, fun i g h => by simp at h⟩
  | n + 1, h => by
    obtain ⟨gs, hl, hg⟩ := list_of n (fun i hi => h i (by omega))
    obtain ⟨g, hr⟩ := h n (by omega)
    refine ⟨gs ++ [g], by simp [hl], fun i x hx => ?_⟩
    by_cases hi : i < n
    · rw [List.getElem?_append_left (by omega)] at hx
      exact hg i x hx
    · rw [List.getElem?_append_right (by omega)] at hx
      have hin : i - gs.length = 0 := by
        have := (List.getElem?_eq_some_iff.1 hx).1
        simp at this; omega
      have : i = n := by omega
      subst this
      rw [hin] at hx
      simp at hx
      subst hx
      exact hr
section
variable {H : Type} {enc : TypeId × Value → H} {w : World} {base : Nat} {spare : Nat → Bool} {held : Bool}
theorem cells_group : Try.prog.cellsOf 108 = 3 := by kernel_rfl
theorem group_ints {n : Nat} {cs : List Value} {y : DataW H × List MemPlace} (h : DataW.trod enc Try.prog w base spare held n 108 cs = some y) : ∃ x y z : Int, cs = [.int .i64 x, .int .i64 y, .int .i64 z] := by
  obtain ⟨xs, n', _, hx, hlc, hlen, hg⟩ := DataW.trod_struct Try.underlying108 h
  rw [cells_group] at hlc
  match cs, hlc with
  | [c0, c1, c2], _ =>
    have hl : xs.length = 3 := hlen
    obtain ⟨z0, f0⟩ := some_at hl 0 (by omega)
    obtain ⟨z1, f1⟩ := some_at hl 1 (by omega)
    obtain ⟨z2, f2⟩ := some_at hl 2 (by omega)
    have k0 := hg 0 _ rfl
    have k1 := hg 1 _ rfl
    have k2 := hg 2 _ rfl
    simp only [cells_int, f0, f1, f2, List.drop_succ_cons, List.drop_zero, List.take_succ_cons, List.take_zero] at k0 k1 k2
    obtain ⟨x, rfl, _⟩ := one_int k0
    obtain ⟨y, rfl, _⟩ := one_int k1
    obtain ⟨z, rfl, _⟩ := one_int k2
    exact ⟨x, y, z, rfl⟩
theorem open_groups {r : Reach} {b0 : Nat} {v : Value} {d : DataW H} {p : List MemPlace} (hv : Value.okWide Try.prog w r b0 45 v) (h : DataW.Trod enc Try.prog w base spare held 45 v d p) :
    ∃ (A : Option Addr) (len cap : Nat) (gs : List Lay.Grp), v = .slice A len cap ∧ RowAt w A (len * 3) (Lay.gcells gs) ∧ len ≤ cap ∧ cap ≤ maxLen := by
  obtain ⟨a, len, cap, rfl⟩ := okWide_slice Try.underlying45 hv
  obtain ⟨fuel, hf⟩ := h
  rcases Go.Deep.open_slice Try.underlying45 hf with ⟨hcs, _⟩ | ⟨a', len', cap', m, n, D, Pl, hcs, _, hl, hm, hmm, _, hi⟩
  · simp [Value.cells] at hcs
    obtain ⟨rfl, rfl, rfl⟩ := hcs
    exact ⟨none, 0, 0, [], rfl, RowAt.nil_ _ _, Nat.le_refl _, by unfold maxLen; omega⟩
  · simp [Value.cells] at hcs
    obtain ⟨rfl, rfl, rfl⟩ := hcs
    have hml : len ≤ m := by rw [hmm]; split <;> omega
    obtain ⟨gs, hgl, hg⟩ := list_of (R := fun i (g : Lay.Grp) => w.cell? (a'.add (i * 3)) = some (.int .i64 g.1) ∧ w.cell? (a'.add (i * 3 + 1)) = some (.int .i64 g.2.1) ∧ w.cell? (a'.add (i * 3 + 2)) = some (.int .i64 g.2.2)) len (fun i hil => by
      obtain ⟨cs', hc, ht⟩ := hi i (by omega)
      rw [cells_group] at hc
      obtain ⟨x, y, z, rfl⟩ := group_ints ht
      obtain ⟨_, _, hat⟩ := World.cells?_some hc
      have e0 := hat 0 (by omega)
      have e1 := hat 1 (by omega)
      have e2 := hat 2 (by omega)
      rw [add_of_add] at e0 e1 e2
      exact ⟨(x, y, z), e0, e1, e2⟩)
    refine ⟨some a', len, cap, gs, rfl, ⟨by rw [Lay.gcells_length, hgl], fun hn => ⟨a', rfl, fun j u hu => ?_⟩⟩, hl, hm⟩
    have hj : j < gs.length * 3 := by
      have := (List.getElem?_eq_some_iff.1 hu).1
      rwa [Lay.gcells_length] at this
    obtain ⟨g, hgk⟩ : ∃ g, gs[j / 3]? = some g := ⟨_, List.getElem?_eq_getElem (by omega)⟩
    obtain ⟨c0, c1, c2⟩ := Lay.gcells_at hgk
    obtain ⟨e0, e1, e2⟩ := hg _ _ hgk
    have hcase : j = j / 3 * 3 ∨ j = j / 3 * 3 + 1 ∨ j = j / 3 * 3 + 2 := by omega
    rcases hcase with h | h | h <;> rw [h] at hu ⊢
    · rw [c0] at hu; rw [e0]; exact hu
    · rw [c1] at hu; rw [e1]; exact hu
    · rw [c2] at hu; rw [e2]; exact hu
end
end Go.Proofs.Ytafonjnanfekkaa
