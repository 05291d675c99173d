
/-
  WHAT A FRAME HANDS OVER, more: a row of structs of three numbers (a script).
  layer 6, plain: what calls leave of a store's state; the numbers that a map knows, by their places; lists of rows in memory.
-/
import Derived.Test.YtomoliickggghaaKR6N6
import Derived.Test.YtomoliickggghaaKR6N2
import Derived.Deep.Slices
namespace Go.Proofs.Ytomoliickggghaa
open Go.ChangeShapes Go.WideShapes Go.ChangeAt Go.RowKit Go.Joins
set_option maxRecDepth 100000
set_option linter.unusedVariables false
set_option linter.unusedSimpArgs false
/-- A list out of what there is at each place. -/
theorem listOf {α : Type} {R : Nat → α → Prop} : ∀ (n : Nat), (∀ i, i < n → ∃ g, R i g) → ∃ gs : List α, gs.length = n ∧ ∀ i g, gs[i]? = some g → R i g
  | 0, _ => ⟨[], rfl, fun i g h => by simp at h⟩
  | n + 1, h => by
    obtain ⟨gs, hl, hg⟩ := listOf n (fun i hi => h i (by omega))
    obtain ⟨g, hr⟩ := h n (by omega)
    refine ⟨gs ++ [g], by simp [hl], fun i x hx => ?_⟩
    by_cases hi : i < n
    · rw [List.getElem?_append_left (by omega)] at hx
      exact hg i x hx
    · rw [List.getElem?_append_right (by omega)] at hx
      have hin : i - gs.length = 0 := by
        have := (List.getElem?_eq_some_iff.1 hx).1
        simp at this; omega
      have : i = n := by omega
      subst this
      rw [hin] at hx
      simp at hx
      subst hx
      exact hr
abbrev Op3 := Int × Int × Int
def ocells : List Op3 → List Value
  | [] => []
  | g :: l => .int .i64 g.1 :: .int .i64 g.2.1 :: .int .i64 g.2.2 :: ocells l
theorem ocells_length : ∀ gs : List Op3, (ocells gs).length = gs.length * 3
  | [] => rfl
  | g :: l => by simp only [ocells, List.length_cons, ocells_length l]; omega
theorem ocells_at : ∀ {gs : List Op3} {k : Nat} {g : Op3}, gs[k]? = some g → (ocells gs)[k * 3]? = some (.int .i64 g.1) ∧ (ocells gs)[k * 3 + 1]? = some (.int .i64 g.2.1) ∧ (ocells gs)[k * 3 + 2]? = some (.int .i64 g.2.2)
  | [], k, g, h => by cases h
  | x :: l, 0, g, h => by injection h with h; subst h; exact ⟨rfl, rfl, rfl⟩
  | x :: l, k + 1, g, h => by
    have := ocells_at (gs := l) (k := k) (g := g) (by simpa using h)
    rw [show (k + 1) * 3 = k * 3 + 1 + 1 + 1 by omega]
    exact this
def OpOk (x : Op3) : Prop := (-9223372036854775808 ≤ x.1 ∧ x.1 ≤ 9223372036854775807) ∧ (-9223372036854775808 ≤ x.2.1 ∧ x.2.1 ≤ 9223372036854775807) ∧ (-9223372036854775808 ≤ x.2.2 ∧ x.2.2 ≤ 9223372036854775807)
section
variable {H : Type} {enc : TypeId × Value → H} {w : World} {base : Nat} {spare : Nat → Bool} {held : Bool}
theorem cells_op3 : Try.prog.cellsOf 32 = 3 := by kernel_rfl
theorem op3_ints {n : Nat} {cs : List Value} {y : DataW H × List MemPlace} (h : DataW.trod enc Try.prog w base spare held n 32 cs = some y) : ∃ x y z : Int, cs = [.int .i64 x, .int .i64 y, .int .i64 z] ∧ OpOk (x, y, z) := by
  obtain ⟨xs, n', _, hx, hlc, hlen, hg⟩ := DataW.trod_struct Try.underlying32 h
  rw [cells_op3] at hlc
  match cs, hlc with
  | [c0, c1, c2], _ =>
    have hl : xs.length = 3 := hlen
    obtain ⟨z0, f0⟩ := some_at hl 0 (by omega)
    obtain ⟨z1, f1⟩ := some_at hl 1 (by omega)
    obtain ⟨z2, f2⟩ := some_at hl 2 (by omega)
    have k0 := hg 0 _ rfl
    have k1 := hg 1 _ rfl
    have k2 := hg 2 _ rfl
    simp only [cells_int, f0, f1, f2, List.drop_succ_cons, List.drop_zero, List.take_succ_cons, List.take_zero] at k0 k1 k2
    obtain ⟨x, rfl, h0⟩ := one_int k0
    obtain ⟨y, rfl, h1⟩ := one_int k1
    obtain ⟨z, rfl, h2⟩ := one_int k2
    exact ⟨x, y, z, rfl, bounds_i64 h0, bounds_i64 h1, bounds_i64 h2⟩
theorem open_ops {r : Reach} {b0 : Nat} {v : Value} {d : DataW H} {p : List MemPlace} (hv : Value.okWide Try.prog w r b0 22 v) (h : DataW.Trod enc Try.prog w base spare held 22 v d p) :
    ∃ (A : Option Addr) (len cap : Nat) (gs : List Op3), v = .slice A len cap ∧ RowAt w A (len * 3) (ocells gs) ∧ len ≤ cap ∧ cap ≤ maxLen ∧ (A = none → len = 0 ∧ cap = 0) ∧ gs.length = len ∧ ∀ g ∈ gs, OpOk g := by
  obtain ⟨a, len, cap, rfl⟩ := okWide_slice Try.underlying22 hv
  obtain ⟨fuel, hf⟩ := h
  rcases Go.Deep.open_slice Try.underlying22 hf with ⟨hcs, _⟩ | ⟨a', len', cap', m, n, D, Pl, hcs, _, hl, hm, hmm, _, hi⟩
  · simp [Value.cells] at hcs
    obtain ⟨rfl, rfl, rfl⟩ := hcs
    exact ⟨none, 0, 0, [], rfl, RowAt.nil_ _ _, Nat.le_refl _, by unfold maxLen; omega, fun _ => ⟨rfl, rfl⟩, rfl, fun g hg => by cases hg⟩
  · simp [Value.cells] at hcs
    obtain ⟨rfl, rfl, rfl⟩ := hcs
    have hml : len ≤ m := by rw [hmm]; split <;> omega
    obtain ⟨gs, hgl, hg⟩ := listOf (R := fun i (g : Op3) => (w.cell? (a'.add (i * 3)) = some (.int .i64 g.1) ∧ w.cell? (a'.add (i * 3 + 1)) = some (.int .i64 g.2.1) ∧ w.cell? (a'.add (i * 3 + 2)) = some (.int .i64 g.2.2)) ∧ OpOk g) len (fun i hil => by
      obtain ⟨cs', hc, ht⟩ := hi i (by omega)
      rw [cells_op3] at hc
      obtain ⟨x, y, z, rfl, hok⟩ := op3_ints ht
      obtain ⟨_, _, hat⟩ := World.cells?_some hc
      have e0 := hat 0 (by omega)
      have e1 := hat 1 (by omega)
      have e2 := hat 2 (by omega)
      rw [add_of_add] at e0 e1 e2
      exact ⟨(x, y, z), ⟨e0, e1, e2⟩, hok⟩)
    refine ⟨some a', len, cap, gs, rfl, ⟨by rw [ocells_length, hgl], fun hn => ⟨a', rfl, fun j u hu => ?_⟩⟩, hl, hm, (fun e => by cases e), hgl, fun g hgm => ?_⟩
    · have hj : j < gs.length * 3 := by
        have := (List.getElem?_eq_some_iff.1 hu).1
        rwa [ocells_length] at this
      obtain ⟨g, hgk⟩ : ∃ g, gs[j / 3]? = some g := ⟨_, List.getElem?_eq_getElem (by omega)⟩
      obtain ⟨c0, c1, c2⟩ := ocells_at hgk
      obtain ⟨⟨e0, e1, e2⟩, _⟩ := hg _ _ hgk
      have hcase : j = j / 3 * 3 ∨ j = j / 3 * 3 + 1 ∨ j = j / 3 * 3 + 2 := by omega
      rcases hcase with h | h | h <;> rw [h] at hu ⊢
      · rw [c0] at hu; rw [e0]; exact hu
      · rw [c1] at hu; rw [e1]; exact hu
      · rw [c2] at hu; rw [e2]; exact hu
    · obtain ⟨i, hi2⟩ := List.getElem?_of_mem hgm
      exact (hg i g hi2).2
theorem op3_at {w : World} {A : Option Addr} {len k : Nat} {gs : List Op3} (h : RowAt w A (len * 3) (ocells gs)) (hl : gs.length = len) (hk : k < len) :
    ∃ a x y z, A = some a ∧ gs[k]? = some (x, y, z) ∧ w.cell? (a.add (k * 3)) = some (.int .i64 x) ∧ w.cell? ⟨(a.add (k * 3)).block, (a.add (k * 3)).off + 1, none⟩ = some (.int .i64 y) ∧ w.cell? ⟨(a.add (k * 3)).block, (a.add (k * 3)).off + 2, none⟩ = some (.int .i64 z) := by
  obtain ⟨a, e, hc⟩ := h.2 (by omega)
  obtain ⟨⟨x, y, z⟩, hx⟩ : ∃ g, gs[k]? = some g := ⟨_, List.getElem?_eq_getElem (by omega)⟩
  obtain ⟨c0, c1, c2⟩ := ocells_at hx
  have k1 := hc _ _ c1
  have k2 := hc _ _ c2
  rw [← add_of_add] at k1 k2
  exact ⟨a, x, y, z, e, hx, hc _ _ c0, k1, k2⟩
end
end Go.Proofs.Ytomoliickggghaa

namespace Go.Proofs.Ytomoliickggghaa.Mem
open Go.RowKit Go.Proofs.Ytomoliickggghaa Go.Proofs.Ytomoliickggghaa.Wire
set_option maxHeartbeats 8000000
set_option maxRecDepth 100000
set_option linter.unusedVariables false
set_option linter.unusedSimpArgs false

/-- How many numbers below m a map knows. -/
def cntTo {α : Type} (f : Int → Option α) (m : Nat) : Nat := (keysOf m f).length
theorem keysOf_succ {α : Type} (f : Int → Option α) (m : Nat) : keysOf (m + 1) f = keysOf m f ++ (if (f m).isSome = true then [(m : Int)] else []) := by
  unfold keysOf
  rw [List.range_succ, List.map_append, List.filter_append]
  congr 1
  simp only [List.map_cons, List.map_nil]
  rw [List.filter_cons]
  rfl
theorem cntTo_some {α : Type} {f : Int → Option α} {m : Nat} (h : (f m).isSome = true) : cntTo f (m + 1) = cntTo f m + 1 := by
  rw [cntTo, keysOf_succ, if_pos h, List.length_append]; rfl
theorem cntTo_none {α : Type} {f : Int → Option α} {m : Nat} (h : f m = none) : cntTo f (m + 1) = cntTo f m := by
  rw [cntTo, keysOf_succ, if_neg (by rw [h]; simp), List.append_nil]; rfl
theorem keysOf_pre {α : Type} (f : Int → Option α) (m : Nat) : ∀ N, m ≤ N → ∃ l, keysOf N f = keysOf m f ++ l
  | 0, h => ⟨[], by obtain rfl : m = 0 := by omega
                    simp⟩
  | N + 1, h => by
    by_cases e : m = N + 1
    · subst e; exact ⟨[], by simp⟩
    · obtain ⟨l, hl⟩ := keysOf_pre f m N (by omega)
      rw [keysOf_succ, hl]
      exact ⟨l ++ _, by rw [List.append_assoc]⟩
theorem keysOf_at {α : Type} {f : Int → Option α} {m N : Nat} (hm : m < N) (h : (f m).isSome = true) : (keysOf N f)[cntTo f m]? = some (m : Int) := by
  obtain ⟨l, hl⟩ := keysOf_pre f (m + 1) N hm
  rw [hl, keysOf_succ, if_pos h, List.append_assoc, cntTo, List.getElem?_append_right (Nat.le_refl _)]
  simp
theorem cntTo_lt {α : Type} {f : Int → Option α} {m N : Nat} (hm : m < N) (h : (f m).isSome = true) : cntTo f m < (keysOf N f).length := (List.getElem?_eq_some_iff.1 (keysOf_at hm h)).1
theorem wsOf_len (N : Nat) (m : Int → Option Bytes) : (wsOf N m).length = (keysOf N m).length := by simp [wsOf]
theorem wsOf_at {f : Int → Option Bytes} {m N : Nat} {bs : Bytes} (hm : m < N) (h : f m = some bs) : (wsOf N f)[cntTo f m]? = some ((m : Int), bs) := by
  rw [wsOf, List.getElem?_map, keysOf_at hm (by rw [h]; rfl)]
  simp [h]

/-! ### states -/
def SS.cnt (S : SS) : Nat := S.undo.length + S.found + S.asked
theorem write_parts (S : SS) (n : Int) (bs : Bytes) : (S.write n bs).d = S.d ∧ (S.write n bs).chg = (fun j => if j = n then some bs else S.chg j) ∧ (S.write n bs).wait = S.wait ∧ (S.write n bs).held = S.held ∧ (S.write n bs).undo = S.undo ++ [.w n (S.chg n)] ∧ (S.write n bs).cnt = S.cnt + 1 ∧ (S.write n bs).room = S.room := by
  refine ⟨rfl, rfl, rfl, rfl, rfl, ?_, rfl⟩
  simp [SS.cnt, SS.write, SS.setSh]; omega
theorem hold_parts (S : SS) (n : Int) : (S.hold n).d = S.d ∧ (S.hold n).chg = S.chg ∧ (S.hold n).wait = S.wait ∧ (S.hold n).undo = S.undo ++ [.h n true (S.held n)] ∧ (S.hold n).cnt = S.cnt + 1 := by
  refine ⟨rfl, rfl, rfl, rfl, ?_⟩
  simp [SS.cnt, SS.hold]; omega
theorem commit_parts (S : SS) : S.commit.d = S.d ∧ S.commit.chg = (fun _ => none) ∧ S.commit.cnt ≤ S.cnt ∧ S.commit.undo = [] := by
  refine ⟨rfl, rfl, ?_, rfl⟩
  simp [SS.cnt, SS.commit]
theorem use_parts (S : SS) (n : Int) (bs : Bytes) : (S.use n bs).d = S.d ∧ (S.use n bs).chg = S.chg ∧ (S.use n bs).wait = S.wait ∧ (S.use n bs).held = S.held ∧ (S.use n bs).undo = S.undo ∧ (S.use n bs).found = S.found ∧ (S.use n bs).asked = S.asked := ⟨rfl, rfl, rfl, rfl, rfl, rfl, rfl⟩
theorem read_parts (S : SS) (n : Int) : (S.readS n).d = S.d ∧ (S.readS n).chg = S.chg ∧ (S.readS n).wait = S.wait ∧ (S.readS n).held = S.held ∧ (S.readS n).undo = S.undo ∧ (S.readS n).cnt ≤ S.cnt + 1 := by
  have h : ∀ T : SS, T = S.readS n → T.d = S.d ∧ T.chg = S.chg ∧ T.wait = S.wait ∧ T.held = S.held ∧ T.undo = S.undo ∧ T.cnt ≤ S.cnt + 1 := fun T hT => by
    unfold SS.readS SS.read at hT
    split at hT
    · split at hT
      · subst hT; exact ⟨rfl, rfl, rfl, rfl, rfl, by simp only [SS.cnt]; omega⟩
      · split at hT
        · subst hT; exact ⟨rfl, rfl, rfl, rfl, rfl, by simp only [SS.cnt, SS.use, SS.setSh]; omega⟩
        · subst hT; exact ⟨rfl, rfl, rfl, rfl, rfl, by simp only [SS.cnt, SS.use, SS.setSh]; omega⟩
    · subst hT; exact ⟨rfl, rfl, rfl, rfl, rfl, by omega⟩
  exact h _ rfl

/-! ### rows of rows -/
theorem writeS_parts (S : SS) (n : Int) (bs : Bytes) : (S.writeS n bs).d = S.d ∧ (S.writeS n bs).cnt ≤ S.cnt + 1 := by
  have h := write_parts S n bs
  unfold SS.writeS
  split
  · exact ⟨h.1, by omega⟩
  · exact ⟨rfl, by omega⟩
/-- A row of the caller's (colour 0), or nil. -/
def OptO (w : World) (col : Col) (B : Nat) (v : Value) : Option Bytes → Prop
  | none => v = .slice none 0 0
  | some bs => Row w col B 0 5 1 v 256 (bvl bs)
theorem OptO.keep {w w' : World} {a b : Col} {B lo hi : Nat} {v : Value} {o : Option Bytes} (h : OptO w a B v o) (ht : Tch lo hi a b w w') (hr : 1 ≤ lo) : OptO w' b B v o := by
  cases o with
  | none => exact h
  | some bs => exact Row.keep h ht (by omega)
theorem OptO.mono {w : World} {a : Col} {B B' : Nat} {v : Value} {o : Option Bytes} (h : OptO w a B v o) (hb : B' ≤ B) : OptO w a B' v o := by
  cases o with
  | none => exact h
  | some bs => exact ⟨own_mono h.own hb, h.c⟩
/-- A law's own row (colour 5) of rows of bytes, some of them nil. -/
structure LastAt (w : World) (col : Col) (B g n : Nat) (f : Int → Option Bytes) : Prop where
  ex : ∃ vs : List Value, Row w col B 5 34 1 (.slice (some ⟨g, 0, none⟩) n n) n vs ∧ ∀ (i : Nat) (v : Value), vs[i]? = some v → OptO w col B v (f i)
theorem LastAt.keep {w w' : World} {a b : Col} {B g n lo hi : Nat} {f : Int → Option Bytes} (h : LastAt w a B g n f) (ht : Tch lo hi a b w w') (hr : 6 ≤ lo) : LastAt w' b B g n f := by
  obtain ⟨vs, h1, h2⟩ := h.ex
  exact ⟨vs, h1.keep ht (by omega), fun i v hv => (h2 i v hv).keep ht (by omega)⟩
theorem LastAt.at_ {w : World} {a : Col} {B g n k : Nat} {f : Int → Option Bytes} (h : LastAt w a B g n f) (hk : k < n) : ∃ v, w.cell? ⟨g, k, none⟩ = some v ∧ OptO w a B v (f k) ∧ w.frozen? ⟨g, k, none⟩ = false := by
  obtain ⟨vs, h1, h2⟩ := h.ex
  have hl : vs.length = n := by have := h1.own.1; omega
  obtain ⟨v, hv⟩ : ∃ v, vs[k]? = some v := ⟨_, List.getElem?_eq_getElem (by omega)⟩
  exact ⟨v, by rw [h1.own.cellAt k (by omega)]; exact hv, h2 k v hv, h1.own.frozenAt k⟩
theorem LastAt.put {w : World} {a : Col} {B g n k : Nat} {f : Int → Option Bytes} (h : LastAt w a B g n f) {v : Value} {o : Option Bytes} (hv : OptO w a B v o) (hg : a g = 5) :
    LastAt (w.setCell ⟨g, k, none⟩ v) a B g n (fun j => if j = (k : Int) then o else f j) ∧ Tch 5 6 a a w (w.setCell ⟨g, k, none⟩ v) := by
  have ht : Tch 5 6 a a w (w.setCell ⟨g, k, none⟩ v) := (Tch.refl _ _ _ _).setCell (p := ⟨g, k, none⟩) (by show 5 ≤ a g ∧ a g < 6; omega) v
  obtain ⟨vs, h1, h2⟩ := h.ex
  refine ⟨⟨vs.set k v, h1.stored k v, fun i u hu => ?_⟩, ht⟩
  rw [List.getElem?_set] at hu
  by_cases e : k = i
  · subst e
    rw [if_pos rfl] at hu ⊢
    split at hu
    · injection hu with hu; subst hu; exact hv.keep ht (by omega)
    · cases hu
  · rw [if_neg e] at hu
    rw [if_neg (by omega)]
    exact (h2 i u hu).keep ht (by omega)
theorem LastAt.c {w : World} {a : Col} {B g n : Nat} {f : Int → Option Bytes} (h : LastAt w a B g n f) : a g = 5 := by
  obtain ⟨vs, h1, _⟩ := h.ex
  exact h1.c g rfl
theorem LastAt.ext {w : World} {a : Col} {B g n : Nat} {f f' : Int → Option Bytes} (h : LastAt w a B g n f) (e : ∀ i : Nat, i < n → f i = f' i) : LastAt w a B g n f' := by
  obtain ⟨vs, h1, h2⟩ := h.ex
  refine ⟨vs, h1, fun i v hv => ?_⟩
  have hl : vs.length = n := by have := h1.own.1; omega
  rw [← e i (by have := (List.getElem?_eq_some_iff.1 hv).1; omega)]
  exact h2 i v hv
theorem wcells_at : ∀ (l : List (Int × Value)) (i : Nat) (x : Int × Value), l[i]? = some x → (wcells l)[i * 2]? = some (.int .i64 x.1) ∧ (wcells l)[i * 2 + 1]? = some x.2
  | [], i, x, h => by cases h
  | p :: l, 0, x, h => by injection h with h; subst h; exact ⟨rfl, rfl⟩
  | p :: l, i + 1, x, h => by
    have := wcells_at l i x h
    rw [show (i + 1) * 2 = i * 2 + 1 + 1 by omega]
    exact this
theorem WrO.keep2 {w w' : World} {a b : Col} {B : Nat} {v : Value} {l : List (Int × Bytes)} (h : WrO w a B v l) (ht : Tch 5 6 a b w w') : WrO w' b B v l := h.keep ht (by omega)
theorem WrO.form {w : World} {col : Col} {B : Nat} {v : Value} {l : List (Int × Bytes)} (h : WrO w col B v l) : ∃ A cap, v = .slice A l.length cap ∧ l.length ≤ cap ∧ cap ≤ 9223372036854775807 := by
  obtain ⟨vs, h1, _⟩ := h.ex
  obtain ⟨A, cap, hv, _, h3, h4, _⟩ := row_len h1
  exact ⟨A, cap, hv, h3, h4⟩
theorem WrO.at_ {w : World} {col : Col} {B i cap : Nat} {A : Option Addr} {l : List (Int × Bytes)} {n : Int} {bs : Bytes} (h : WrO w col B (.slice A l.length cap) l) (hi : l[i]? = some (n, bs)) :
    ∃ g g2 c2, A = some ⟨g, 0, none⟩ ∧ col g = 2 ∧ w.cell? ⟨g, i * 2, none⟩ = some (.int .i64 n) ∧ w.cell? ⟨g, i * 2 + 1, none⟩ = some (.slice (some ⟨g2, 0, none⟩) 256 c2) ∧ Row w col B 3 5 1 (.slice (some ⟨g2, 0, none⟩) 256 c2) 256 (bvl bs) := by
  obtain ⟨vs, h1, h2, h3⟩ := h.ex
  have hlt := (List.getElem?_eq_some_iff.1 hi).1
  have hl : vs.length = l.length := by have := congrArg List.length h2; simpa using this
  obtain ⟨x, hx⟩ : ∃ x, vs[i]? = some x := ⟨_, List.getElem?_eq_getElem (by omega)⟩
  have hxn : x.1 = n := by
    have e1 : (vs.map (·.1))[i]? = some x.1 := by rw [List.getElem?_map, hx]; rfl
    rw [h2, List.getElem?_map, hi] at e1
    injection e1 with e1
    exact e1.symm
  obtain ⟨k0, k1⟩ := wcells_at vs i x hx
  have hr := h3 i x _ hx hi
  obtain ⟨A', cap', hv, _, _, _, hA'⟩ := row_len h1
  injection hv with hv1 _ hv3
  obtain ⟨g, hg, hc, _⟩ := hA' (by omega)
  subst hv1
  subst hg
  obtain ⟨g2, c2, _, hxv, _⟩ := own_form hr.own (by omega)
  rw [hxv] at k1 hr
  refine ⟨g, g2, c2, rfl, hc, ?_, ?_, hr⟩
  · rw [← hxn]; rw [h1.own.cellAt _ (by omega)]; exact k0
  · rw [h1.own.cellAt _ (by omega)]; exact k1
/-- Liv goes on where a law's own memory alone is written. -/
theorem Liv.own {w0 w w' : World} {col col' : Col} {B c p lo hi : Nat} {S : SS} (h : Liv w0 w col B c p S) (ht : Tch lo hi col col' w w') (hlo : 2 ≤ lo) (hhi : hi ≤ 16) : Liv w0 w' col' B c p S := by
  have := h.s.lo
  exact ⟨h.t.trans (ht.mono (by omega) (by omega)), h.s.keep ht (by omega) (by omega), Nat.le_trans h.b ht.size, h.c, h.b0⟩
theorem Liv.old {w0 w : World} {col : Col} {B c p : Nat} {S : SS} (h : Liv w0 w col B c p S) {A : Option Addr} {n : Nat} {vs : List Value} (hr : RowAt w0 A n vs) : RowAt w A n vs := row_tch hr h.t (fun _ _ _ => by omega)
/-- Rows of one value, made. -/
def nils (n : Nat) : Array Value := (List.replicate n (Value.slice none 0 0)).toArray
theorem made_nils (n : Nat) : madeCells (Value.slice none 0 0).cells n = nils n := by
  apply Array.ext
  · rw [size_madeCells]; simp [nils]
  · intro i h1 h2
    simp [madeCells, nils, Value.cells, Nat.mod_one]
theorem info_rows : (Try.prog.info? 34).map (fun i => (i.zero, i.size, i.bytes)) = some (some (.slice none 0 0), 1, 24) := by kernel_rfl
theorem make_rows (N : Nat) (hN : N ≤ 1048576) (w : World) :
    (Instr.makeSlice 44 (.int .i64 (N : Int)) (.int .i64 (N : Int))).run Try.prog w = .ok (.slice (some ⟨w.heap.size, 0, none⟩) N N) (w.alloc (.cells (nils N) 34)) := by
  obtain ⟨i0, hi, hz0, hz1, hz2⟩ := info_parts info_rows
  have := run_make (P := Try.prog) w 44 34 i0 (.slice none 0 0) Try.underlying44 hi hz0 .i64 .i64 N N (by omega) (by omega) (by rw [hz2]; omega) (by omega)
  rw [hz1, Nat.mul_one, Int.toNat_natCast, made_nils] at this
  exact this
/-- A new row of nothing, painted. -/
theorem LastAt.new {w : World} {col : Col} {B : Nat} (n : Nat) (hB : B ≤ w.heap.size) (hn : n ≤ 1048576) (f : Int → Option Bytes) (hf : ∀ k, f k = none) (w' : World) (hw : w.alloc (.cells (nils n) 34) = w') :
    ∃ col', Tch 16 16 col col' w w' ∧ LastAt w' col' B w.heap.size n f ∧ col' w.heap.size = 5 := by
  refine ⟨paint col w.heap.size 5, ?_, ⟨List.replicate n (.slice none 0 0), ⟨?_, fun g hg => ?_⟩, fun i v hv => ?_⟩, paint_self _ _ _⟩
  · rw [← hw]
    exact ((Tch.refl _ _ _ _).alloc _).paint (Nat.le_refl _) (by simp) (by omega)
  · have := World.ownsRow_lit (base := B) (e := 34) (size := 1) w (nils n) n hB (by unfold maxLen; omega) (by simp [nils])
    rw [← hw]
    exact this
  · injection hg with hg; subst hg; exact paint_self _ _ _
  · rw [List.getElem?_replicate] at hv
    split at hv
    · injection hv with hv; subst hv; rw [hf]; rfl
    · cases hv
end Go.Proofs.Ytomoliickggghaa.Mem
