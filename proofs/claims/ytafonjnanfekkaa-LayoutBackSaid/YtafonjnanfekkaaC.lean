
/-
  WORDS: rows of one-cell values in memory: a slice that reads as a list of them. No program in sight.
-/
import Derived.Test.YtafonjnanfekkaaB
namespace Go.Proofs.Ytafonjnanfekkaa
open Go.RowKit

/-- The slice (A, n, whatever capacity) reads as these one-cell values. -/
def RowAt (w : World) (A : Option Addr) (n : Nat) (vs : List Value) : Prop :=
  vs.length = n ∧ (0 < n → ∃ a, A = some a ∧ ∀ (i : Nat) (u : Value), vs[i]? = some u → w.cell? (a.add i) = some u)
def ints (zs : List Int) : List Value := zs.map (Value.int .i64)
def nums (xs : List Nat) : List Value := xs.map fun (x : Nat) => Value.int .u64 (x : Int)
section
variable {w w1 : World} {A : Option Addr} {n : Nat} {vs : List Value}
theorem RowAt.nil_ (w : World) (A : Option Addr) : RowAt w A 0 [] := ⟨rfl, fun h => absurd h (by omega)⟩
theorem RowAt.len (h : RowAt w A n vs) : vs.length = n := h.1
theorem RowAt.at_ {k : Nat} (h : RowAt w A n vs) (hk : k < n) : ∃ a u, A = some a ∧ vs[k]? = some u ∧ w.cell? (a.add k) = some u := by
  obtain ⟨a, e, hc⟩ := h.2 (by omega)
  have hl : k < vs.length := by have := h.1; omega
  exact ⟨a, vs[k], e, List.getElem?_eq_getElem hl, hc k _ (List.getElem?_eq_getElem hl)⟩
theorem RowAt.lt {a : Addr} (h : RowAt w (some a) n vs) (hn : 0 < n) : a.block < w.heap.size := by
  obtain ⟨a', c, e, _, hc⟩ := h.at_ hn
  obtain rfl : a = a' := by simpa using e
  have := World.block_lt_of_cell? w _ hc
  rwa [block_of_add] at this
theorem RowAt.keep (h : RowAt w A n vs) (hk : ∀ a, A = some a → 0 < n → ∀ i u, w.cell? (a.add i) = some u → w1.cell? (a.add i) = some u) : RowAt w1 A n vs :=
  ⟨h.1, fun hn => by
    obtain ⟨a, e, hc⟩ := h.2 hn
    exact ⟨a, e, fun i c hi => hk a e hn i _ (hc i c hi)⟩⟩
theorem RowAt.below (h : RowAt w A n vs) (hb : Below w.heap.size w w1) : RowAt w1 A n vs :=
  h.keep fun _ _ _ _ _ hu => (hb.cell (World.block_lt_of_cell? w _ hu)).trans hu
theorem RowAt.drew (h : RowAt w A n vs) : RowAt w.drew A n vs := h
theorem RowAt.drewN (h : RowAt w A n vs) (k : Nat) : RowAt (w.drewN k) A n vs := h
theorem RowAt.alloc (h : RowAt w A n vs) (o : Obj) : RowAt (w.alloc o) A n vs := h.below ((Below.refl _ w).alloc (Nat.le_refl _) o)
theorem RowAt.grown {row : Option Nat} (h : RowAt w A n vs) (hg : w.grownBy w1 row) (hne : ∀ a, A = some a → 0 < n → some a.block ≠ row) : RowAt w1 A n vs :=
  h.keep fun a e hn _ _ hu => (World.cell?_of_block (hg.block _ (World.block_lt_of_cell? w _ hu) (by rw [block_of_add]; exact hne a e hn))).trans hu
theorem RowAt.setCell (h : RowAt w A n vs) {p : Addr} (hne : ∀ a, A = some a → 0 < n → a.block ≠ p.block) (u : Value) : RowAt (w.setCell p u) A n vs :=
  h.keep fun a e hn i _ hu => (World.cell?_of_block (Below.heap_setCell w p u (a.add i).block (by rw [block_of_add]; exact hne a e hn))).trans hu
theorem RowAt.cut {a : Addr} (h : RowAt w (some a) n vs) (lo hi : Nat) (h1 : lo ≤ hi) (h2 : hi ≤ n) : RowAt w (some (a.add lo)) (hi - lo) ((vs.drop lo).take (hi - lo)) := by
  refine ⟨by rw [List.length_take, List.length_drop, h.1]; omega, fun hn => ⟨_, rfl, fun i c hi' => ?_⟩⟩
  obtain ⟨a', e, hc⟩ := h.2 (by omega)
  obtain rfl : a = a' := by simpa using e
  rw [add_of_add]
  refine hc (lo + i) c ?_
  rw [List.getElem?_take] at hi'
  split at hi'
  · rw [List.getElem?_drop] at hi'; exact hi'
  · cases hi'
theorem RowAt.of_own {base : Nat} {e : TypeId} {c : Nat} (h : w.ownsRow base e 1 (.slice A n c) n vs) : RowAt w A n vs := by
  refine ⟨by have := h.1; omega, fun hn => ?_⟩
  obtain ⟨g, cap, hv, _, hlt⟩ := h.form hn
  have hA : A = some ⟨g, 0, none⟩ := by injection hv
  subst hA
  exact ⟨_, rfl, fun i c hi => h.cells (g := g) rfl i _ hi⟩
theorem RowAt.int_at {zs : List Int} {k : Nat} (h : RowAt w A n (ints zs)) (hk : k < n) : ∃ a z, A = some a ∧ zs[k]? = some z ∧ w.cell? (a.add k) = some (.int .i64 z) := by
  obtain ⟨a, u, e, hu, hc⟩ := h.at_ hk
  unfold ints at hu
  rw [List.getElem?_map] at hu
  cases hz : zs[k]? with
  | none => rw [hz] at hu; cases hu
  | some z => rw [hz] at hu; injection hu with hu; subst hu; exact ⟨a, z, e, rfl, hc⟩
theorem RowAt.num_at {xs : List Nat} {k : Nat} (h : RowAt w A n (nums xs)) (hk : k < n) : ∃ a x, A = some a ∧ xs[k]? = some x ∧ w.cell? (a.add k) = some (.int .u64 (x : Int)) := by
  obtain ⟨a, u, e, hu, hc⟩ := h.at_ hk
  unfold nums at hu
  rw [List.getElem?_map] at hu
  cases hz : xs[k]? with
  | none => rw [hz] at hu; cases hu
  | some z => rw [hz] at hu; injection hu with hu; subst hu; exact ⟨a, z, e, rfl, hc⟩
theorem BytesAt.row {bs : List UInt8} (h : BytesAt w A n bs) : RowAt w A n (bvl bs) := by
  refine ⟨by rw [bvl_length]; exact h.1, fun hn => ?_⟩
  obtain ⟨a, e, hc⟩ := h.2 hn
  refine ⟨a, e, fun i u hi => ?_⟩
  rw [bvl_get] at hi
  cases hz : bs[i]? with
  | none => rw [hz] at hi; cases hi
  | some z => rw [hz] at hi; injection hi with hi; subst hi; exact hc i z hz
theorem BytesAt.of_row {bs : List UInt8} (h : RowAt w A n (bvl bs)) : BytesAt w A n bs := by
  refine ⟨by have := h.1; rwa [bvl_length] at this, fun hn => ?_⟩
  obtain ⟨a, e, hc⟩ := h.2 hn
  refine ⟨a, e, fun i c hi => hc i _ ?_⟩
  rw [bvl_get, hi]; rfl
end
end Go.Proofs.Ytafonjnanfekkaa
