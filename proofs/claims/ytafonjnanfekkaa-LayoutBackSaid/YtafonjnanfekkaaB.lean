
/-
  WORDS: bytes in memory: a slice that reads as a list of bytes, a block that is known whole. No program in sight.
-/
import Derived.Test.YtafonjnanfekkaaW
import Derived.Laws.OwnMore
import Derived.Deep.AppendLies
import Derived.Deep.Draws
namespace Go.Proofs.Ytafonjnanfekkaa
open Go.RowKit

theorem block_of_add (a : Addr) (n : Nat) : (a.add n).block = a.block := by unfold Addr.add; split <;> rfl
theorem add_of_add (a : Addr) (i j : Nat) : (a.add i).add j = a.add (i + j) := by
  unfold Addr.add
  by_cases hi : i = 0 <;> by_cases hj : j = 0 <;> simp [hi, hj, Nat.add_assoc]
theorem add_plain (g off i : Nat) : (⟨g, off, none⟩ : Addr).add i = ⟨g, off + i, none⟩ := by
  unfold Addr.add
  split
  · rename_i h; subst h; rfl
  · rfl

def bval (c : UInt8) : Value := .int .u8 (c.toNat : Int)
def bvl (bs : List UInt8) : List Value := bs.map bval
theorem bvl_length (bs : List UInt8) : (bvl bs).length = bs.length := by simp [bvl]
theorem bvl_get {bs : List UInt8} {i : Nat} : (bvl bs)[i]? = (bs[i]?).map bval := by simp [bvl]

/-- The slice (A, n, whatever capacity) reads as these bytes. -/
def BytesAt (w : World) (A : Option Addr) (n : Nat) (bs : List UInt8) : Prop :=
  bs.length = n ∧ (0 < n → ∃ a, A = some a ∧ ∀ (i : Nat) (c : UInt8), bs[i]? = some c → w.cell? (a.add i) = some (.int .u8 (c.toNat : Int)))

section
variable {w w1 : World} {A : Option Addr} {n : Nat} {bs : List UInt8}
theorem BytesAt.nil_ (w : World) (A : Option Addr) : BytesAt w A 0 [] := ⟨rfl, fun h => absurd h (by omega)⟩
theorem BytesAt.len (h : BytesAt w A n bs) : bs.length = n := h.1
theorem BytesAt.at_ {k : Nat} (h : BytesAt w A n bs) (hk : k < n) : ∃ a c, A = some a ∧ bs[k]? = some c ∧ w.cell? (a.add k) = some (.int .u8 (c.toNat : Int)) := by
  obtain ⟨a, e, hc⟩ := h.2 (by omega)
  have hl : k < bs.length := by have := h.1; omega
  exact ⟨a, bs[k], e, List.getElem?_eq_getElem hl, hc k _ (List.getElem?_eq_getElem hl)⟩
theorem BytesAt.lt {a : Addr} (h : BytesAt w (some a) n bs) (hn : 0 < n) : a.block < w.heap.size := by
  obtain ⟨a', c, e, _, hc⟩ := h.at_ hn
  obtain rfl : a = a' := by simpa using e
  have := World.block_lt_of_cell? w _ hc
  rwa [block_of_add] at this
theorem BytesAt.keep (h : BytesAt w A n bs) (hk : ∀ a, A = some a → 0 < n → ∀ i u, w.cell? (a.add i) = some u → w1.cell? (a.add i) = some u) : BytesAt w1 A n bs :=
  ⟨h.1, fun hn => by
    obtain ⟨a, e, hc⟩ := h.2 hn
    exact ⟨a, e, fun i c hi => hk a e hn i _ (hc i c hi)⟩⟩
theorem BytesAt.below (h : BytesAt w A n bs) (hb : Below w.heap.size w w1) : BytesAt w1 A n bs :=
  h.keep fun _ _ _ _ _ hu => (hb.cell (World.block_lt_of_cell? w _ hu)).trans hu
theorem BytesAt.drew (h : BytesAt w A n bs) : BytesAt w.drew A n bs := h
theorem BytesAt.drewN (h : BytesAt w A n bs) (k : Nat) : BytesAt (w.drewN k) A n bs := h
theorem BytesAt.alloc (h : BytesAt w A n bs) (o : Obj) : BytesAt (w.alloc o) A n bs := h.below ((Below.refl _ w).alloc (Nat.le_refl _) o)
theorem BytesAt.grown {row : Option Nat} (h : BytesAt w A n bs) (hg : w.grownBy w1 row) (hne : ∀ a, A = some a → 0 < n → some a.block ≠ row) : BytesAt w1 A n bs :=
  h.keep fun a e hn _ _ hu => (World.cell?_of_block (hg.block _ (World.block_lt_of_cell? w _ hu) (by rw [block_of_add]; exact hne a e hn))).trans hu
theorem BytesAt.setCell (h : BytesAt w A n bs) {p : Addr} (hne : ∀ a, A = some a → 0 < n → a.block ≠ p.block) (u : Value) : BytesAt (w.setCell p u) A n bs :=
  h.keep fun a e hn i _ hu => (World.cell?_of_block (Below.heap_setCell w p u (a.add i).block (by rw [block_of_add]; exact hne a e hn))).trans hu
/-- The bytes from lo to hi. -/
theorem BytesAt.cut {a : Addr} (h : BytesAt w (some a) n bs) (lo hi : Nat) (h1 : lo ≤ hi) (h2 : hi ≤ n) : BytesAt w (some (a.add lo)) (hi - lo) ((bs.drop lo).take (hi - lo)) := by
  refine ⟨by rw [List.length_take, List.length_drop, h.1]; omega, fun hn => ⟨_, rfl, fun i c hi' => ?_⟩⟩
  obtain ⟨a', e, hc⟩ := h.2 (by omega)
  obtain rfl : a = a' := by simpa using e
  rw [add_of_add]
  refine hc (lo + i) c ?_
  rw [List.getElem?_take] at hi'
  split at hi'
  · rw [List.getElem?_drop] at hi'; exact hi'
  · cases hi'
theorem BytesAt.take_ (h : BytesAt w A n bs) (k : Nat) (hk : k ≤ n) : BytesAt w A k (bs.take k) := by
  refine ⟨by rw [List.length_take, h.1]; omega, fun hn => ?_⟩
  obtain ⟨a, e, hc⟩ := h.2 (by omega)
  refine ⟨a, e, fun i c hi => hc i c ?_⟩
  rw [List.getElem?_take] at hi
  split at hi
  · exact hi
  · cases hi
theorem BytesAt.of_own {base : Nat} {e : TypeId} {c : Nat} (h : w.ownsRow base e 1 (.slice A n c) n (bvl bs)) : BytesAt w A n bs := by
  refine ⟨by have := h.1; rw [bvl_length] at this; omega, fun hn => ?_⟩
  obtain ⟨g, cap, hv, _, hlt⟩ := h.form hn
  have hA : A = some ⟨g, 0, none⟩ := by injection hv
  subst hA
  refine ⟨_, rfl, fun i c hi => h.cells (g := g) rfl i _ ?_⟩
  rw [bvl_get, hi]; rfl
end

/-- A block that is known whole, none of its cells frozen. -/
def Blk (w : World) (g : Nat) (t : TypeId) (cs : Array Value) : Prop := w.heap[g]? = some (.cells cs t (0, 0))
section
variable {w w' : World} {g : Nat} {t : TypeId} {cs : Array Value}
theorem Blk.lt (h : Blk w g t cs) : g < w.heap.size := by
  rcases Nat.lt_or_ge g w.heap.size with hlt | hge
  · exact hlt
  · unfold Blk at h; rw [Array.getElem?_eq_none hge] at h; cases h
theorem Blk.cell (h : Blk w g t cs) (i : Nat) : w.cell? ⟨g, i, none⟩ = cs[i]? := cell_of_row w g i cs t (0, 0) h
theorem Blk.frozen (h : Blk w g t cs) (i : Nat) : w.frozen? ⟨g, i, none⟩ = false := by
  unfold Blk at h
  simp [World.frozen?, h]
theorem Blk.new (w : World) (t : TypeId) (cs : Array Value) : Blk (w.alloc (.cells cs t)) w.heap.size t cs := heap_alloc_new w _
theorem Blk.drew (h : Blk w g t cs) : Blk w.drew g t cs := h
theorem Blk.drewN (h : Blk w g t cs) (n : Nat) : Blk (w.drewN n) g t cs := h
theorem Blk.alloc (h : Blk w g t cs) (o : Obj) : Blk (w.alloc o) g t cs := (Below.heap_alloc w o g h.lt).trans h
theorem Blk.set_ (h : Blk w g t cs) (i : Nat) (u : Value) : Blk (w.setCell ⟨g, i, none⟩ u) g t (cs.setIfInBounds i u) := by
  unfold Blk at h ⊢
  simp [World.setCell, Array.getElem?_modify, h]
theorem Blk.far (h : Blk w g t cs) {p : Addr} (hp : g ≠ p.block) (u : Value) : Blk (w.setCell p u) g t cs := (Below.heap_setCell w p u g hp).trans h
theorem Blk.below {B : Nat} (h : Blk w g t cs) (hb : Below B w w') (hg : g < B) : Blk w' g t cs := (hb.block g hg).trans h
theorem Blk.belowAll (h : Blk w g t cs) (hb : Below w.heap.size w w') : Blk w' g t cs := h.below hb h.lt
theorem Blk.grown {row : Option Nat} (h : Blk w g t cs) (hb : w.grownBy w' row) (hg : some g ≠ row) : Blk w' g t cs := (hb.block g h.lt hg).trans h
theorem Blk.same {cs' : Array Value} (h : Blk w g t cs) (h' : Blk w g t cs') : cs = cs' := by
  unfold Blk at h h'
  rw [h] at h'
  injection h' with h'
  injection h'
end

/-! ### worlds in which one block alone has turned -/
theorem only_drewN {a w : World} {row : Option Nat} (h : a.grownBy w row) (n : Nat) : a.grownBy (w.drewN n) row := ⟨h.os, h.tape, h.output, h.size, h.block⟩
theorem only_drew {a w : World} {row : Option Nat} (h : a.grownBy w row) : a.grownBy w.drew row := ⟨h.os, h.tape, h.output, h.size, h.block⟩
theorem only_alloc {a w : World} {row : Option Nat} (h : a.grownBy w row) (o : Obj) : a.grownBy (w.alloc o) row :=
  ⟨h.os, h.tape, h.output, Nat.le_trans h.size (by simp), fun i hi hne => (Below.heap_alloc w o i (Nat.lt_of_lt_of_le hi h.size)).trans (h.block i hi hne)⟩
theorem only_setCell {a w : World} {g : Nat} (h : a.grownBy w (some g)) {p : Addr} (hp : p.block = g ∨ a.heap.size ≤ p.block) (u : Value) : a.grownBy (w.setCell p u) (some g) :=
  ⟨h.os, h.tape, h.output, by simpa [World.setCell] using h.size, fun i hi hne => (Below.heap_setCell w p u i (by
    rintro rfl
    rcases hp with hp | hp
    · exact hne (by rw [hp])
    · omega)).trans (h.block i hi hne)⟩
theorem only_of_below {a w : World} (h : Below a.heap.size a w) (row : Option Nat) : a.grownBy w row := ⟨h.os, h.tape, h.output, h.size, fun i hi _ => h.block i hi⟩
theorem only_trans {a b c : World} {row : Option Nat} (h : a.grownBy b row) (k : b.grownBy c row) : a.grownBy c row :=
  ⟨k.os.trans h.os, k.tape.trans h.tape, k.output.trans h.output, Nat.le_trans h.size k.size, fun i hi hne => (k.block i (Nat.lt_of_lt_of_le hi h.size) hne).trans (h.block i hi hne)⟩
/-- Where the block that has turned is new, nothing old has. -/
theorem below_of_only {a w : World} {row : Option Nat} (h : a.grownBy w row) (hr : ∀ g, row = some g → a.heap.size ≤ g) : Below a.heap.size a w :=
  ⟨h.os, h.tape, h.output, h.size, fun i hi => h.block i hi (fun e => by have := hr i e.symm; omega)⟩
/-- Behind nothing old turned, one block that is new turns. -/
theorem below_only {a b c : World} {row : Option Nat} (h : Below a.heap.size a b) (k : b.grownBy c row) (hr : ∀ g, row = some g → a.heap.size ≤ g) : Below a.heap.size a c :=
  ⟨k.os.trans h.os, k.tape.trans h.tape, k.output.trans h.output, Nat.le_trans h.size k.size, fun i hi => (k.block i (Nat.lt_of_lt_of_le hi h.size) (fun e => by have := hr i e.symm; omega)).trans (h.block i hi)⟩

/-! ### bytes that are written into a block -/
def putN (cs : Array Value) (off : Nat) (bs : List UInt8) : Nat → Array Value
  | 0 => cs
  | k + 1 => (putN cs off bs k).setIfInBounds (off + k) (bval (bs.getD k 0))
theorem putN_size (cs : Array Value) (off : Nat) (bs : List UInt8) (k : Nat) : (putN cs off bs k).size = cs.size := by
  induction k with
  | zero => rfl
  | succ k ih => simp [putN, ih]
theorem putN_get (cs : Array Value) (off : Nat) (bs : List UInt8) (k j : Nat) (hk : off + k ≤ cs.size) :
    (putN cs off bs k)[j]? = if off ≤ j ∧ j < off + k then some (bval (bs.getD (j - off) 0)) else cs[j]? := by
  induction k with
  | zero => rw [if_neg (by omega)]; rfl
  | succ k ih =>
    rw [putN, Array.getElem?_setIfInBounds, putN_size, ih (by omega)]
    by_cases h : off + k = j
    · subst h
      rw [if_pos rfl, if_pos (by omega), if_pos (by omega)]
      simp
    · rw [if_neg h]
      by_cases h2 : off ≤ j ∧ j < off + k
      · rw [if_pos h2, if_pos (by omega)]
      · rw [if_neg h2, if_neg (by omega)]
/-- A row of bytes with others laid over it from a place on. -/
def lays (bs : List UInt8) (off : Nat) (new : List UInt8) : List UInt8 := bs.take off ++ new ++ bs.drop (off + new.length)
theorem lays_length {bs new : List UInt8} {off : Nat} (h : off + new.length ≤ bs.length) : (lays bs off new).length = bs.length := by
  simp [lays]; omega
theorem lays_get {bs new : List UInt8} {off : Nat} (h : off + new.length ≤ bs.length) (j : Nat) :
    (lays bs off new)[j]? = if off ≤ j ∧ j < off + new.length then new[j - off]? else bs[j]? := by
  unfold lays
  by_cases h1 : j < off
  · rw [if_neg (by omega), List.append_assoc, List.getElem?_append_left (by simp; omega), List.getElem?_take, if_pos h1]
  · by_cases h2 : j < off + new.length
    · rw [if_pos (by omega), List.getElem?_append_left (by simp; omega), List.getElem?_append_right (by simp; omega)]
      simp [Nat.min_eq_left (by omega : off ≤ bs.length)]
    · rw [if_neg (by omega), List.getElem?_append_right (by simp; omega), List.getElem?_drop]
      congr 1
      simp; omega
/-- A row of one's own, into whose block bytes were written. -/
theorem own_put {w w' : World} {base g cap n : Nat} {t : TypeId} {cur : Array Value} {bs new : List UInt8} {off : Nat}
    (h : w.ownsRow base t 1 (.slice (some ⟨g, 0, none⟩) n cap) n (bvl bs)) (hb : Blk w g t cur) (hn : off + new.length ≤ n)
    (h' : Blk w' g t (putN cur off new new.length)) : w'.ownsRow base t 1 (.slice (some ⟨g, 0, none⟩) n cap) n (bvl (lays bs off new)) := by
  obtain ⟨hl, hr⟩ := h
  rw [bvl_length] at hl
  rcases hr with ⟨e, _⟩ | ⟨g', cap', cur', e, hbase, hh, h1, h2, h3, h4⟩
  · cases e
  · injection e with e1 e2 e3
    obtain rfl : g = g' := by injection e1 with e1; injection e1
    subst e3
    obtain rfl : cur = cur' := Blk.same hb hh
    refine ⟨by rw [bvl_length, lays_length (by omega)]; omega, .inr ⟨g, cap, _, rfl, hbase, h', h1, h2, by rw [putN_size]; exact h3, ?_⟩⟩
    apply List.ext_getElem?
    intro j
    have ho : ∀ j, j < n → cur[j]? = (bs[j]?).map bval := fun j hj => by
      have := congrArg (fun l => l[j]?) h4
      simp only [List.getElem?_take, Array.getElem?_toList, bvl_get] at this
      rw [if_pos (by omega)] at this
      exact this
    rw [List.getElem?_take, Array.getElem?_toList, bvl_get, lays_get (by omega), putN_get _ _ _ _ _ (by omega)]
    by_cases hj : j < n * 1
    · rw [if_pos hj]
      by_cases h5 : off ≤ j ∧ j < off + new.length
      · rw [if_pos h5, if_pos h5]
        have : j - off < new.length := by omega
        simp [List.getElem?_eq_getElem this]
      · rw [if_neg h5, if_neg h5]
        exact ho j (by omega)
    · rw [if_neg hj, if_neg (by omega), List.getElem?_eq_none (by omega)]; rfl
end Go.Proofs.Ytafonjnanfekkaa
