
/-
  WORDS: small lemmas over any program: results, worlds. No program in sight.
  WORDS: bytes in memory: a slice that reads as a list of bytes, a block that is known whole. No program in sight.
  WORDS: rows of one-cell values in memory: a slice that reads as a list of them. No program in sight.
  PLAIN: layer 1 (wire): sums over bytes (CRC-32C), numbers in bytes. No program in sight.
  PLAIN: layer 1 (wire): numbers in bytes.
  PLAIN: layer 1 (wire): lists of numbers packed into bytes, and unpacked.
  THE WALKS of layer 1 (wire), the program's, first part: step, Crc, part, number, lay.
  THE WALKS of layer 1 (wire), the program's, second part: try; Get, Put, Seal, Sealed.
-/
import Derived.WalkKit
import Derived.OwnWalk
import Derived.Below
import Derived.Deep.QuietTactic
import Derived.BigQuiet
import Derived.WalkLawsBesides
import Derived.LoopTactic
import Derived.RegionTactic
import Derived.BigRegion
import Derived.Deep.RegionHeld3
import Derived.Laws.BitsAllLaws
import Derived.Laws.BitsLemmas
import Derived.Laws.Rows
import Derived.Lib.Hide
import Derived.Laws.OwnMore
import Derived.Deep.AppendLies
import Derived.Deep.Draws
import Derived.RowKit
import Derived.Test.YtifamhmiibhohaaProg
import Derived.Defers
import Derived.Recover
import Derived.Laws.Pointers
namespace Go.Proofs.Ytifamhmiibhohaa
open Go.RowKit

/-! ### results -/
theorem ret_int {k : IntKind} {a b : Int} (h : a = b) : Ending.returned (.int k a) = .returned (.int k b) := by rw [h]
theorem ret_bool {a b : Bool} (h : a = b) : Ending.returned (.bool a) = .returned (.bool b) := by rw [h]
theorem ret2 {k l : IntKind} {a b a' b' : Int} (h1 : a = a') (h2 : b = b') : Ending.returned (.tuple #[.int k a, .int l b]) = .returned (.tuple #[.int k a', .int l b']) := by rw [h1, h2]
theorem ret3 {k l m : IntKind} {a b c a' b' c' : Int} (h1 : a = a') (h2 : b = b') (h3 : c = c') : Ending.returned (.tuple #[.int k a, .int l b, .int m c]) = .returned (.tuple #[.int k a', .int l b', .int m c']) := by rw [h1, h2, h3]
theorem ret5 {k l m n o : IntKind} {a b c d e a' b' c' d' e' : Int} (h1 : a = a') (h2 : b = b') (h3 : c = c') (h4 : d = d') (h5 : e = e') :
    Ending.returned (.tuple #[.int k a, .int l b, .int m c, .int n d, .int o e]) = .returned (.tuple #[.int k a', .int l b', .int m c', .int n d', .int o e']) := by rw [h1, h2, h3, h4, h5]
theorem results_tmp4 {fn : Func} {t u v x : Tmp} (h : fn.results = #[.tmp t, .tmp u, .tmp v, .tmp x]) (tmps : Array Value) (P : Program) (w : World) :
    (results fn tmps).run P w = .ok (.tuple #[tmps.getD t undef, tmps.getD u undef, tmps.getD v undef, tmps.getD x undef]) w := by simp [results, h]
theorem results_tmp5 {fn : Func} {t u v x y : Tmp} (h : fn.results = #[.tmp t, .tmp u, .tmp v, .tmp x, .tmp y]) (tmps : Array Value) (P : Program) (w : World) :
    (results fn tmps).run P w = .ok (.tuple #[tmps.getD t undef, tmps.getD u undef, tmps.getD v undef, tmps.getD x undef, tmps.getD y undef]) w := by simp [results, h]

/-! ### worlds -/
theorem below_of_new {w w1 : World} {o : Obj} (hb : Below (w.alloc o).heap.size (w.alloc o) w1) : Below w.heap.size w w1 :=
  ((Below.refl w.heap.size w).alloc (Nat.le_refl _) o).trans (hb.mono (by simp))
theorem below_drewN {B : Nat} {a w : World} (h : Below B a w) (n : Nat) : Below B a (w.drewN n) := ⟨h.os, h.tape, h.output, h.size, h.block⟩
theorem below_all {B : Nat} {a b c : World} (h : Below B a b) (hs : B ≤ b.heap.size) (k : Below b.heap.size b c) : Below B a c := h.trans (k.mono hs)

/-! ### int's bits -/
theorem ofInt_i64 (a : Nat) (ha : a < 9223372036854775808) : (BitVec.ofInt 64 (a : Int)).toNat = a := by
  rw [BitVec.ofInt_natCast, BitVec.toNat_ofNat]; exact Nat.mod_eq_of_lt (by omega)
theorem i64_and_nat (a b : Nat) (ha : a < 9223372036854775808) (hb : b < 9223372036854775808) : bits .and .i64 (a : Int) (b : Int) = ((a &&& b : Nat) : Int) := by
  have hx : a &&& b < 2 ^ 63 := Nat.and_lt_two_pow _ (by omega)
  show IntKind.i64.wrap ((BitVec.ofInt 64 (a : Int) &&& BitVec.ofInt 64 (b : Int)).toNat : Int) = _
  rw [BitVec.toNat_and, ofInt_i64 a ha, ofInt_i64 b hb, IntKind.wrap_i64]
  omega
theorem and_one (x : Int) (h0 : 0 ≤ x) (h1 : x ≤ 4096) : bits .and .i64 x 1 = x % 2 := by
  obtain ⟨n, rfl⟩ := Int.eq_ofNat_of_zero_le h0
  have := i64_and_nat n 1 (by omega) (by omega)
  rw [show ((1 : Nat) : Int) = 1 from rfl] at this
  rw [this, Nat.and_one_is_mod]; omega
end Go.Proofs.Ytifamhmiibhohaa

namespace Go.Proofs.Ytifamhmiibhohaa
open Go.RowKit

theorem block_of_add (a : Addr) (n : Nat) : (a.add n).block = a.block := by unfold Addr.add; split <;> rfl
theorem add_of_add (a : Addr) (i j : Nat) : (a.add i).add j = a.add (i + j) := by
  unfold Addr.add
  by_cases hi : i = 0 <;> by_cases hj : j = 0 <;> simp [hi, hj, Nat.add_assoc]
theorem add_plain (g off i : Nat) : (⟨g, off, none⟩ : Addr).add i = ⟨g, off + i, none⟩ := by
  unfold Addr.add
  split
  · rename_i h; subst h; rfl
  · rfl

def bval (c : UInt8) : Value := .int .u8 (c.toNat : Int)
def bvl (bs : List UInt8) : List Value := bs.map bval
theorem bvl_length (bs : List UInt8) : (bvl bs).length = bs.length := by simp [bvl]
theorem bvl_get {bs : List UInt8} {i : Nat} : (bvl bs)[i]? = (bs[i]?).map bval := by simp [bvl]

/-- The slice (A, n, whatever capacity) reads as these bytes. -/
def BytesAt (w : World) (A : Option Addr) (n : Nat) (bs : List UInt8) : Prop :=
  bs.length = n ∧ (0 < n → ∃ a, A = some a ∧ ∀ (i : Nat) (c : UInt8), bs[i]? = some c → w.cell? (a.add i) = some (.int .u8 (c.toNat : Int)))

section
variable {w w1 : World} {A : Option Addr} {n : Nat} {bs : List UInt8}
theorem BytesAt.nil_ (w : World) (A : Option Addr) : BytesAt w A 0 [] := ⟨rfl, fun h => absurd h (by omega)⟩
theorem BytesAt.len (h : BytesAt w A n bs) : bs.length = n := h.1
theorem BytesAt.at_ {k : Nat} (h : BytesAt w A n bs) (hk : k < n) : ∃ a c, A = some a ∧ bs[k]? = some c ∧ w.cell? (a.add k) = some (.int .u8 (c.toNat : Int)) := by
  obtain ⟨a, e, hc⟩ := h.2 (by omega)
  have hl : k < bs.length := by have := h.1; omega
  exact ⟨a, bs[k], e, List.getElem?_eq_getElem hl, hc k _ (List.getElem?_eq_getElem hl)⟩
theorem BytesAt.lt {a : Addr} (h : BytesAt w (some a) n bs) (hn : 0 < n) : a.block < w.heap.size := by
  obtain ⟨a', c, e, _, hc⟩ := h.at_ hn
  obtain rfl : a = a' := by simpa using e
  have := World.block_lt_of_cell? w _ hc
  rwa [block_of_add] at this
theorem BytesAt.keep (h : BytesAt w A n bs) (hk : ∀ a, A = some a → 0 < n → ∀ i u, w.cell? (a.add i) = some u → w1.cell? (a.add i) = some u) : BytesAt w1 A n bs :=
  ⟨h.1, fun hn => by
    obtain ⟨a, e, hc⟩ := h.2 hn
    exact ⟨a, e, fun i c hi => hk a e hn i _ (hc i c hi)⟩⟩
theorem BytesAt.below (h : BytesAt w A n bs) (hb : Below w.heap.size w w1) : BytesAt w1 A n bs :=
  h.keep fun _ _ _ _ _ hu => (hb.cell (World.block_lt_of_cell? w _ hu)).trans hu
theorem BytesAt.drew (h : BytesAt w A n bs) : BytesAt w.drew A n bs := h
theorem BytesAt.drewN (h : BytesAt w A n bs) (k : Nat) : BytesAt (w.drewN k) A n bs := h
theorem BytesAt.alloc (h : BytesAt w A n bs) (o : Obj) : BytesAt (w.alloc o) A n bs := h.below ((Below.refl _ w).alloc (Nat.le_refl _) o)
theorem BytesAt.grown {row : Option Nat} (h : BytesAt w A n bs) (hg : w.grownBy w1 row) (hne : ∀ a, A = some a → 0 < n → some a.block ≠ row) : BytesAt w1 A n bs :=
  h.keep fun a e hn _ _ hu => (World.cell?_of_block (hg.block _ (World.block_lt_of_cell? w _ hu) (by rw [block_of_add]; exact hne a e hn))).trans hu
theorem BytesAt.setCell (h : BytesAt w A n bs) {p : Addr} (hne : ∀ a, A = some a → 0 < n → a.block ≠ p.block) (u : Value) : BytesAt (w.setCell p u) A n bs :=
  h.keep fun a e hn i _ hu => (World.cell?_of_block (Below.heap_setCell w p u (a.add i).block (by rw [block_of_add]; exact hne a e hn))).trans hu
/-- The bytes from lo to hi. -/
theorem BytesAt.cut {a : Addr} (h : BytesAt w (some a) n bs) (lo hi : Nat) (h1 : lo ≤ hi) (h2 : hi ≤ n) : BytesAt w (some (a.add lo)) (hi - lo) ((bs.drop lo).take (hi - lo)) := by
  refine ⟨by rw [List.length_take, List.length_drop, h.1]; omega, fun hn => ⟨_, rfl, fun i c hi' => ?_⟩⟩
  obtain ⟨a', e, hc⟩ := h.2 (by omega)
  obtain rfl : a = a' := by simpa using e
  rw [add_of_add]
  refine hc (lo + i) c ?_
  rw [List.getElem?_take] at hi'
  split at hi'
  · rw [List.getElem?_drop] at hi'; exact hi'
  · cases hi'
theorem BytesAt.take_ (h : BytesAt w A n bs) (k : Nat) (hk : k ≤ n) : BytesAt w A k (bs.take k) := by
  refine ⟨by rw [List.length_take, h.1]; omega, fun hn => ?_⟩
  obtain ⟨a, e, hc⟩ := h.2 (by omega)
  refine ⟨a, e, fun i c hi => hc i c ?_⟩
  rw [List.getElem?_take] at hi
  split at hi
  · exact hi
  · cases hi
theorem BytesAt.of_own {base : Nat} {e : TypeId} {c : Nat} (h : w.ownsRow base e 1 (.slice A n c) n (bvl bs)) : BytesAt w A n bs := by
  refine ⟨by have := h.1; rw [bvl_length] at this; omega, fun hn => ?_⟩
  obtain ⟨g, cap, hv, _, hlt⟩ := h.form hn
  have hA : A = some ⟨g, 0, none⟩ := by injection hv
  subst hA
  refine ⟨_, rfl, fun i c hi => h.cells (g := g) rfl i _ ?_⟩
  rw [bvl_get, hi]; rfl
end

/-- A block that is known whole, none of its cells frozen. -/
def Blk (w : World) (g : Nat) (t : TypeId) (cs : Array Value) : Prop := w.heap[g]? = some (.cells cs t (0, 0))
section
variable {w w' : World} {g : Nat} {t : TypeId} {cs : Array Value}
theorem Blk.lt (h : Blk w g t cs) : g < w.heap.size := by
  rcases Nat.lt_or_ge g w.heap.size with hlt | hge
  · exact hlt
  · unfold Blk at h; rw [Array.getElem?_eq_none hge] at h; cases h
theorem Blk.cell (h : Blk w g t cs) (i : Nat) : w.cell? ⟨g, i, none⟩ = cs[i]? := cell_of_row w g i cs t (0, 0) h
theorem Blk.frozen (h : Blk w g t cs) (i : Nat) : w.frozen? ⟨g, i, none⟩ = false := by
  unfold Blk at h
  simp [World.frozen?, h]
theorem Blk.new (w : World) (t : TypeId) (cs : Array Value) : Blk (w.alloc (.cells cs t)) w.heap.size t cs := heap_alloc_new w _
theorem Blk.drew (h : Blk w g t cs) : Blk w.drew g t cs := h
theorem Blk.drewN (h : Blk w g t cs) (n : Nat) : Blk (w.drewN n) g t cs := h
theorem Blk.alloc (h : Blk w g t cs) (o : Obj) : Blk (w.alloc o) g t cs := (Below.heap_alloc w o g h.lt).trans h
theorem Blk.set_ (h : Blk w g t cs) (i : Nat) (u : Value) : Blk (w.setCell ⟨g, i, none⟩ u) g t (cs.setIfInBounds i u) := by
  unfold Blk at h ⊢
  simp [World.setCell, Array.getElem?_modify, h]
theorem Blk.far (h : Blk w g t cs) {p : Addr} (hp : g ≠ p.block) (u : Value) : Blk (w.setCell p u) g t cs := (Below.heap_setCell w p u g hp).trans h
theorem Blk.below {B : Nat} (h : Blk w g t cs) (hb : Below B w w') (hg : g < B) : Blk w' g t cs := (hb.block g hg).trans h
theorem Blk.belowAll (h : Blk w g t cs) (hb : Below w.heap.size w w') : Blk w' g t cs := h.below hb h.lt
theorem Blk.grown {row : Option Nat} (h : Blk w g t cs) (hb : w.grownBy w' row) (hg : some g ≠ row) : Blk w' g t cs := (hb.block g h.lt hg).trans h
theorem Blk.same {cs' : Array Value} (h : Blk w g t cs) (h' : Blk w g t cs') : cs = cs' := by
  unfold Blk at h h'
  rw [h] at h'
  injection h' with h'
  injection h'
end

/-! ### worlds in which one block alone has turned -/
theorem only_drewN {a w : World} {row : Option Nat} (h : a.grownBy w row) (n : Nat) : a.grownBy (w.drewN n) row := ⟨h.os, h.tape, h.output, h.size, h.block⟩
theorem only_drew {a w : World} {row : Option Nat} (h : a.grownBy w row) : a.grownBy w.drew row := ⟨h.os, h.tape, h.output, h.size, h.block⟩
theorem only_alloc {a w : World} {row : Option Nat} (h : a.grownBy w row) (o : Obj) : a.grownBy (w.alloc o) row :=
  ⟨h.os, h.tape, h.output, Nat.le_trans h.size (by simp), fun i hi hne => (Below.heap_alloc w o i (Nat.lt_of_lt_of_le hi h.size)).trans (h.block i hi hne)⟩
theorem only_setCell {a w : World} {g : Nat} (h : a.grownBy w (some g)) {p : Addr} (hp : p.block = g ∨ a.heap.size ≤ p.block) (u : Value) : a.grownBy (w.setCell p u) (some g) :=
  ⟨h.os, h.tape, h.output, by simpa [World.setCell] using h.size, fun i hi hne => (Below.heap_setCell w p u i (by
    rintro rfl
    rcases hp with hp | hp
    · exact hne (by rw [hp])
    · omega)).trans (h.block i hi hne)⟩
theorem only_of_below {a w : World} (h : Below a.heap.size a w) (row : Option Nat) : a.grownBy w row := ⟨h.os, h.tape, h.output, h.size, fun i hi _ => h.block i hi⟩
theorem only_trans {a b c : World} {row : Option Nat} (h : a.grownBy b row) (k : b.grownBy c row) : a.grownBy c row :=
  ⟨k.os.trans h.os, k.tape.trans h.tape, k.output.trans h.output, Nat.le_trans h.size k.size, fun i hi hne => (k.block i (Nat.lt_of_lt_of_le hi h.size) hne).trans (h.block i hi hne)⟩
/-- Where the block that has turned is new, nothing old has. -/
theorem below_of_only {a w : World} {row : Option Nat} (h : a.grownBy w row) (hr : ∀ g, row = some g → a.heap.size ≤ g) : Below a.heap.size a w :=
  ⟨h.os, h.tape, h.output, h.size, fun i hi => h.block i hi (fun e => by have := hr i e.symm; omega)⟩
/-- Behind nothing old turned, one block that is new turns. -/
theorem below_only {a b c : World} {row : Option Nat} (h : Below a.heap.size a b) (k : b.grownBy c row) (hr : ∀ g, row = some g → a.heap.size ≤ g) : Below a.heap.size a c :=
  ⟨k.os.trans h.os, k.tape.trans h.tape, k.output.trans h.output, Nat.le_trans h.size k.size, fun i hi => (k.block i (Nat.lt_of_lt_of_le hi h.size) (fun e => by have := hr i e.symm; omega)).trans (h.block i hi)⟩

/-! ### bytes that are written into a block -/
def putN (cs : Array Value) (off : Nat) (bs : List UInt8) : Nat → Array Value
  | 0 => cs
  | k + 1 => (putN cs off bs k).setIfInBounds (off + k) (bval (bs.getD k 0))
theorem putN_size (cs : Array Value) (off : Nat) (bs : List UInt8) (k : Nat) : (putN cs off bs k).size = cs.size := by
  induction k with
  | zero => rfl
  | succ k ih => simp [putN, ih]
theorem putN_get (cs : Array Value) (off : Nat) (bs : List UInt8) (k j : Nat) (hk : off + k ≤ cs.size) :
    (putN cs off bs k)[j]? = if off ≤ j ∧ j < off + k then some (bval (bs.getD (j - off) 0)) else cs[j]? := by
  induction k with
  | zero => rw [if_neg (by omega)]; rfl
  | succ k ih =>
    rw [putN, Array.getElem?_setIfInBounds, putN_size, ih (by omega)]
    by_cases h : off + k = j
    · subst h
      rw [if_pos rfl, if_pos (by omega), if_pos (by omega)]
      simp
    · rw [if_neg h]
      by_cases h2 : off ≤ j ∧ j < off + k
      · rw [if_pos h2, if_pos (by omega)]
      · rw [if_neg h2, if_neg (by omega)]
/-- A row of bytes with others laid over it from a place on. -/
def lays (bs : List UInt8) (off : Nat) (new : List UInt8) : List UInt8 := bs.take off ++ new ++ bs.drop (off + new.length)
theorem lays_length {bs new : List UInt8} {off : Nat} (h : off + new.length ≤ bs.length) : (lays bs off new).length = bs.length := by
  simp [lays]; omega
theorem lays_get {bs new : List UInt8} {off : Nat} (h : off + new.length ≤ bs.length) (j : Nat) :
    (lays bs off new)[j]? = if off ≤ j ∧ j < off + new.length then new[j - off]? else bs[j]? := by
  unfold lays
  by_cases h1 : j < off
  · rw [if_neg (by omega), List.append_assoc, List.getElem?_append_left (by simp; omega), List.getElem?_take, if_pos h1]
  · by_cases h2 : j < off + new.length
    · rw [if_pos (by omega), List.getElem?_append_left (by simp; omega), List.getElem?_append_right (by simp; omega)]
      simp [Nat.min_eq_left (by omega : off ≤ bs.length)]
    · rw [if_neg (by omega), List.getElem?_append_right (by simp; omega), List.getElem?_drop]
      congr 1
      simp; omega
/-- A row of one's own, into whose block bytes were written. -/
theorem own_put {w w' : World} {base g cap n : Nat} {t : TypeId} {cur : Array Value} {bs new : List UInt8} {off : Nat}
    (h : w.ownsRow base t 1 (.slice (some ⟨g, 0, none⟩) n cap) n (bvl bs)) (hb : Blk w g t cur) (hn : off + new.length ≤ n)
    (h' : Blk w' g t (putN cur off new new.length)) : w'.ownsRow base t 1 (.slice (some ⟨g, 0, none⟩) n cap) n (bvl (lays bs off new)) := by
  obtain ⟨hl, hr⟩ := h
  rw [bvl_length] at hl
  rcases hr with ⟨e, _⟩ | ⟨g', cap', cur', e, hbase, hh, h1, h2, h3, h4⟩
  · cases e
  · injection e with e1 e2 e3
    obtain rfl : g = g' := by injection e1 with e1; injection e1
    subst e3
    obtain rfl : cur = cur' := Blk.same hb hh
    refine ⟨by rw [bvl_length, lays_length (by omega)]; omega, .inr ⟨g, cap, _, rfl, hbase, h', h1, h2, by rw [putN_size]; exact h3, ?_⟩⟩
    apply List.ext_getElem?
    intro j
    have ho : ∀ j, j < n → cur[j]? = (bs[j]?).map bval := fun j hj => by
      have := congrArg (fun l => l[j]?) h4
      simp only [List.getElem?_take, Array.getElem?_toList, bvl_get] at this
      rw [if_pos (by omega)] at this
      exact this
    rw [List.getElem?_take, Array.getElem?_toList, bvl_get, lays_get (by omega), putN_get _ _ _ _ _ (by omega)]
    by_cases hj : j < n * 1
    · rw [if_pos hj]
      by_cases h5 : off ≤ j ∧ j < off + new.length
      · rw [if_pos h5, if_pos h5]
        have : j - off < new.length := by omega
        simp [List.getElem?_eq_getElem this]
      · rw [if_neg h5, if_neg h5]
        exact ho j (by omega)
    · rw [if_neg hj, if_neg (by omega), List.getElem?_eq_none (by omega)]; rfl
end Go.Proofs.Ytifamhmiibhohaa

namespace Go.Proofs.Ytifamhmiibhohaa
open Go.RowKit

/-- The slice (A, n, whatever capacity) reads as these one-cell values. -/
def RowAt (w : World) (A : Option Addr) (n : Nat) (vs : List Value) : Prop :=
  vs.length = n ∧ (0 < n → ∃ a, A = some a ∧ ∀ (i : Nat) (u : Value), vs[i]? = some u → w.cell? (a.add i) = some u)
def ints (zs : List Int) : List Value := zs.map (Value.int .i64)
def nums (xs : List Nat) : List Value := xs.map fun (x : Nat) => Value.int .u64 (x : Int)
section
variable {w w1 : World} {A : Option Addr} {n : Nat} {vs : List Value}
theorem RowAt.nil_ (w : World) (A : Option Addr) : RowAt w A 0 [] := ⟨rfl, fun h => absurd h (by omega)⟩
theorem RowAt.len (h : RowAt w A n vs) : vs.length = n := h.1
theorem RowAt.at_ {k : Nat} (h : RowAt w A n vs) (hk : k < n) : ∃ a u, A = some a ∧ vs[k]? = some u ∧ w.cell? (a.add k) = some u := by
  obtain ⟨a, e, hc⟩ := h.2 (by omega)
  have hl : k < vs.length := by have := h.1; omega
  exact ⟨a, vs[k], e, List.getElem?_eq_getElem hl, hc k _ (List.getElem?_eq_getElem hl)⟩
theorem RowAt.lt {a : Addr} (h : RowAt w (some a) n vs) (hn : 0 < n) : a.block < w.heap.size := by
  obtain ⟨a', c, e, _, hc⟩ := h.at_ hn
  obtain rfl : a = a' := by simpa using e
  have := World.block_lt_of_cell? w _ hc
  rwa [block_of_add] at this
theorem RowAt.keep (h : RowAt w A n vs) (hk : ∀ a, A = some a → 0 < n → ∀ i u, w.cell? (a.add i) = some u → w1.cell? (a.add i) = some u) : RowAt w1 A n vs :=
  ⟨h.1, fun hn => by
    obtain ⟨a, e, hc⟩ := h.2 hn
    exact ⟨a, e, fun i c hi => hk a e hn i _ (hc i c hi)⟩⟩
theorem RowAt.below (h : RowAt w A n vs) (hb : Below w.heap.size w w1) : RowAt w1 A n vs :=
  h.keep fun _ _ _ _ _ hu => (hb.cell (World.block_lt_of_cell? w _ hu)).trans hu
theorem RowAt.drew (h : RowAt w A n vs) : RowAt w.drew A n vs := h
theorem RowAt.drewN (h : RowAt w A n vs) (k : Nat) : RowAt (w.drewN k) A n vs := h
theorem RowAt.alloc (h : RowAt w A n vs) (o : Obj) : RowAt (w.alloc o) A n vs := h.below ((Below.refl _ w).alloc (Nat.le_refl _) o)
theorem RowAt.grown {row : Option Nat} (h : RowAt w A n vs) (hg : w.grownBy w1 row) (hne : ∀ a, A = some a → 0 < n → some a.block ≠ row) : RowAt w1 A n vs :=
  h.keep fun a e hn _ _ hu => (World.cell?_of_block (hg.block _ (World.block_lt_of_cell? w _ hu) (by rw [block_of_add]; exact hne a e hn))).trans hu
theorem RowAt.setCell (h : RowAt w A n vs) {p : Addr} (hne : ∀ a, A = some a → 0 < n → a.block ≠ p.block) (u : Value) : RowAt (w.setCell p u) A n vs :=
  h.keep fun a e hn i _ hu => (World.cell?_of_block (Below.heap_setCell w p u (a.add i).block (by rw [block_of_add]; exact hne a e hn))).trans hu
theorem RowAt.cut {a : Addr} (h : RowAt w (some a) n vs) (lo hi : Nat) (h1 : lo ≤ hi) (h2 : hi ≤ n) : RowAt w (some (a.add lo)) (hi - lo) ((vs.drop lo).take (hi - lo)) := by
  refine ⟨by rw [List.length_take, List.length_drop, h.1]; omega, fun hn => ⟨_, rfl, fun i c hi' => ?_⟩⟩
  obtain ⟨a', e, hc⟩ := h.2 (by omega)
  obtain rfl : a = a' := by simpa using e
  rw [add_of_add]
  refine hc (lo + i) c ?_
  rw [List.getElem?_take] at hi'
  split at hi'
  · rw [List.getElem?_drop] at hi'; exact hi'
  · cases hi'
theorem RowAt.of_own {base : Nat} {e : TypeId} {c : Nat} (h : w.ownsRow base e 1 (.slice A n c) n vs) : RowAt w A n vs := by
  refine ⟨by have := h.1; omega, fun hn => ?_⟩
  obtain ⟨g, cap, hv, _, hlt⟩ := h.form hn
  have hA : A = some ⟨g, 0, none⟩ := by injection hv
  subst hA
  exact ⟨_, rfl, fun i c hi => h.cells (g := g) rfl i _ hi⟩
theorem RowAt.int_at {zs : List Int} {k : Nat} (h : RowAt w A n (ints zs)) (hk : k < n) : ∃ a z, A = some a ∧ zs[k]? = some z ∧ w.cell? (a.add k) = some (.int .i64 z) := by
  obtain ⟨a, u, e, hu, hc⟩ := h.at_ hk
  unfold ints at hu
  rw [List.getElem?_map] at hu
  cases hz : zs[k]? with
  | none => rw [hz] at hu; cases hu
  | some z => rw [hz] at hu; injection hu with hu; subst hu; exact ⟨a, z, e, rfl, hc⟩
theorem RowAt.num_at {xs : List Nat} {k : Nat} (h : RowAt w A n (nums xs)) (hk : k < n) : ∃ a x, A = some a ∧ xs[k]? = some x ∧ w.cell? (a.add k) = some (.int .u64 (x : Int)) := by
  obtain ⟨a, u, e, hu, hc⟩ := h.at_ hk
  unfold nums at hu
  rw [List.getElem?_map] at hu
  cases hz : xs[k]? with
  | none => rw [hz] at hu; cases hu
  | some z => rw [hz] at hu; injection hu with hu; subst hu; exact ⟨a, z, e, rfl, hc⟩
theorem BytesAt.row {bs : List UInt8} (h : BytesAt w A n bs) : RowAt w A n (bvl bs) := by
  refine ⟨by rw [bvl_length]; exact h.1, fun hn => ?_⟩
  obtain ⟨a, e, hc⟩ := h.2 hn
  refine ⟨a, e, fun i u hi => ?_⟩
  rw [bvl_get] at hi
  cases hz : bs[i]? with
  | none => rw [hz] at hi; cases hi
  | some z => rw [hz] at hi; injection hi with hi; subst hi; exact hc i z hz
theorem BytesAt.of_row {bs : List UInt8} (h : RowAt w A n (bvl bs)) : BytesAt w A n bs := by
  refine ⟨by have := h.1; rwa [bvl_length] at this, fun hn => ?_⟩
  obtain ⟨a, e, hc⟩ := h.2 hn
  refine ⟨a, e, fun i c hi => hc i _ ?_⟩
  rw [bvl_get, hi]; rfl
end
end Go.Proofs.Ytifamhmiibhohaa

namespace Go.Proofs.Ytifamhmiibhohaa.Wire
open Go.RowKit

/-! ### the sum -/
def poly : BitVec 32 := 0x82F63B78#32
def stp (c : BitVec 32) : BitVec 32 := (c >>> 1) ^^^ (if c.getLsbD 0 then poly else 0#32)
def stpN : Nat → BitVec 32 → BitVec 32
  | 0, c => c
  | k + 1, c => stp (stpN k c)
theorem stpN_succ (k : Nat) (c : BitVec 32) : stpN (k + 1) c = (stpN k c >>> 1) ^^^ (if (stpN k c).getLsbD 0 then poly else 0#32) := rfl
theorem stpN_zero (c : BitVec 32) : stpN 0 c = c := rfl
def by32 (x : UInt8) : BitVec 32 := BitVec.ofNat 32 x.toNat
def upd (c : BitVec 32) (x : UInt8) : BitVec 32 := stpN 8 (c ^^^ by32 x)
def crcF (c : BitVec 32) (l : List UInt8) : BitVec 32 := l.foldl upd c
/-- The CRC-32C. -/
def crc (seed : BitVec 32) (l : List UInt8) : BitVec 32 := ~~~ (crcF (~~~ seed) l)

theorem xor_left {a b x : BitVec 32} (h : a ^^^ x = b ^^^ x) : a = b := by
  have := congrArg (· ^^^ x) h
  simpa [BitVec.xor_assoc] using this
theorem xor_right {a b x : BitVec 32} (h : x ^^^ a = x ^^^ b) : a = b := by
  rw [BitVec.xor_comm x a, BitVec.xor_comm x b] at h
  exact xor_left h
theorem stp_xor (a b : BitVec 32) : stp (a ^^^ b) = stp a ^^^ stp b := by
  unfold stp
  rw [BitVec.ushiftRight_xor_distrib, BitVec.getLsbD_xor]
  have xc : ∀ x y z : BitVec 32, x ^^^ y ^^^ z = x ^^^ z ^^^ y := fun x y z => by rw [BitVec.xor_assoc, BitVec.xor_comm y z, ← BitVec.xor_assoc]
  have xx : ∀ x y z : BitVec 32, x ^^^ z ^^^ (y ^^^ z) = x ^^^ y := fun x y z => by rw [BitVec.xor_comm y z, ← BitVec.xor_assoc, BitVec.xor_assoc x z z]; simp
  cases a.getLsbD 0 <;> cases b.getLsbD 0 <;> simp only [Bool.xor_false, Bool.xor_true, Bool.not_true, Bool.not_false, if_true, Bool.false_eq_true, if_false, BitVec.xor_zero]
  · rw [BitVec.xor_assoc]
  · exact xc _ _ _
  · exact (xx _ _ _).symm
theorem stpN_xor (k : Nat) (a b : BitVec 32) : stpN k (a ^^^ b) = stpN k a ^^^ stpN k b := by
  induction k with
  | zero => rfl
  | succ k ih => simp only [stpN]; rw [ih, stp_xor]
theorem stpN_low (d : BitVec 32) (h : ∀ i, i < 8 → d.getLsbD i = false) (k : Nat) (hk : k ≤ 8) : stpN k d = d >>> k := by
  induction k with
  | zero => simp [stpN]
  | succ k ih =>
    rw [stpN, ih (by omega), stp]
    have : (d >>> k).getLsbD 0 = false := by rw [BitVec.getLsbD_ushiftRight]; simpa using h k (by omega)
    rw [this]
    simp [← BitVec.shiftRight_add]
theorem by32_high (x : UInt8) (i : Nat) (h : 8 ≤ i) : (by32 x).getLsbD i = false := by
  unfold by32
  rw [BitVec.getLsbD_ofNat]
  have hx : x.toNat < 2 ^ i := Nat.lt_of_lt_of_le x.toNat_lt (Nat.pow_le_pow_right (by omega) h)
  simp [Nat.testBit_lt_two_pow hx]
theorem mask_lsb (c : BitVec 32) (i : Nat) : (c &&& 255#32).getLsbD i = (decide (i < 8) && c.getLsbD i) := by
  rw [BitVec.getLsbD_and]
  have : (255#32).getLsbD i = decide (i < 8) := by
    rw [show (255#32) = BitVec.ofNat 32 (2 ^ 8 - 1) from rfl, BitVec.getLsbD_ofNat, Nat.testBit_two_pow_sub_one]
    by_cases h : i < 8
    · simp [h]; omega
    · simp [h]
  rw [this, Bool.and_comm]
/-- The program's way: a table's step by the low byte, and the rest moved on. -/
theorem upd_eq (c : BitVec 32) (x : UInt8) : stpN 8 ((c ^^^ by32 x) &&& 255#32) ^^^ (c >>> 8) = upd c x := by
  unfold upd
  have hs : c ^^^ by32 x = ((c ^^^ by32 x) &&& 255#32) ^^^ ((c ^^^ by32 x) &&& ~~~ 255#32) := by
    apply BitVec.eq_of_getLsbD_eq
    intro i hi
    generalize c ^^^ by32 x = d
    rw [BitVec.getLsbD_xor, BitVec.getLsbD_and, BitVec.getLsbD_and, BitVec.getLsbD_not]
    cases d.getLsbD i <;> cases (255#32).getLsbD i <;> simp [hi]
  have hl : stpN 8 ((c ^^^ by32 x) &&& ~~~ 255#32) = c >>> 8 := by
    rw [stpN_low _ _ 8 (Nat.le_refl _)]
    · apply BitVec.eq_of_getLsbD_eq
      intro i hi
      rw [BitVec.getLsbD_ushiftRight, BitVec.getLsbD_ushiftRight, BitVec.getLsbD_and, BitVec.getLsbD_not, BitVec.getLsbD_xor, by32_high x (8 + i) (by omega)]
      have hm : (255#32).getLsbD (8 + i) = false := by
        rw [show (255#32) = BitVec.ofNat 32 (2 ^ 8 - 1) from rfl, BitVec.getLsbD_ofNat, Nat.testBit_two_pow_sub_one]; simp
      rw [hm]
      by_cases h8 : 8 + i < 32
      · simp [h8]
      · rw [BitVec.getLsbD_of_ge c (8 + i) (by omega)]; simp
    · intro i hi
      rw [BitVec.getLsbD_and, BitVec.getLsbD_not]
      have hm : (255#32).getLsbD i = true := by
        rw [show (255#32) = BitVec.ofNat 32 (2 ^ 8 - 1) from rfl, BitVec.getLsbD_ofNat, Nat.testBit_two_pow_sub_one]; simp; omega
      rw [hm]; simp
  conv => rhs; rw [hs]
  rw [stpN_xor, hl]
def xb (c : BitVec 32) (x : UInt8) : BitVec 32 := c ^^^ by32 x
def low (d : BitVec 32) : BitVec 32 := d &&& 255#32
theorem crcF_nil (c : BitVec 32) : crcF c [] = c := rfl
theorem crc_eq (s : BitVec 32) (l : List UInt8) : crc s l = ~~~ (crcF (~~~ s) l) := rfl
theorem crcF_append (c : BitVec 32) (a b : List UInt8) : crcF c (a ++ b) = crcF (crcF c a) b := by simp [crcF]
theorem crcF_snoc (c : BitVec 32) (a : List UInt8) (x : UInt8) : crcF c (a ++ [x]) = upd (crcF c a) x := by simp [crcF]
theorem crc_append (s : BitVec 32) (a b : List UInt8) : crc s (a ++ b) = crc (crc s a) b := by
  unfold crc; rw [crcF_append]; simp

/-- A step forgets nothing. -/
theorem stp_inj {a b : BitVec 32} (h : stp a = stp b) : a = b := by
  have h31 : ∀ c : BitVec 32, (stp c).getLsbD 31 = c.getLsbD 0 := by
    intro c
    unfold stp
    rw [BitVec.getLsbD_xor, BitVec.getLsbD_ushiftRight, BitVec.getLsbD_of_ge c (1 + 31) (by omega)]
    cases c.getLsbD 0 <;> simp [poly]
  have h0 : a.getLsbD 0 = b.getLsbD 0 := by rw [← h31 a, ← h31 b, h]
  have hs : a >>> 1 = b >>> 1 := by
    unfold stp at h
    rw [h0] at h
    exact xor_left h
  apply BitVec.eq_of_getLsbD_eq
  intro i hi
  rcases Nat.eq_zero_or_pos i with rfl | hp
  · exact h0
  · have := congrArg (fun z => z.getLsbD (i - 1)) hs
    simp only [BitVec.getLsbD_ushiftRight] at this
    rwa [show 1 + (i - 1) = i by omega] at this
theorem stpN_inj (k : Nat) {a b : BitVec 32} (h : stpN k a = stpN k b) : a = b := by
  induction k with
  | zero => exact h
  | succ k ih => exact ih (stp_inj h)
theorem upd_inj {a b : BitVec 32} {x : UInt8} (h : upd a x = upd b x) : a = b := by
  have := stpN_inj 8 h
  exact xor_left this
theorem crcF_inj (l : List UInt8) : ∀ {a b : BitVec 32}, crcF a l = crcF b l → a = b := by
  induction l with
  | nil => intro a b h; exact h
  | cons x l ih => intro a b h; exact upd_inj (ih h)
theorem by32_inj {x y : UInt8} (h : by32 x = by32 y) : x = y := by
  have := congrArg BitVec.toNat h
  unfold by32 at this
  rw [BitVec.toNat_ofNat, BitVec.toNat_ofNat, Nat.mod_eq_of_lt (by have := x.toNat_lt; omega), Nat.mod_eq_of_lt (by have := y.toNat_lt; omega)] at this
  exact UInt8.toNat_inj.mp this
/-- One byte turned is told. -/
theorem crc_turned (s : BitVec 32) (a : List UInt8) (x y : UInt8) (b : List UInt8) (h : crc s (a ++ x :: b) = crc s (a ++ y :: b)) : x = y := by
  unfold crc at h
  have h1 := BitVec.not_inj.mp h
  rw [crcF_append, crcF_append] at h1
  have h2 : upd (crcF (~~~ s) a) x = upd (crcF (~~~ s) a) y := crcF_inj b h1
  have h3 := stpN_inj 8 h2
  exact by32_inj (xor_right h3)
end Go.Proofs.Ytifamhmiibhohaa.Wire

namespace Go.Proofs.Ytifamhmiibhohaa.Wire
open Go.RowKit

/-- Bytes as a number, the lowest first. -/
def num : List UInt8 → Nat
  | [] => 0
  | c :: l => c.toNat + 256 * num l
/-- A number as n bytes. -/
def le : Nat → Nat → List UInt8
  | 0, _ => []
  | n + 1, x => UInt8.ofNat (x % 256) :: le n (x / 256)
theorem le_length (n : Nat) : ∀ x, (le n x).length = n := by
  induction n with
  | zero => intro x; rfl
  | succ n ih => intro x; simp [le, ih]
theorem num_lt (l : List UInt8) : num l < 256 ^ l.length := by
  induction l with
  | nil => simp [num]
  | cons c l ih =>
    have := c.toNat_lt
    simp only [num, List.length_cons, Nat.pow_succ]
    omega
theorem num_le (n : Nat) : ∀ x, x < 256 ^ n → num (le n x) = x := by
  induction n with
  | zero => intro x h; simp at h; simp [le, num, h]
  | succ n ih =>
    intro x h
    have h2 : x / 256 < 256 ^ n := by rw [Nat.pow_succ] at h; exact Nat.div_lt_of_lt_mul (by rw [Nat.mul_comm]; exact h)
    simp only [le, num]
    rw [ih _ h2, UInt8.toNat_ofNat']
    have : x % 256 < 2 ^ 8 := Nat.mod_lt _ (by omega)
    rw [Nat.mod_eq_of_lt this]; omega
theorem le_num (l : List UInt8) : le l.length (num l) = l := by
  induction l with
  | nil => rfl
  | cons c l ih =>
    simp only [List.length_cons, le, num]
    have h1 : (c.toNat + 256 * num l) % 256 = c.toNat := by have := c.toNat_lt; omega
    have h2 : (c.toNat + 256 * num l) / 256 = num l := by have := c.toNat_lt; omega
    rw [h1, h2, ih]
    simp
theorem num_snoc (l : List UInt8) (c : UInt8) : num (l ++ [c]) = num l + 256 ^ l.length * c.toNat := by
  induction l with
  | nil => simp [num]
  | cons a l ih =>
    simp only [List.cons_append, num, List.length_cons, ih, Nat.pow_succ]
    rw [Nat.mul_add, ← Nat.mul_assoc, Nat.mul_comm 256 (256 ^ l.length)]; omega
theorem num_append (a b : List UInt8) : num (a ++ b) = num a + 256 ^ a.length * num b := by
  induction a with
  | nil => simp [num]
  | cons c l ih =>
    simp only [List.cons_append, num, List.length_cons, ih, Nat.pow_succ]
    rw [Nat.mul_add, ← Nat.mul_assoc, Nat.mul_comm 256 (256 ^ l.length)]; omega
theorem le_get (n : Nat) : ∀ (x i : Nat), i < n → (le n x)[i]? = some (UInt8.ofNat (x / 256 ^ i % 256)) := by
  induction n with
  | zero => intro x i h; omega
  | succ n ih =>
    intro x i h
    cases i with
    | zero => simp [le]
    | succ i =>
      simp only [le, List.getElem?_cons_succ]
      rw [ih _ i (by omega), Nat.div_div_eq_div_mul, Nat.pow_succ, Nat.mul_comm 256]
theorem num_inj {a b : List UInt8} (hl : a.length = b.length) (h : num a = num b) : a = b := by
  rw [← le_num a, ← le_num b, hl, h]

/-- Are there n bytes at a place? -/
def fits (len : Nat) (at_ n : Int) : Bool := decide (1 ≤ n) && decide (n ≤ 8) && decide (0 ≤ at_) && decide (at_ ≤ len) && decide (n ≤ len - at_)
theorem fits_true {len : Nat} {at_ n : Int} (h : fits len at_ n = true) : 1 ≤ n ∧ n ≤ 8 ∧ 0 ≤ at_ ∧ at_ ≤ len ∧ n ≤ len - at_ := by
  simpa [fits, and_assoc] using h
theorem fits_mk {len : Nat} {at_ n : Int} (h1 : 1 ≤ n) (h2 : n ≤ 8) (h3 : 0 ≤ at_) (h4 : n ≤ len - at_) : fits len at_ n = true := by
  simp [fits]; omega
theorem fits_false {len : Nat} {at_ n : Int} (h : fits len at_ n = false) : n < 1 ∨ 8 < n ∨ at_ < 0 ∨ (len : Int) < at_ ∨ (len : Int) - at_ < n := by
  simp [fits] at h
  omega
/-- The bytes at a place. -/
def sub (bs : List UInt8) (at_ n : Int) : List UInt8 := (bs.drop at_.toNat).take n.toNat
theorem sub_length {bs : List UInt8} {at_ n : Int} (h : fits bs.length at_ n = true) : (sub bs at_ n).length = n.toNat := by
  obtain ⟨h1, h2, h3, h4, h5⟩ := fits_true h
  simp [sub]; omega
/-- Get: the number, and the error. -/
def getX (bs : List UInt8) (at_ n : Int) : Nat := if fits bs.length at_ n = true then num (sub bs at_ n) else 0
def getE (len : Nat) (at_ n : Int) : Int := if fits len at_ n = true then 0 else 22
/-- Put: the bytes then, and the error. -/
def putB (bs : List UInt8) (at_ n : Int) (x : Nat) : List UInt8 := if fits bs.length at_ n = true then (if x < 256 ^ n.toNat then lay bs at_.toNat (le n.toNat x) else bs) else bs
where lay (bs : List UInt8) (off : Nat) (new : List UInt8) : List UInt8 := bs.take off ++ new ++ bs.drop (off + new.length)
def putE (len : Nat) (at_ n : Int) (x : Nat) : Int := if fits len at_ n = true then (if x < 256 ^ n.toNat then 0 else 34) else 22
theorem num_lt64 {l : List UInt8} (h : l.length ≤ 8) : num l < 18446744073709551616 :=
  Nat.lt_of_lt_of_le (num_lt l) (Nat.le_trans (Nat.pow_le_pow_right (by omega) h) (by decide))
/-- Are bytes sealed? -/
def sealedB (seed : BitVec 32) (bs : List UInt8) : Bool := decide (4 ≤ bs.length) && (num (bs.drop (bs.length - 4)) == (crc seed (bs.take (bs.length - 4))).toNat)
/-- The bytes when they are sealed. -/
def sealB (seed : BitVec 32) (bs : List UInt8) : List UInt8 := if 4 ≤ bs.length then bs.take (bs.length - 4) ++ le 4 (crc seed (bs.take (bs.length - 4))).toNat else bs
def sealE (len : Nat) : Int := if 4 ≤ len then 0 else 22
end Go.Proofs.Ytifamhmiibhohaa.Wire

namespace Go.Proofs.Ytifamhmiibhohaa.Wire
open Go.RowKit

def wok1 (z : Int) : Bool := decide (1 ≤ z) && decide (z ≤ 8)
/-- May all widths be? -/
def wok (ws : List Int) : Bool := ws.all wok1
theorem wok1_true {z : Int} (h : wok1 z = true) : 1 ≤ z ∧ z ≤ 8 := by simpa [wok1] using h
theorem wok_at {ws : List Int} (h : wok ws = true) {k : Nat} {z : Int} (hz : ws[k]? = some z) : 1 ≤ z ∧ z ≤ 8 :=
  wok1_true (List.all_eq_true.1 h z (List.mem_of_getElem? hz))
theorem wsum_le (ws : List Int) : wok ws = true → (ws.length : Int) ≤ ws.sum ∧ ws.sum ≤ 8 * ws.length := by
  induction ws with
  | nil => intro _; simp
  | cons z l ih =>
    intro h
    simp only [wok, List.all_cons, Bool.and_eq_true] at h
    obtain ⟨h1, h2⟩ := wok1_true h.1
    have := ih h.2
    simp only [List.sum_cons, List.length_cons]
    omega
theorem wok_take {ws : List Int} (h : wok ws = true) (k : Nat) : wok (ws.take k) = true := by
  unfold wok at *
  rw [List.all_eq_true] at *
  exact fun z hz => h z (List.mem_of_mem_take hz)
theorem wsum_succ {ws : List Int} {k : Nat} {z : Int} (hz : ws[k]? = some z) : (ws.take (k + 1)).sum = (ws.take k).sum + z := by
  rw [List.take_add_one, hz]; simp
theorem wsum_mono {ws : List Int} (h : wok ws = true) (k : Nat) : 0 ≤ (ws.take k).sum ∧ (ws.take k).sum ≤ ws.sum := by
  have h1 := wsum_le _ (wok_take h k)
  have h2 : wok (ws.drop k) = true := by
    unfold wok at *
    rw [List.all_eq_true] at *
    exact fun z hz => h z (List.mem_of_mem_drop hz)
  have h3 := wsum_le _ h2
  have h4 : ws.sum = (ws.take k).sum + (ws.drop k).sum := by rw [← List.sum_append, List.take_append_drop]
  omega
/-- The first width that may not be. -/
theorem wok_false (ws : List Int) : wok ws = false → ∃ (j : Nat) (z : Int), ws[j]? = some z ∧ wok1 z = false ∧ wok (ws.take j) = true := by
  induction ws with
  | nil => intro h; simp [wok] at h
  | cons z l ih =>
    intro h
    cases hz : wok1 z
    · exact ⟨0, z, rfl, hz, rfl⟩
    · simp only [wok, List.all_cons, hz, Bool.true_and] at h
      obtain ⟨j, y, h1, h2, h3⟩ := ih h
      exact ⟨j + 1, y, by simpa using h1, h2, by simp only [List.take_succ_cons, wok, List.all_cons, hz, Bool.true_and]; exact h3⟩
/-- Numbers as bytes; none: one does not go in. -/
def packs : List Nat → List Int → Option (List UInt8)
  | x :: l, z :: ws => if x < 256 ^ z.toNat then (packs l ws).map (le z.toNat x ++ ·) else none
  | _, _ => some []
/-- The first numbers as bytes, come what may. -/
def pre : List Nat → List Int → Nat → List UInt8
  | x :: l, z :: ws, k + 1 => le z.toNat x ++ pre l ws k
  | _, _, _ => []
theorem pre_length : ∀ (l : List Nat) (ws : List Int) (k : Nat), l.length = ws.length → wok ws = true → ((pre l ws k).length : Int) = (ws.take k).sum
  | [], [], k, _, _ => by simp [pre]
  | x :: l, z :: ws, 0, _, _ => by simp [pre]
  | x :: l, z :: ws, k + 1, h, hw => by
    simp only [wok, List.all_cons, Bool.and_eq_true] at hw
    obtain ⟨h1, h2⟩ := wok1_true hw.1
    have := pre_length l ws k (by simpa using h) hw.2
    simp only [pre, List.length_append, le_length, List.take_succ_cons, List.sum_cons]
    omega
theorem pre_succ : ∀ (l : List Nat) (ws : List Int) (k x : Nat) (z : Int), l[k]? = some x → ws[k]? = some z → pre l ws (k + 1) = pre l ws k ++ le z.toNat x
  | [], ws, k, x, z, h, _ => by simp at h
  | y :: l, [], k, x, z, _, h => by simp at h
  | y :: l, v :: ws, 0, x, z, h, h' => by
    simp at h h'
    subst h h'
    cases l <;> cases ws <;> simp [pre]
  | y :: l, v :: ws, k + 1, x, z, h, h' => by
    simp only [pre]
    rw [pre_succ l ws k x z (by simpa using h) (by simpa using h'), List.append_assoc]
/-- Either all go in, or there is a first one that does not. -/
theorem packs_some : ∀ (l : List Nat) (ws : List Int), l.length = ws.length → (∀ (k x : Nat) (z : Int), l[k]? = some x → ws[k]? = some z → x < 256 ^ z.toNat) → packs l ws = some (pre l ws l.length)
  | [], [], _, _ => rfl
  | x :: l, z :: ws, h, hk => by
    have h0 := hk 0 x z rfl rfl
    have := packs_some l ws (by simpa using h) (fun k y v hy hv => hk (k + 1) y v (by simpa using hy) (by simpa using hv))
    simp only [packs, h0, if_true, this, Option.map_some, List.length_cons, pre]
theorem packs_none : ∀ (l : List Nat) (ws : List Int) (k x : Nat) (z : Int), l[k]? = some x → ws[k]? = some z → ¬ x < 256 ^ z.toNat → packs l ws = none
  | [], ws, k, x, z, h, _, _ => by simp at h
  | y :: l, [], k, x, z, _, h, _ => by simp at h
  | y :: l, v :: ws, 0, x, z, h, h', hx => by
    simp at h h'
    subst h h'
    simp [packs, hx]
  | y :: l, v :: ws, k + 1, x, z, h, h', hx => by
    have := packs_none l ws k x z (by simpa using h) (by simpa using h') hx
    simp only [packs, this, Option.map_none, ite_self]
theorem first_big (l : List Nat) (ws : List Int) (hl : l.length = ws.length) :
    (∀ (k x : Nat) (z : Int), l[k]? = some x → ws[k]? = some z → x < 256 ^ z.toNat) ∨
    ∃ (j x : Nat) (z : Int), l[j]? = some x ∧ ws[j]? = some z ∧ ¬ x < 256 ^ z.toNat ∧ ∀ (k y : Nat) (v : Int), k < j → l[k]? = some y → ws[k]? = some v → y < 256 ^ v.toNat := by
  induction l generalizing ws with
  | nil => left; intro k x z h; simp at h
  | cons x l ih =>
    cases ws with
    | nil => simp at hl
    | cons z ws =>
      by_cases hx : x < 256 ^ z.toNat
      · rcases ih ws (by simpa using hl) with h | ⟨j, y, v, h1, h2, h3, h4⟩
        · left
          intro k y v hy hv
          cases k with
          | zero => simp at hy hv; subst hy hv; exact hx
          | succ k => exact h k y v (by simpa using hy) (by simpa using hv)
        · right
          refine ⟨j + 1, y, v, by simpa using h1, by simpa using h2, h3, ?_⟩
          intro k y' v' hk hy hv
          cases k with
          | zero => simp at hy hv; subst hy hv; exact hx
          | succ k => exact h4 k y' v' (by omega) (by simpa using hy) (by simpa using hv)
      · right
        exact ⟨0, x, z, rfl, rfl, hx, fun k _ _ hk => absurd hk (by omega)⟩
/-- May there be such a packing? -/
def pmay (l : List Nat) (ws : List Int) (size : Int) : Bool := decide (l.length = ws.length) && (wok ws && (decide (ws.sum ≤ size) && decide (size ≤ 4096)))
/-- Pack's bytes, and its error. -/
def packB (l : List Nat) (ws : List Int) (size : Int) : List UInt8 :=
  if pmay l ws size = true then (match packs l ws with | some bs => bs ++ List.replicate (size.toNat - bs.length) 0 | none => []) else []
def packE (l : List Nat) (ws : List Int) (size : Int) : Int :=
  if pmay l ws size = true then (match packs l ws with | some _ => 0 | none => 34) else 22
/-- Unpack's numbers, and its error. -/
def unpacks : List UInt8 → List Int → List Nat
  | _, [] => []
  | bs, z :: ws => num (bs.take z.toNat) :: unpacks (bs.drop z.toNat) ws
def umay (bs : List UInt8) (ws : List Int) : Bool := wok ws && decide (ws.sum = bs.length)
def unpackX (bs : List UInt8) (ws : List Int) : List Nat := if umay bs ws = true then unpacks bs ws else []
def unpackE (bs : List UInt8) (ws : List Int) : Int := if umay bs ws = true then 0 else 22
end Go.Proofs.Ytifamhmiibhohaa.Wire

namespace Go.Proofs.Ytifamhmiibhohaa.Wire
open Go.RowKit
set_option maxHeartbeats 8000000
set_option maxRecDepth 100000
set_option linter.unusedVariables false
set_option linter.unusedSimpArgs false

/-! ### 32-bit words as the walk writes them -/
theorem ofInt_u32 (c : BitVec 32) : BitVec.ofInt 32 (c.toNat : Int) = c := by
  rw [BitVec.ofInt_natCast, BitVec.ofNat_toNat, BitVec.setWidth_eq]
theorem u32_wrap (c : BitVec 32) : IntKind.u32.wrap (c.toNat : Int) = (c.toNat : Int) := by
  have := c.isLt
  rw [IntKind.wrap_u32]; omega
theorem u32_xor (a b : BitVec 32) : bits .xor .u32 (a.toNat : Int) (b.toNat : Int) = ((a ^^^ b).toNat : Int) := by
  show IntKind.u32.wrap ((BitVec.ofInt 32 (a.toNat : Int) ^^^ BitVec.ofInt 32 (b.toNat : Int)).toNat : Int) = _
  rw [ofInt_u32, ofInt_u32, u32_wrap]
theorem u32_and (a b : BitVec 32) : bits .and .u32 (a.toNat : Int) (b.toNat : Int) = ((a &&& b).toNat : Int) := by
  show IntKind.u32.wrap ((BitVec.ofInt 32 (a.toNat : Int) &&& BitVec.ofInt 32 (b.toNat : Int)).toNat : Int) = _
  rw [ofInt_u32, ofInt_u32, u32_wrap]
theorem u32_half (a : BitVec 32) : (a.toNat : Int) / (2 : Int) = ((a >>> 1).toNat : Int) := by
  rw [BitVec.toNat_ushiftRight, Nat.shiftRight_eq_div_pow]; simp
theorem u32_shr8 (a : BitVec 32) : (a.toNat : Int) / (256 : Int) = ((a >>> 8).toNat : Int) := by
  rw [BitVec.toNat_ushiftRight, Nat.shiftRight_eq_div_pow]; simp
theorem and1 (a : BitVec 32) : (((a &&& 1#32).toNat : Int) != 0) = a.getLsbD 0 := by
  have h : (a &&& 1#32).toNat = a.toNat % 2 := by rw [BitVec.toNat_and]; exact Nat.and_one_is_mod _
  rw [h, BitVec.getLsbD, Nat.testBit_zero]
  rcases Nat.mod_two_eq_zero_or_one a.toNat with e | e <;> simp [e]

theorem by32_toNat (c : UInt8) : ((by32 c).toNat : Int) = (c.toNat : Int) := by
  unfold by32
  rw [BitVec.toNat_ofNat, Nat.mod_eq_of_lt (by have := c.toNat_lt; omega)]
theorem u32_not (a : BitVec 32) : bits .xor .u32 IntKind.u32.max (a.toNat : Int) = ((~~~ a).toNat : Int) := by
  have : IntKind.u32.max = ((BitVec.allOnes 32).toNat : Int) := by decide
  rw [this, u32_xor, BitVec.allOnes_xor]
theorem u32_xb (y : BitVec 32) (c : UInt8) : bits .xor .u32 (y.toNat : Int) (c.toNat : Int) = ((xb y c).toNat : Int) := by
  rw [← by32_toNat, u32_xor]; rfl
theorem u32_low (y : BitVec 32) : bits .and .u32 (y.toNat : Int) 255 = ((low y).toNat : Int) := u32_and y 255#32
theorem u32_next (y : BitVec 32) (c : UInt8) : bits .xor .u32 ((stpN 8 (low (xb y c))).toNat : Int) ((y.toNat : Int) / (256 : Int)) = ((upd y c).toNat : Int) := by
  rw [u32_shr8, u32_xor, ← upd_eq]; rfl

attribute [local irreducible] stpN

theorem step_any (c : BitVec 32) (w : World) : Calls Try.prog 34 #[.int .u32 (c.toNat : Int)] w fun e w' => e = .returned (.int .u32 ((stpN 8 c).toNat : Int)) ∧ w = w' := by
  go_enter Try.func34, Try.ntmps34
  go_wp2
  go_loop [0, 4] (fun x i => ∃ k : Nat, k ≤ 8 ∧ i = .int .i64 k ∧ x = .int .u32 ((stpN k c).toNat : Int)) (fun _ i => 8 - (intOf i).toNat)
  case atStart => exact ⟨0, by omega, rfl, by rw [stpN_zero]⟩
  case round =>
    obtain ⟨k, hk, rfl, rfl⟩ := hrel
    by_cases hlt : (k : Int) < 8
    · have hx : bits .and .u32 ((stpN k c).toNat : Int) 1 = ((stpN k c &&& 1#32).toNat : Int) := u32_and (stpN k c) 1#32
      have h0 := and1 (stpN k c)
      rw [← hx] at h0
      clear hx
      have h1 : ((stpN k c).toNat : Int) < 4294967296 := by have := (stpN k c).isLt; omega
      have hp : bits .xor .u32 (((stpN k c).toNat : Int) / 2) 2197175160 = (((stpN k c >>> 1) ^^^ poly).toNat : Int) := by
        rw [u32_half]; exact u32_xor (stpN k c >>> 1) poly
      have hs := stpN_succ k c
      have hq := u32_half (stpN k c)
      have HS := Lib.hid hs
      have HP := Lib.hid hp
      have HQ := Lib.hid hq
      clear hs hp hq
      cases hb : (stpN k c).getLsbD 0
      · rw [hb] at h0
        have HB := Lib.hid hb
        clear hb
        go_wp2
        go_round
        case rel => exact ⟨k + 1, by omega, by go_num, by rw [HQ.out, HS.out, HB.out]; simp⟩
        case measure => simp [intOf]; omega
      · rw [hb] at h0
        have HB := Lib.hid hb
        clear hb
        go_wp2
        go_round
        case rel => exact ⟨k + 1, by omega, by go_num, by rw [HP.out, HS.out, HB.out]; simp⟩
        case measure => simp [intOf]; omega
    · obtain rfl : k = 8 := by omega
      go_wp2
      go_ret
      exact ⟨rfl, rfl⟩

theorem crc_any (s : BitVec 32) (A : Option Addr) (n cap : Nat) (bs : List UInt8) (w : World) (hn : n ≤ 9223372036854775807) (hb : BytesAt w A n bs) :
    Calls Try.prog 18 #[.int .u32 (s.toNat : Int), .slice A n cap] w fun e w' => e = .returned (.int .u32 ((crc s bs).toNat : Int)) ∧ w = w' := by
  have HBY := Lib.hid hb
  clear hb
  have hsg : IntKind.u32.signed = false := rfl
  have hnot := u32_not s
  go_enter Try.func18, Try.ntmps18
  go_wp2_with fail
  go_loop [5, 12] (fun x i => ∃ k : Nat, k ≤ n ∧ i = .int .i64 k ∧ x = .int .u32 ((crcF (~~~ s) (bs.take k)).toNat : Int)) (fun _ i => n - (intOf i).toNat)
  case atStart => exact ⟨0, by omega, rfl, by rw [List.take_zero, crcF_nil]; simp⟩
  case round =>
    clear hnot
    obtain ⟨k, hk, rfl, rfl⟩ := hrel
    by_cases hlt : k < n
    · obtain ⟨a, c, rfl, hx, hc⟩ := HBY.out.at_ hlt
      have hs : crcF (~~~ s) (bs.take (k + 1)) = upd (crcF (~~~ s) (bs.take k)) c := by
        rw [List.take_add_one, hx]; exact crcF_snoc _ _ _
      have HS := Lib.hid hs
      have HX := Lib.hid hx
      clear hs hx
      generalize crcF (~~~ s) (bs.take k) = y at HS ⊢
      have q1 := u32_xb y c
      have q2 := u32_low (xb y c)
      have q3 := u32_next y c
      have c1 : (c.toNat : Int) < 256 := by have := c.toNat_lt; omega
      have c2 : (y.toNat : Int) < 4294967296 := by have := y.isLt; omega
      go_wp2_with (go_at_call 34; refine (step_any _ _).mono ?_; rintro e w' ⟨rfl, rfl⟩)
      go_round
      case rel => exact ⟨k + 1, by omega, by go_num, by rw [HS.out]⟩
      case measure => simp [intOf]; omega
    · obtain rfl : k = n := by omega
      have hs : bs.take k = bs := List.take_of_length_le (by have := HBY.out.len; omega)
      rw [hs]
      have hcr := crc_eq s bs
      have HC := Lib.hid hcr
      clear hs hcr
      generalize crcF (~~~ s) bs = y at HC ⊢
      have hnot := u32_not y
      go_wp2_with fail
      go_ret
      exact ⟨ret_int (by rw [HC.out]; simp), rfl⟩

/-! ### part, number, lay -/
theorem part_ok (a : Addr) (len cap : Nat) (at_ n : Int) (w : World) (hl : len ≤ cap) (hc : cap ≤ 9223372036854775807) (hf : fits len at_ n = true) :
    Calls Try.prog 50 #[.slice (some a) len cap, .int .i64 at_, .int .i64 n] w fun e w' => e = .returned (.slice (some (a.add at_.toNat)) n.toNat (cap - at_.toNat)) ∧ w = w' := by
  obtain ⟨h1, h2, h3, h4, h5⟩ := fits_true hf
  clear hf
  go_enter Try.func50, Try.ntmps50
  go_wp2
  go_ret
  refine ⟨?_, rfl⟩
  have e : (at_ + n).toNat - at_.toNat = n.toNat := by omega
  show Ending.returned (.slice (some (a.add at_.toNat)) ((at_ + n).toNat - at_.toNat) (cap - at_.toNat)) = _
  rw [e]
/-- What the package gives up by. -/
def wrong (c : Int) : Value := .iface 88 (.agg #[.int .i64 c])
theorem part_no (A : Option Addr) (len cap : Nat) (at_ n : Int) (w : World) (hl : len ≤ 9223372036854775807) (hf : fits len at_ n = false) :
    Calls Try.prog 50 #[.slice A len cap, .int .i64 at_, .int .i64 n] w fun e w' => e = .panicked [{ v := wrong 22, recovered := false }] ∧ w = w' := by
  have h := fits_false hf
  clear hf
  by_cases h1 : n < 1
  · clear h
    go_enter Try.func50, Try.ntmps50
    go_wp2
    exact ⟨rfl, rfl, rfl⟩
  by_cases h2 : 8 < n
  · clear h
    go_enter Try.func50, Try.ntmps50
    go_wp2
    exact ⟨rfl, rfl, rfl⟩
  by_cases h3 : at_ < 0
  · clear h
    go_enter Try.func50, Try.ntmps50
    go_wp2
    exact ⟨rfl, rfl, rfl⟩
  by_cases h4 : (len : Int) < at_
  · clear h
    go_enter Try.func50, Try.ntmps50
    go_wp2
    exact ⟨rfl, rfl, rfl⟩
  · have h5 : (len : Int) - at_ < n := by omega
    clear h
    go_enter Try.func50, Try.ntmps50
    go_wp2
    exact ⟨rfl, rfl, rfl⟩

theorem pow256 (k : Nat) : (256 : Nat) ^ k = 2 ^ (8 * k) := by rw [Nat.pow_mul]
theorem mul_lt64 {c k : Nat} (hc : c < 256) (hk : k < 8) : c * 2 ^ (8 * k) < 18446744073709551616 := by
  have h1 : (2 : Nat) ^ (8 * k) ≤ 2 ^ 56 := Nat.pow_le_pow_right (by omega) (by omega)
  have h2 : c * 2 ^ (8 * k) ≤ 255 * 2 ^ 56 := Nat.mul_le_mul (by omega) h1
  exact Nat.lt_of_le_of_lt h2 (by decide)
theorem or_step (A c k : Nat) (hA : A < 256 ^ k) (hc : c < 256) (hk : k < 8) :
    bits .or .u64 (A : Int) (IntKind.u64.wrap (IntKind.u64.wrap (c : Int) * 2 ^ (8 * k))) = ((A + 256 ^ k * c : Nat) : Int) := by
  have hm := mul_lt64 hc hk
  have hA' : A < 18446744073709551616 := Nat.lt_of_lt_of_le hA (Nat.le_trans (Nat.pow_le_pow_right (by omega) (by omega : k ≤ 8)) (by decide))
  have e1 : IntKind.u64.wrap (c : Int) = (c : Int) := by rw [IntKind.wrap_u64]; omega
  have e2 : (c : Int) * 2 ^ (8 * k) = ((c * 2 ^ (8 * k) : Nat) : Int) := by simp
  have e3 : IntKind.u64.wrap ((c * 2 ^ (8 * k) : Nat) : Int) = ((c * 2 ^ (8 * k) : Nat) : Int) := by
    generalize c * 2 ^ (8 * k) = m at hm
    rw [IntKind.wrap_u64]; omega
  rw [e1, e2, e3, u64_or_nat _ _ hA' hm]
  congr 1
  rw [Nat.or_comm, nat_join (8 * k) _ _ (Nat.mul_mod_left _ _) (by rw [← pow256]; exact hA), pow256, Nat.mul_comm c, Nat.add_comm]

theorem number_any (A : Option Addr) (n cap : Nat) (bs : List UInt8) (w : World) (hn : n ≤ 8) (hb : BytesAt w A n bs) :
    Calls Try.prog 54 #[.slice A n cap] w fun e w' => e = .returned (.int .u64 (num bs : Int)) ∧ w = w' := by
  have HBY := Lib.hid hb
  clear hb
  go_enter Try.func54, Try.ntmps54
  go_wp2
  go_loop [3, 8] (fun x i => ∃ k : Nat, k ≤ n ∧ i = .int .i64 k ∧ x = .int .u64 (num (bs.take k) : Int)) (fun _ i => n - (intOf i).toNat)
  case atStart => exact ⟨0, by omega, rfl, by rw [List.take_zero]; rfl⟩
  case round =>
    obtain ⟨k, hk, rfl, rfl⟩ := hrel
    by_cases hlt : k < n
    · obtain ⟨a, c, rfl, hx, hc⟩ := HBY.out.at_ hlt
      have hs : bits .or .u64 (num (bs.take k) : Int) (IntKind.u64.wrap (IntKind.u64.wrap (c.toNat : Int) * 2 ^ (8 * k))) = (num (bs.take (k + 1)) : Int) := by
        have hl : (bs.take k).length = k := by rw [List.length_take, HBY.out.len, Nat.min_eq_left (by omega)]
        have h1 := num_lt (bs.take k)
        rw [hl] at h1
        rw [or_step _ _ _ h1 c.toNat_lt (by omega), List.take_add_one, hx]
        have := num_snoc (bs.take k) c
        rw [hl] at this
        rw [← this]; rfl
      have HS := Lib.hid hs
      have HX := Lib.hid hx
      clear hs hx
      go_wp2
      go_round
      case rel => exact ⟨k + 1, by omega, by go_num, by rw [HS.out]⟩
      case measure => simp [intOf]; omega
    · obtain rfl : k = n := by omega
      have hs : bs.take k = bs := List.take_of_length_le (by have := HBY.out.len; omega)
      rw [hs]
      clear hs
      go_wp2
      go_ret
      exact ⟨rfl, rfl⟩

theorem add_spot {a : Addr} (hs : a.spot = none) (i : Nat) : a.add i = ⟨a.block, a.off + i, none⟩ := by
  obtain ⟨b, o, s⟩ := a
  obtain rfl : s = none := hs
  exact add_plain b o i
theorem blk_cellAt {w : World} {a : Addr} {t : TypeId} {cs : Array Value} (h : Blk w a.block t cs) (hs : a.spot = none) (i : Nat) : w.cell? (a.add i) = cs[a.off + i]? := by
  rw [add_spot hs]; exact h.cell _
theorem blk_frozenAt {w : World} {a : Addr} {t : TypeId} {cs : Array Value} (h : Blk w a.block t cs) (i : Nat) : w.frozen? (a.add i) = false := by
  unfold Blk at h
  simp [World.frozen?, block_of_add, h]
theorem blk_setAt {w : World} {a : Addr} {t : TypeId} {cs : Array Value} (h : Blk w a.block t cs) (hs : a.spot = none) (i : Nat) (u : Value) : Blk (w.setCell (a.add i) u) a.block t (cs.setIfInBounds (a.off + i) u) := by
  rw [add_spot hs]; exact h.set_ _ _
theorem putN_succ (cs : Array Value) (off : Nat) (bs : List UInt8) (k : Nat) : putN cs off bs (k + 1) = (putN cs off bs k).setIfInBounds (off + k) (bval (bs.getD k 0)) := rfl
theorem putN_zero (cs : Array Value) (off : Nat) (bs : List UInt8) : putN cs off bs 0 = cs := rfl
/-- The byte that lay writes. -/
theorem lay_byte (n x k : Nat) (hk : k < n) : Value.int .u8 (IntKind.u8.wrap ((x : Int) / 2 ^ (8 * k))) = bval ((le n x).getD k 0) := by
  have h := le_get n x k hk
  have e : (x : Int) / 2 ^ (8 * k) = ((x / 2 ^ (8 * k) : Nat) : Int) := by simp
  rw [e, IntKind.wrap_u8', List.getD_eq_getElem?_getD, h]
  unfold bval
  simp only [Option.getD_some, UInt8.toNat_ofNat']
  rw [pow256]
  congr 1
  generalize x / 2 ^ (8 * k) = y
  omega
theorem small_test {n x : Nat} (h : x < 256 ^ n) : ((x : Int) / 2 ^ (8 * n) != 0) = false := by
  rw [pow256] at h
  have e : (x : Int) / 2 ^ (8 * n) = ((x / 2 ^ (8 * n) : Nat) : Int) := by simp
  rw [e, Nat.div_eq_of_lt h]; rfl
theorem big_test {n x : Nat} (h : ¬ x < 256 ^ n) : ((x : Int) / 2 ^ (8 * n) != 0) = true := by
  rw [pow256] at h
  have e : (x : Int) / 2 ^ (8 * n) = ((x / 2 ^ (8 * n) : Nat) : Int) := by simp
  have : 0 < x / 2 ^ (8 * n) := Nat.div_pos (by omega) (Nat.two_pow_pos _)
  rw [e]
  generalize x / 2 ^ (8 * n) = y at this
  simp; omega

theorem lay_yes (a : Addr) (n cap x : Nat) (cs : Array Value) (w : World) (h1 : 1 ≤ n) (h8 : n ≤ 8) (hx : x < 256 ^ n) (hs : a.spot = none) (hcs : a.off + n ≤ cs.size) (hb : Blk w a.block 5 cs) :
    Calls Try.prog 48 #[.slice (some a) n cap, .int .u64 (x : Int)] w fun e w' => e = .returned (.tuple #[]) ∧ Blk w' a.block 5 (putN cs a.off (le n x) n) ∧ w.grownBy w' (some a.block) := by
  have HB := Lib.hid hb
  have ht := small_test hx
  have HCS := Lib.hid hcs
  have HSP := Lib.hid hs
  clear hb hx hcs hs
  by_cases h7 : n < 8
  all_goals
    go_enter Try.func48, Try.ntmps48
    go_wp2_with fail
    go_loopw [20] (fun i wr => ∃ k : Nat, k ≤ n ∧ i = .int .i64 k ∧ Blk wr a.block 5 (putN cs a.off (le n x) k) ∧ w.grownBy wr (some a.block)) (fun i _ => n - (intOf i).toNat)
    case atStart => exact ⟨0, by omega, rfl, by rw [putN_zero]; exact HB.out, World.grownBy.refl _ _⟩
    case round =>
      obtain ⟨k, hk, rfl, hbk, hgr⟩ := hrel
      have HK := Lib.hid hbk
      have HG := Lib.hid hgr
      clear hbk hgr
      by_cases hlt : k < n
      · have hfz := blk_frozenAt HK.out k
        obtain ⟨v, hv⟩ : ∃ v, (putN cs a.off (le n x) k)[a.off + k]? = some v := ⟨_, Array.getElem?_eq_getElem (by rw [putN_size]; have := HCS.out; omega)⟩
        have hc := (blk_cellAt HK.out HSP.out k).trans hv
        have HV := Lib.hid hv
        clear hv
        have hby := lay_byte n x k hlt
        have HBY := Lib.hid hby
        clear hby
        go_wp2_with fail
        go_roundw
        case rel => exact ⟨k + 1, by omega, by go_num, by rw [putN_succ, HBY.out.symm]; exact blk_setAt HK.out HSP.out k _, only_setCell HG.out (.inl (block_of_add a k)) _⟩
        case measure => simp [intOf]; omega
      · obtain rfl : k = n := by omega
        go_wp2_with fail
        exact bodyPost_end (results_none rfl _ _ _) rfl ⟨rfl, HK.out, HG.out⟩

theorem lay_no (A : Option Addr) (n cap x : Nat) (w : World) (h7 : n < 8) (hx : ¬ x < 256 ^ n) :
    Calls Try.prog 48 #[.slice A n cap, .int .u64 (x : Int)] w fun e w' => e = .panicked [{ v := wrong 34, recovered := false }] ∧ w = w' := by
  have ht := big_test hx
  clear hx
  go_enter Try.func48, Try.ntmps48
  go_wp2
  exact ⟨rfl, rfl, rfl⟩
end Go.Proofs.Ytifamhmiibhohaa.Wire

namespace Go.Proofs.Ytifamhmiibhohaa.Wire
open Go.RowKit
set_option maxHeartbeats 8000000
set_option maxRecDepth 100000
set_option linter.unusedVariables false
set_option linter.unusedSimpArgs false

theorem assert_wrong (c : Int) (w : World) : (Instr.typeAssert (.iface 88 (.agg #[.int .i64 c])) 20 88 true).run Try.prog w = .ok (.tuple #[.agg #[.int .i64 c], .bool true]) w := by kernel_rfl

theorem catch_panic (p : Addr) (c x : Int) (older : List PanicEntry) (w : World) (hc : w.cell? p = some (.int .i64 x)) (hz : w.frozen? p = false) :
    CallsD Try.prog 57 #[.pointer (some p)] (.panicking ({ v := wrong c, recovered := false } :: older)) w fun e u' w' =>
      e = .returned (.tuple #[]) ∧ u' = .panicking ({ v := wrong c, recovered := true } :: older) ∧ w' = (w.alloc (.cells #[.int .i64 c] 88)).setCell p (.int .i64 c) := by
  have hlt := World.block_lt_of_cell? w _ hc
  have hta := assert_wrong c
  refine callsD_of_wpS Try.func57 rfl fun c₀ cs hu => ?_
  simp only [Try.ntmps57, List.size_toArray, List.length_cons, List.length_nil, Nat.reduceAdd, Nat.reduceSub, Array.replicate_succ, Array.replicate_zero, List.push_toArray, List.append_toArray, List.nil_append, List.cons_append]
  apply wpS_seq
  apply wpS_region
  simp [wpOpsS, go_sem, recoverD, hu, Exit.thenS, wrong]
  refine wpS_of_wp ?_
  have hz2 : (w.alloc (.cells #[.int .i64 c] 88)).frozen? p = false := by rw [World.frozen?_alloc_old _ _ _ (by omega)]; exact hz
  go_wp2
  simp [bodyPostS, results, Try.results57, wrong]

theorem catch_idle (p : Addr) (w : World) :
    CallsD Try.prog 57 #[.pointer (some p)] .returning w fun e u' w' => e = .returned (.tuple #[]) ∧ u' = .returning ∧ w' = w := by
  refine callsD_of_wpS Try.func57 rfl fun c₀ cs hu => ?_
  simp only [Try.ntmps57, List.size_toArray, List.length_cons, List.length_nil, Nat.reduceAdd, Nat.reduceSub, Array.replicate_succ, Array.replicate_zero, List.push_toArray, List.append_toArray, List.nil_append, List.cons_append]
  apply wpS_seq
  apply wpS_region
  simp [wpOpsS, go_sem, recoverD, hu, Exit.thenS]
  refine wpS_of_wp ?_
  go_wp2
  cases c₀
  simp_all [bodyPostS, results, Try.results57]

/-- What is done ends: try answers 0. -/
theorem try_ok (f : FuncId) (caps : Array Value) (w : World) (R : World → Prop)
    (hcf : ∀ w, (callFunc f caps).run Try.prog w = .ok (.enter f caps) w)
    (h : Calls Try.prog f caps (w.alloc (.cells #[.int .i64 0] 26)) fun e w' => e = .returned (.tuple #[]) ∧ R w')
    (hR : ∀ w', R w' → Blk w' w.heap.size 26 #[.int .i64 0]) :
    Calls Try.prog 45 #[.func (.func f) #[] caps] w fun e w' => e = .returned (.int .i64 0) ∧ ∃ w1, R w1 ∧ w1.grownBy w' (some w.heap.size) := by
  have hmf : ∀ (fn : Fn) (first cap : Array Value) (w : World), (Instr.makeFunc fn first cap).run Try.prog w = .ok (.func fn first cap) w := fun _ _ _ _ => rfl
  go_enter_defers Try.func45, Try.ntmps45
  go_wp2_with fail
  refine h.mono ?_
  rintro e w1 ⟨rfl, hr⟩
  have HR := Lib.hid hr
  clear hr
  have hbk := hR w1 HR.out
  have hfz := hbk.frozen 0
  have hc := hbk.cell 0
  have hc' : w1.cell? ⟨w.heap.size, 0, none⟩ = some (.int .i64 0) := hc
  clear hc hbk
  go_wp2_with fail
  refine leaves_cons (f := 57) (args := #[.pointer (some ⟨w.heap.size, 0, none⟩)]) (by simp) (by simp [go_sem]) ?_
  refine (catch_idle ⟨w.heap.size, 0, none⟩ _).mono ?_
  rintro e u' w'' ⟨rfl, rfl, rfl⟩
  have hbk := (hR w1 HR.out).set_ 0 (.int .i64 0)
  have hfin := only_setCell (World.grownBy.refl w1 (some w.heap.size)) (p := ⟨w.heap.size, 0, none⟩) (.inl rfl) (.int .i64 0)
  have hc2 : (w1.setCell ⟨w.heap.size, 0, none⟩ (.int .i64 0)).cell? ⟨w.heap.size, 0, none⟩ = some (.int .i64 0) := hbk.cell 0
  simp only [Leaves, settle]
  refine ⟨.int .i64 0, ?_, rfl, w1, HR.out, hfin⟩
  simp [results, Try.results45, go_sem, hc2]

/-- What is done gives up by an error: try answers it. -/
theorem try_gives (f : FuncId) (caps : Array Value) (w : World) (R : World → Prop) (c : Int)
    (hcf : ∀ w, (callFunc f caps).run Try.prog w = .ok (.enter f caps) w)
    (h : Calls Try.prog f caps (w.alloc (.cells #[.int .i64 0] 26)) fun e w' => e = .panicked [{ v := wrong c, recovered := false }] ∧ R w')
    (hR : ∀ w', R w' → Blk w' w.heap.size 26 #[.int .i64 0]) :
    Calls Try.prog 45 #[.func (.func f) #[] caps] w fun e w' => e = .returned (.int .i64 c) ∧ ∃ w1, R w1 ∧ w1.grownBy w' (some w.heap.size) := by
  have hmf : ∀ (fn : Fn) (first cap : Array Value) (w : World), (Instr.makeFunc fn first cap).run Try.prog w = .ok (.func fn first cap) w := fun _ _ _ _ => rfl
  go_enter_defers Try.func45, Try.ntmps45
  go_wp2_with fail
  refine h.mono ?_
  rintro e w1 ⟨rfl, hr⟩
  have HR := Lib.hid hr
  clear hr
  have hbk := hR w1 HR.out
  have hfz := hbk.frozen 0
  have hc' : w1.cell? ⟨w.heap.size, 0, none⟩ = some (.int .i64 0) := hbk.cell 0
  have HBK := Lib.hid hbk
  clear hbk
  go_wp2_with fail
  refine leaves_cons (f := 57) (args := #[.pointer (some ⟨w.heap.size, 0, none⟩)]) (by simp) (by simp [go_sem]) ?_
  refine (catch_panic ⟨w.heap.size, 0, none⟩ c 0 [] w1 hc' hfz).mono ?_
  rintro e u' w'' ⟨rfl, rfl, rfl⟩
  have hbk2 := (HBK.out.alloc (.cells #[.int .i64 c] 88)).set_ 0 (.int .i64 c)
  have hfin := only_setCell (only_alloc (World.grownBy.refl w1 (some w.heap.size)) (.cells #[.int .i64 c] 88)) (p := ⟨w.heap.size, 0, none⟩) (.inl rfl) (.int .i64 c)
  have hc2 : ((w1.alloc (.cells #[.int .i64 c] 88)).setCell ⟨w.heap.size, 0, none⟩ (.int .i64 c)).cell? ⟨w.heap.size, 0, none⟩ = some (.int .i64 c) := hbk2.cell 0
  simp only [Leaves, settle]
  refine ⟨.int .i64 c, ?_, rfl, w1, HR.out, hfin⟩
  simp [results, Try.results45, go_sem, hc2]
end Go.Proofs.Ytifamhmiibhohaa.Wire
