
/-
  layer 6 (store): what a store is in memory; what only reads: Blocks, has, Held, Mark, Counts, of.
  layer 6 (store): slices.IndexFunc, DeleteFunc with the closure of forget; forget.
  layer 6 (store): slices.DeleteFunc upon a row of numbers of one's own.
  layer 6 (store): forget, use.
  layer 6 (store): use.
  layer 6 (store): Read.
  layer 6 (store): Write.
  layer 6 (store): what is undone; Back.
-/
import Derived.Test.YtomoliickggghaaKR6N3
import Derived.Lib.SliceRun
namespace Go.Proofs.Ytomoliickggghaa.Mem
open Go.RowKit Go.Proofs.Ytomoliickggghaa Go.Proofs.Ytomoliickggghaa.Wire
set_option maxHeartbeats 8000000
set_option maxRecDepth 100000
set_option linter.unusedVariables false
set_option linter.unusedSimpArgs false

/-- What is undone: a write (what was changed before), a hold (is the map that it wrote to the store's still; was it held). -/
inductive Und where
  | w (n : Int) (old : Option Bytes)
  | h (n : Int) (cur was : Bool)
/-- A shard: its order, its data. -/
abbrev Sd := List Int × (Int → Option Bytes)
structure SS where
  room : Nat
  chg : Int → Option Bytes
  wait : Int → Option Bytes
  held : Int → Bool
  undo : List Und
  sh : List Sd
  found : Nat
  asked : Nat
  d : DS
def SS.N (S : SS) : Nat := S.d.N
/-- Old bytes: a slice of them, or nil. -/
def OptDat (w : World) (col : Col) (B : Nat) (v : Value) : Option Bytes → Prop
  | none => v = .slice none 0 0
  | some bs => Dat w col B v bs
theorem OptDat.keep {w w' : World} {a b : Col} {B lo hi : Nat} {v : Value} {o : Option Bytes} (h : OptDat w a B v o) (ht : Tch lo hi a b w w') (hr : 2 ≤ lo ∨ hi ≤ 1) : OptDat w' b B v o := by
  cases o with
  | none => exact h
  | some bs => exact Dat.keep h ht hr
structure UndW (w : World) (col : Col) (B p N : Nat) (n : Int) (old : Option Bytes) (v : Value) (b7 b3 b4 : Nat) (vo : Value) : Prop where
  val : v = .func (.func 39) #[] #[ptr b7, ptr b3, ptr b4]
  o : Bk w col B 1 b7 34 #[vo]
  od : OptDat w col B vo old
  s : Bk w col B 1 b3 28 #[ptr p]
  nb : Bk w col B 1 b4 3 #[.int .i64 n]
  has : 0 ≤ n ∧ n < (N : Int)
structure UndH (w : World) (col : Col) (B c bh N : Nat) (n : Int) (cur was : Bool) (v : Value) (b6 b5 b3 bm : Nat) : Prop where
  val : v = .func (.func 43) #[] #[ptr b6, ptr b5, ptr b3]
  was : Bk w col B 1 b6 3 #[.int .i64 (if was then 1 else 0)]
  m : Bk w col B 1 b5 56 #[.map (some bm)]
  mc : if cur = true then bm = bh else col bm = c + 6 ∧ bm < w.heap.size
  nb : Bk w col B 1 b3 3 #[.int .i64 n]
  has : 0 ≤ n ∧ n < (N : Int)
def UndAt (w : World) (col : Col) (B c p bh N : Nat) (u : Und) (v : Value) : Prop := match u with
  | .w n old => ∃ b7 b3 b4 vo, UndW w col B p N n old v b7 b3 b4 vo
  | .h n cur was => ∃ b6 b5 b3 bm, UndH w col B c bh N n cur was v b6 b5 b3 bm
/-- What is held. -/
def heldF (h : Int → Bool) (k : Int) : Option Value := if h k = true then some (.int .i64 1) else none
def scells : List (Value × Nat) → List Value
  | [] => []
  | p :: l => p.1 :: .map (some p.2) :: scells l
theorem scells_length : ∀ l, (scells l).length = l.length * 2
  | [] => rfl
  | p :: l => by simp only [scells, List.length_cons, scells_length l]; omega
theorem scells_append : ∀ a b, scells (a ++ b) = scells a ++ scells b
  | [], _ => rfl
  | p :: l, b => by simp only [List.cons_append, scells, scells_append l b]
theorem scells_get : ∀ (l : List (Value × Nat)) (i : Nat) (x : Value × Nat), l[i]? = some x → (scells l)[i * 2]? = some x.1 ∧ (scells l)[i * 2 + 1]? = some (.map (some x.2))
  | [], i, x, h => by cases h
  | p :: l, 0, x, h => by injection h with h; subst h; exact ⟨rfl, rfl⟩
  | p :: l, i + 1, x, h => by
    have := scells_get l i x h
    rw [show (i + 1) * 2 = i * 2 + 1 + 1 by omega]
    exact this
/-- A shard in memory. -/
structure ShAt (w : World) (col : Col) (B c N i : Nat) (x : Value × Nat) (y : Sd) : Prop where
  ord : Row w col B (c + 16 + 2 * i) 3 1 x.1 y.1.length (ints y.1)
  dat : MapB w col B (c + 17 + 2 * i) x.2 N y.2
  nod : y.1.Pairwise (· ≠ ·)
  has : ∀ n ∈ y.1, 0 ≤ n ∧ n < (N : Int)
structure SL where
  dp : Nat
  bc : Nat
  bw : Nat
  bh : Nat
  vu : Value
  vs : Value
  us : List Value
  sh : List (Value × Nat)
structure StoreL (w : World) (col : Col) (B c p : Nat) (S : SS) (L : SL) : Prop where
  s : Bk w col B c p 60 #[ptr L.dp, .int .i64 S.room, .map (some L.bc), .map (some L.bw), .map (some L.bh), L.vu, L.vs, .int .i64 S.found, .int .i64 S.asked]
  chg : MapB w col B (c + 1) L.bc S.d.N S.chg
  wait : MapB w col B (c + 2) L.bw S.d.N S.wait
  held : MapR w col B (c + 7) L.bh S.d.N (heldF S.held)
  undo : Row w col B (c + 4) 1 1 L.vu S.undo.length L.us
  us : ∀ (i : Nat) (u : Und) (v : Value), S.undo[i]? = some u → L.us[i]? = some v → UndAt w col B c p L.bh S.d.N u v
  shs : Row w col B (c + 5) 80 2 L.vs S.sh.length (scells L.sh)
  shl : L.sh.length = S.sh.length
  sh : ∀ (i : Nat) (x : Value × Nat) (y : Sd), L.sh[i]? = some x → S.sh[i]? = some y → ShAt w col B c S.d.N i x y
  d : DiskAt w col B (c + 8) L.dp S.d
  old : ∀ b, b < w.heap.size → col b = c + 6 → ∃ f, MapR w col B (c + 6) b S.d.N f
  lo : 16 ≤ c
  shn : 1 ≤ S.sh.length ∧ S.sh.length ≤ 16
  rm : 1 ≤ S.room ∧ S.room ≤ 256
  few : S.undo.length + S.found + S.asked ≤ 1000000000
  tidy : ∀ b, w.heap.size ≤ b → col b = 0
def StoreAt (w : World) (col : Col) (B c p : Nat) (S : SS) : Prop := ∃ L, StoreL w col B c p S L
theorem UndAt.keep {w w' : World} {a b : Col} {B c p bh N lo hi : Nat} {u : Und} {v : Value} (h : UndAt w a B c p bh N u v) (ht : Tch lo hi a b w w') (hlo : 2 ≤ lo ∨ hi ≤ 1) (hr : ¬ (lo ≤ c + 6 ∧ c + 6 < hi)) : UndAt w' b B c p bh N u v := by
  cases u with
  | w n old =>
    obtain ⟨b7, b3, b4, vo, k⟩ := h
    exact ⟨b7, b3, b4, vo, k.val, k.o.keep ht (by omega), k.od.keep ht hlo, k.s.keep ht (by omega), k.nb.keep ht (by omega), k.has⟩
  | h n cur was =>
    obtain ⟨b6, b5, b3, bm, k⟩ := h
    refine ⟨b6, b5, b3, bm, k.val, k.was.keep ht (by omega), k.m.keep ht (by omega), ?_, k.nb.keep ht (by omega), k.has⟩
    have := k.mc
    split
    · rename_i hc; rw [if_pos hc] at this; exact this
    · rename_i hc
      rw [if_neg hc] at this
      exact ⟨by rw [ht.hue bm this.2 (by rw [this.1]; exact hr)]; exact this.1, Nat.lt_of_lt_of_le this.2 ht.size⟩
theorem ShAt.keep {w w' : World} {a b : Col} {B c N i lo hi : Nat} {x : Value × Nat} {y : Sd} (h : ShAt w a B c N i x y) (ht : Tch lo hi a b w w') (hlo : 2 ≤ lo ∨ hi ≤ 1) (hr : ¬ (lo ≤ c + 16 + 2 * i ∧ c + 16 + 2 * i < hi)) (hr2 : ¬ (lo ≤ c + 17 + 2 * i ∧ c + 17 + 2 * i < hi)) : ShAt w' b B c N i x y :=
  ⟨h.ord.keep ht hr, h.dat.keep ht hlo hr2, h.nod, h.has⟩
theorem old_keep {w w' : World} {a b : Col} {B c N lo hi : Nat} (h : ∀ g, g < w.heap.size → a g = c + 6 → ∃ f, MapR w a B (c + 6) g N f) (tidy : ∀ g, w.heap.size ≤ g → a g = 0) (hc : 16 ≤ c) (ht : Tch lo hi a b w w') (hr : ¬ (lo ≤ c + 6 ∧ c + 6 < hi)) :
    ∀ g, g < w'.heap.size → b g = c + 6 → ∃ f, MapR w' b B (c + 6) g N f := fun g hg he => by
  rcases Nat.lt_or_ge g w.heap.size with h1 | h1
  · have e : a g = c + 6 := by
      by_cases e : lo ≤ a g ∧ a g < hi
      · have := ht.stay g h1 e
        rw [he] at this; exact absurd this hr
      · rw [← ht.hue g h1 e]; exact he
    obtain ⟨f, k⟩ := h g h1 e
    exact ⟨f, k.keep ht hr⟩
  · exfalso
    rcases ht.neu g h1 with e | e | e
    · omega
    · rw [he] at e; exact hr e
    · rw [tidy g h1] at e; omega
theorem StoreL.keep {w w' : World} {a b : Col} {B c p lo hi : Nat} {S : SS} {L : SL} (h : StoreL w a B c p S L) (ht : Tch lo hi a b w w') (hlo : 2 ≤ lo ∨ hi ≤ 1) (hr : c + 64 ≤ lo ∨ hi ≤ c) : StoreL w' b B c p S L := by
  have hn := h.shn
  have hcl := h.lo
  refine ⟨h.s.keep ht (by omega), h.chg.keep ht hlo (by omega), h.wait.keep ht hlo (by omega), h.held.keep ht (by omega), h.undo.keep ht (by omega), fun i u v h1 h2 => (h.us i u v h1 h2).keep ht hlo (by omega), h.shs.keep ht (by omega), h.shl, fun i x y h1 h2 => ?_,
    h.d.keep ht hlo (by omega), old_keep h.old h.tidy h.lo ht (by omega), h.lo, h.shn, h.rm, h.few, ht.tidy h.tidy⟩
  have hi := (List.getElem?_eq_some_iff.1 h2).1
  exact (h.sh i x y h1 h2).keep ht hlo (by omega) (by omega)
/-- Nothing of the store is touched. -/
theorem StoreL.below {w w' : World} {a : Col} {B c p : Nat} {S : SS} {L : SL} (h : StoreL w a B c p S L) (hb : Below w.heap.size w w') : StoreL w' a B c p S L := h.keep (lo := 16) (hi := 16) (Tch.of_below hb) (by omega) (by have := h.lo; omega)

/-! ### what only reads -/
theorem sblocks_any (w : World) (col : Col) (B c p : Nat) (S : SS) (L : SL) (h : StoreL w col B c p S L) :
    Calls Try.prog 29 #[ptr p] w fun e w' => e = .returned (.int .i64 S.d.N) ∧ w = w' := by
  have HB := Lib.hid (blocks_any w col B (c + 8) L.dp S.d h.d)
  have c0 : w.cell? ⟨p, 0, none⟩ = some (ptr L.dp) := h.s.blk.cell 0
  clear h
  unfold ptr at *
  go_enter Try.func29, Try.ntmps29
  go_wp2_with fail
  refine HB.out.mono ?_
  rintro e w' ⟨rfl, rfl⟩
  go_wp2_with fail
  go_ret
  exact ⟨rfl, rfl⟩
theorem sblocks_nil (w : World) : Calls Try.prog 29 #[.pointer none] w fun e w' => e = .returned (.int .i64 0) ∧ w = w' := by
  go_enter Try.func29, Try.ntmps29
  go_wp2_with fail
  go_ret
  exact ⟨rfl, rfl⟩
def SS.has (S : SS) (n : Int) : Bool := decide (0 ≤ n ∧ n < (S.d.N : Int))
theorem shas_any (w : World) (col : Col) (B c p : Nat) (S : SS) (L : SL) (n : Int) (h : StoreL w col B c p S L) :
    Calls Try.prog 38 #[ptr p, .int .i64 n] w fun e w' => e = .returned (.bool (S.has n)) ∧ w = w' := by
  have HB := Lib.hid (sblocks_any w col B c p S L h)
  by_cases h0 : 0 ≤ n
  · have HV := Lib.hid (show decide (n < (S.d.N : Int)) = S.has n from decide_eq_decide.2 ⟨fun h => ⟨h0, h⟩, fun h => h.2⟩)
    clear h
    generalize S.d.N = N at *
    go_enter Try.func38, Try.ntmps38
    go_wp2_with fail
    refine HB.out.mono ?_
    rintro e w' ⟨rfl, rfl⟩
    go_wp2_with fail
    go_ret
    exact ⟨ret_bool HV.out, rfl⟩
  · have HV := Lib.hid (show S.has n = false from decide_eq_false (fun h => h0 h.1))
    clear h
    go_enter Try.func38, Try.ntmps38
    go_wp2_with fail
    go_ret
    exact ⟨ret_bool HV.out.symm, rfl⟩
theorem zero_int (w : World) : (zeroValue 3).run Try.prog w = .ok (.int .i64 0) w := by kernel_rfl
theorem held_look {w : World} {col : Col} {B r b N : Nat} {hf : Int → Bool} (h : MapR w col B r b N (heldF hf)) {k : Int} (hk : KB k) :
    (Instr.lookup 56 (.map (some b)) (.int .i64 k) false).run Try.prog w = .ok (.int .i64 (if hf k = true then 1 else 0)) w := by
  rw [h.look Try.underlying56 (zero_int w) hk]
  unfold heldF
  split <;> rfl
def SS.isHeld (S : SS) (n : Int) : Bool := S.has n && S.held n
theorem sheld_any (w : World) (col : Col) (B c p : Nat) (S : SS) (L : SL) (n : Int) (h : StoreL w col B c p S L) :
    Calls Try.prog 20 #[ptr p, .int .i64 n] w fun e w' => e = .returned (.bool (S.isHeld n)) ∧ w = w' := by
  have HH := Lib.hid (shas_any w col B c p S L n h)
  cases hh : S.has n with
  | false =>
    have HV := Lib.hid (show S.isHeld n = false by rw [SS.isHeld, hh]; rfl)
    rw [hh] at HH
    clear h hh
    go_enter Try.func20, Try.ntmps20
    go_wp2_with fail
    refine HH.out.mono ?_
    rintro e w' ⟨rfl, rfl⟩
    go_wp2_with fail
    go_ret
    exact ⟨ret_bool HV.out.symm, rfl⟩
  | true =>
    have hn : 0 ≤ n ∧ n < (S.d.N : Int) := of_decide_eq_true hh
    have hN := h.d.n
    have c4 : w.cell? ⟨p, 4, none⟩ = some (.map (some L.bh)) := h.s.blk.cell 4
    have lk := held_look h.held (k := n) ⟨by omega, by omega⟩
    have HV := Lib.hid (show decide ((0 : Int) < (if S.held n = true then 1 else 0)) = S.isHeld n by rw [SS.isHeld, hh]; cases S.held n <;> rfl)
    rw [hh] at HH
    clear h hh
    generalize (if S.held n = true then (1 : Int) else 0) = hv at *
    unfold ptr at *
    go_enter Try.func20, Try.ntmps20
    go_wp2_with fail
    refine HH.out.mono ?_
    rintro e w' ⟨rfl, rfl⟩
    go_wp2_with fail
    go_ret
    exact ⟨ret_bool HV.out, rfl⟩
theorem row_len {w : World} {col : Col} {B r n : Nat} {e : TypeId} {size : Nat} {v : Value} {xs : List Value} (h : Row w col B r e size v n xs) : ∃ A cap, v = .slice A n cap ∧ (A = none → n = 0 ∧ cap = 0) ∧ n ≤ cap ∧ cap ≤ 9223372036854775807 ∧ (0 < n → ∃ g, A = some ⟨g, 0, none⟩ ∧ col g = r ∧ B ≤ g ∧ g < w.heap.size) := by
  rcases h.own.2 with ⟨rfl, hn⟩ | ⟨g, cap, cur, rfl, hB, hg, hnc, hm, _⟩
  · exact ⟨none, 0, by rw [hn], fun _ => ⟨hn, rfl⟩, by omega, by omega, fun h => by omega⟩
  · exact ⟨_, cap, rfl, (fun e => by cases e), hnc, (by unfold maxLen at hm; omega), fun _ => ⟨g, rfl, h.c g rfl, hB, (Array.getElem?_eq_some_iff.1 hg).1⟩⟩
theorem smark_any (w : World) (col : Col) (B c p : Nat) (S : SS) (L : SL) (h : StoreL w col B c p S L) :
    Calls Try.prog 18 #[ptr p] w fun e w' => e = .returned (.int .i64 S.undo.length) ∧ w = w' := by
  have c5 : w.cell? ⟨p, 5, none⟩ = some L.vu := h.s.blk.cell 5
  obtain ⟨A, cap, hv, _⟩ := row_len h.undo
  rw [hv] at c5
  clear h hv
  unfold ptr at *
  generalize S.undo.length = n at *
  go_enter Try.func18, Try.ntmps18
  go_wp2_with fail
  go_ret
  exact ⟨rfl, rfl⟩
theorem smark_nil (w : World) : Calls Try.prog 18 #[.pointer none] w fun e w' => e = .returned (.int .i64 0) ∧ w = w' := by
  go_enter Try.func18, Try.ntmps18
  go_wp2_with fail
  go_ret
  exact ⟨rfl, rfl⟩
theorem scounts_any (w : World) (col : Col) (B c p : Nat) (S : SS) (L : SL) (h : StoreL w col B c p S L) :
    Calls Try.prog 27 #[ptr p] w fun e w' => e = .returned (.tuple #[.int .i64 S.found, .int .i64 S.asked]) ∧ ∃ k, w' = w.drewN k := by
  have c7 : w.drew.cell? ⟨p, 7, none⟩ = some (.int .i64 S.found) := h.s.blk.cell 7
  have c8 : w.drew.cell? ⟨p, 8, none⟩ = some (.int .i64 S.asked) := h.s.blk.cell 8
  clear h
  unfold ptr at *
  go_enter Try.func27, Try.ntmps27
  go_wp2_with fail
  refine region_still (by kernel_rfl) (by kernel_rfl) ?_
  iterate 10 (refine still_take (v := ?_) (by kernel_rfl) ?_ (fun K hK => ?_); rotate_left; (· (go_simp; with_reducible rfl)); simp only [Act.put, List.setIfInBounds_toArray, List.set_cons_zero, List.set_cons_succ]; refine hK _ ?_; clear hK K)
  refine still_end ?_
  go_wp2_with fail
  go_ret2
  exact ⟨rfl, 1, rfl⟩
theorem scounts_nil (w : World) : Calls Try.prog 27 #[.pointer none] w fun e w' => e = .returned (.tuple #[.int .i64 0, .int .i64 0]) ∧ w = w' := by
  go_enter Try.func27, Try.ntmps27
  go_wp2_with fail
  go_ret2
  exact ⟨rfl, rfl⟩
/-- Where a block's shard stands. -/
def SS.of (S : SS) (n : Int) : Nat := (n % (S.sh.length : Int)).toNat
theorem of_any (w : World) (col : Col) (B c p : Nat) (S : SS) (L : SL) (n : Int) (h : StoreL w col B c p S L) (hn : S.has n = true) :
    ∃ gs cap, L.vs = .slice (some ⟨gs, 0, none⟩) S.sh.length cap ∧ Calls Try.prog 41 #[ptr p, .int .i64 n] w fun e w' => e = .returned (.pointer (some ⟨gs, S.of n * 2, none⟩)) ∧ w' = w.drew := by
  obtain ⟨A, cap, hv, _, h1, h2, h3⟩ := row_len h.shs
  obtain ⟨gs, rfl, _, _, _⟩ := h3 h.shn.1
  refine ⟨gs, cap, hv, ?_⟩
  have hn2 : 0 ≤ n ∧ n < (S.d.N : Int) := of_decide_eq_true hn
  have hN := h.d.n
  have hsn := h.shn
  have c6 : w.drew.cell? ⟨p, 6, none⟩ = some (.slice (some ⟨gs, 0, none⟩) S.sh.length cap) := by
    rw [← hv]; exact h.s.blk.cell 6
  have HOF := Lib.hid (show S.of n = (n % (S.sh.length : Int)).toNat from rfl)
  generalize S.of n = i at *
  generalize S.sh.length = m at *
  have hi := HOF.out
  have i1 : n % (m : Int) = (i : Int) := by have := Int.emod_nonneg n (show (m : Int) ≠ 0 by omega); omega
  have i2 : i < m := by have := Int.emod_lt_of_pos n (show (0 : Int) < (m : Int) by omega); omega
  have i3 : n.tmod (m : Int) = (i : Int) := by rw [Int.tmod_eq_emod_of_nonneg (by omega)]; exact i1
  have i4 : IntKind.i64.wrap (i : Int) = (i : Int) := by rw [IntKind.wrap_i64]; omega
  have i5 : ((m : Int) == 0) = false := by simp; omega
  have i9 : ¬ m = 0 := by omega
  have i6 : (0 : Int) ≤ (i : Int) := by omega
  have i7 : (i : Int) < (m : Int) := by omega
  have i8 : ((i : Int)).toNat = i := by omega
  obtain ⟨h01, h02⟩ := hn2
  clear h hv hi HOF h3
  unfold ptr at *
  go_enter Try.func41, Try.ntmps41
  go_wp2_with fail
  refine region_still (by kernel_rfl) (by kernel_rfl) ?_
  iterate 13 (refine still_take (v := ?_) (by kernel_rfl) ?_ (fun K hK => ?_); rotate_left; (· (go_simp; with_reducible rfl)); simp only [Act.put, List.setIfInBounds_toArray, List.set_cons_zero, List.set_cons_succ]; refine hK _ ?_; clear hK K)
  refine still_end ?_
  go_wp2_with fail
  go_ret
  exact ⟨rfl, rfl⟩
end Go.Proofs.Ytomoliickggghaa.Mem

namespace Go.Proofs.Ytomoliickggghaa.Mem
open Go.RowKit Go.Proofs.Ytomoliickggghaa Go.Proofs.Ytomoliickggghaa.Wire
set_option maxHeartbeats 8000000
set_option maxRecDepth 100000
set_option linter.unusedVariables false
set_option linter.unusedSimpArgs false

def fn1 (b : Nat) : Value := .func (.func 65) #[] #[ptr b]
theorem forget1_any (k n : Int) (b : Nat) (w : World) (hb : w.cell? ⟨b, 0, none⟩ = some (.int .i64 n)) :
    Calls Try.prog 65 #[.int .i64 k, ptr b] w fun e w' => e = .returned (.bool (k == n)) ∧ w = w' := by
  unfold ptr
  go_enter Try.func65, Try.ntmps65
  go_wp2_with fail
  go_ret
  exact ⟨rfl, rfl⟩
/-- The first place of a number. -/
def idx (n : Int) : List Int → Nat → Int
  | [], _ => -1
  | x :: l, k => if x = n then (k : Int) else idx n l (k + 1)
theorem idx_hit {n : Int} : ∀ (l : List Int) (k i : Nat), (∀ j, j < i → l[j]? ≠ some n) → l[i]? = some n → idx n l k = ((k + i : Nat) : Int)
  | [], k, i, _, h => by cases h
  | x :: l, k, 0, _, h => by
    injection h with h
    rw [idx, if_pos h]; rfl
  | x :: l, k, i + 1, h1, h2 => by
    have h0 : ¬ x = n := fun e => h1 0 (by omega) (by rw [← e]; rfl)
    rw [idx, if_neg h0, idx_hit l (k + 1) i (fun j hj => h1 (j + 1) (by omega)) h2]
    congr 1; omega
theorem idx_miss {n : Int} : ∀ (l : List Int) (k : Nat), (∀ j : Nat, l[j]? ≠ some n) → idx n l k = -1
  | [], _, _ => rfl
  | x :: l, k, h => by
    have h0 : ¬ x = n := fun e => h 0 (by rw [← e]; rfl)
    rw [idx, if_neg h0]; exact idx_miss l (k + 1) fun j => h (j + 1)
theorem indexFunc_any (A : Option Addr) (len cap b : Nat) (n : Int) (xs : List Int) (w : World) (hl : len ≤ 9223372036854775807) (hr : RowAt w A len (ints xs)) (hb : w.cell? ⟨b, 0, none⟩ = some (.int .i64 n)) :
    Calls Try.prog 75 #[.slice A len cap, fn1 b] w fun e w' => e = .returned (.int .i64 (idx n xs 0)) ∧ w = w' := by
  have HR := Lib.hid hr
  have HB := Lib.hid hb
  have hlen : xs.length = len := by have := hr.len; simpa [ints] using this
  have HL := Lib.hid hlen
  clear hr hb hlen
  unfold fn1
  go_enter Try.func75, Try.ntmps75
  go_wp2_with fail
  go_loop [5, 8] (fun _ i => ∃ j : Nat, j ≤ len ∧ i = .int .i64 j ∧ (∀ q, q < j → xs[q]? ≠ some n)) (fun _ i => len - (intOf i).toNat)
  case atStart => exact ⟨0, by omega, rfl, fun q h => by omega⟩
  case round =>
    obtain ⟨j, hj, rfl, hq⟩ := hrel
    have HQ := Lib.hid hq
    clear hq
    by_cases hlt : j < len
    · obtain ⟨a, z, rfl, hz, hcell⟩ := HR.out.int_at hlt
      have HF := Lib.hid (forget1_any z n b w HB.out)
      unfold ptr at HF
      by_cases hzn : z = n
      · have HV := Lib.hid (show idx n xs 0 = (j : Int) by rw [idx_hit xs 0 j HQ.out (by rw [hz, hzn])]; congr 1; omega)
        rw [show (z == n) = true by simpa using hzn] at HF
        clear hz hzn
        go_wp2_with fail
        refine HF.out.mono ?_
        rintro e w' ⟨rfl, rfl⟩
        go_wp2
        go_ret
        exact ⟨ret_int HV.out.symm, rfl⟩
      · have HX := Lib.hid (show ∀ q, q < j + 1 → xs[q]? ≠ some n from fun q h => by
          rcases Nat.lt_or_ge q j with h2 | h2
          · exact HQ.out q h2
          · obtain rfl : q = j := by omega
            rw [hz]; intro e; injection e with e; exact hzn e)
        rw [show (z == n) = false by simpa using hzn] at HF
        clear hz hzn
        go_wp2_with fail
        refine HF.out.mono ?_
        rintro e w' ⟨rfl, rfl⟩
        go_wp2
        go_round
        case rel => exact ⟨j + 1, by omega, by go_num, HX.out⟩
        case measure => simp [intOf]; omega
    · obtain rfl : j = len := by omega
      have HV := Lib.hid (show idx n xs 0 = -1 from idx_miss xs 0 fun q => by
        rcases Nat.lt_or_ge q j with h2 | h2
        · exact HQ.out q h2
        · rw [List.getElem?_eq_none (by rw [HL.out]; exact h2)]; simp)
      go_wp2
      go_ret
      exact ⟨ret_int HV.out.symm, rfl⟩
end Go.Proofs.Ytomoliickggghaa.Mem

namespace Go.Proofs.Ytomoliickggghaa.Mem
open Go.RowKit Go.Proofs.Ytomoliickggghaa Go.Proofs.Ytomoliickggghaa.Wire
set_option maxHeartbeats 8000000
set_option maxRecDepth 100000
set_option linter.unusedVariables false
set_option linter.unusedSimpArgs false

/-- A list without a number. -/
def wo (n : Int) (l : List Int) : List Int := l.filter (· ≠ n)
theorem wo_none {n : Int} {l : List Int} (h : ∀ j : Nat, l[j]? ≠ some n) : wo n l = l := List.filter_eq_self.2 fun y hy => by
  obtain ⟨j, hj⟩ := List.getElem?_of_mem hy
  have : y ≠ n := fun e => h j (by rw [hj, e])
  simpa using this
theorem wo_erase {n : Int} : ∀ {l : List Int} {p : Nat}, l.Pairwise (· ≠ ·) → l[p]? = some n → wo n l = l.eraseIdx p
  | [], p, _, h => by cases h
  | x :: l, 0, hp, h => by
    injection h with h
    subst h
    rw [List.pairwise_cons] at hp
    show (x :: l).filter _ = l
    rw [List.filter_cons_of_neg (by simp)]
    exact List.filter_eq_self.2 fun y hy => by simpa using (hp.1 y hy).symm
  | x :: l, p + 1, hp, h => by
    rw [List.pairwise_cons] at hp
    have hx : x ≠ n := hp.1 n (List.mem_of_getElem? h)
    show (x :: l).filter _ = x :: l.eraseIdx p
    rw [List.filter_cons_of_pos (by simpa using hx)]
    exact congrArg (x :: ·) (wo_erase hp.2 h)
theorem idx_cases (n : Int) (l : List Int) : (idx n l 0 = -1 ∧ ∀ j : Nat, l[j]? ≠ some n) ∨ ∃ p : Nat, idx n l 0 = (p : Int) ∧ l[p]? = some n ∧ ∀ j, j < p → l[j]? ≠ some n := by
  by_cases h : ∃ p : Nat, l[p]? = some n
  · right
    have H : ∀ q : Nat, (∃ p : Nat, p ≤ q ∧ l[p]? = some n) → ∃ p : Nat, l[p]? = some n ∧ ∀ j, j < p → l[j]? ≠ some n := by
      intro q
      induction q with
      | zero =>
        rintro ⟨p, hp, h⟩
        exact ⟨p, h, fun j hj => by omega⟩
      | succ q ih =>
        rintro ⟨p, hp, h⟩
        by_cases h2 : ∃ p : Nat, p ≤ q ∧ l[p]? = some n
        · exact ih h2
        · exact ⟨p, h, fun j hj e => h2 ⟨j, by omega, e⟩⟩
    obtain ⟨p0, hp0⟩ := h
    obtain ⟨p, hp, hq⟩ := H p0 ⟨p0, Nat.le_refl _, hp0⟩
    exact ⟨p, by rw [idx_hit l 0 p hq hp]; congr 1; omega, hp, hq⟩
  · left
    have h2 : ∀ j : Nat, l[j]? ≠ some n := fun j e => h ⟨j, e⟩
    exact ⟨idx_miss l 0 h2, h2⟩
/-- The numbers from p on have come one place forward, up to j. -/
def Shl (p j : Nat) (xs ys : List Int) : Prop := ys.length = xs.length ∧ ∀ q, ys[q]? = if p ≤ q ∧ q < j then xs[q + 1]? else xs[q]?
theorem Shl.start (p : Nat) (xs : List Int) : Shl p p xs xs := ⟨rfl, fun q => by rw [if_neg (by omega)]⟩
theorem Shl.next {p j : Nat} {xs ys : List Int} (h : Shl p j xs ys) {z : Int} (hp : p ≤ j) (hz : xs[j + 1]? = some z) : Shl p (j + 1) xs (ys.set j z) := by
  have hlt : j + 1 < xs.length := (List.getElem?_eq_some_iff.1 hz).1
  refine ⟨by rw [List.length_set]; exact h.1, fun q => ?_⟩
  by_cases e : q = j
  · subst e
    rw [List.getElem?_set_self (by rw [h.1]; omega), if_pos (by omega), hz]
  · rw [List.getElem?_set_ne (Ne.symm e), h.2 q]
    by_cases e2 : p ≤ q ∧ q < j
    · rw [if_pos e2, if_pos (by omega)]
    · rw [if_neg e2, if_neg (by omega)]
theorem Shl.fin {p : Nat} {xs ys : List Int} {j : Nat} (h : Shl p j xs ys) (hp : p ≤ j) (hj : j + 1 = xs.length) : ys.take j = xs.eraseIdx p := by
  apply List.ext_getElem?
  intro q
  rw [List.getElem?_eraseIdx]
  rcases Nat.lt_or_ge q j with hq | hq
  · rw [List.getElem?_take_of_lt hq, h.2 q]
    by_cases e : p ≤ q ∧ q < j
    · rw [if_pos e, if_neg (by omega)]
    · rw [if_neg e, if_pos (by omega)]
  · rw [List.getElem?_eq_none (by rw [List.length_take, h.1]; omega), if_neg (by omega), List.getElem?_eq_none (by omega)]
theorem ints_set (ys : List Int) (j : Nat) (z : Int) : (ints ys).set j (.int .i64 z) = ints (ys.set j z) := by rw [ints, ints, List.map_set]
theorem Row.stored {w : World} {col : Col} {B r g cap n size : Nat} {e : TypeId} {xs : List Value} (h : Row w col B r e size (.slice (some ⟨g, 0, none⟩) n cap) n xs) (j : Nat) (u : Value) :
    Row (w.setCell ⟨g, j, none⟩ u) col B r e size (.slice (some ⟨g, 0, none⟩) n cap) n (xs.set j u) := ⟨(h.own.stored j u).1, fun g' e => h.c g' e⟩
theorem Row.cut {w : World} {col : Col} {B r g cap n : Nat} {e : TypeId} {xs : List Value} (h : Row w col B r e 1 (.slice (some ⟨g, 0, none⟩) n cap) n xs) {m : Nat} (hm : m ≤ n) :
    Row w col B r e 1 (.slice (some ⟨g, 0, none⟩) m cap) m (xs.take m) := by
  refine ⟨?_, fun g' e => h.c g' e⟩
  have hx : xs.length = n := by simpa using h.own.1
  rcases h.own.2 with ⟨h', _⟩ | ⟨g', cap', cur, h', hb, hg, hnc, hcm, hcs, htake⟩
  · cases h'
  · injection h' with h1 h2 h3
    injection h1 with h1
    injection h1 with h1 _
    subst h1 h3
    refine ⟨by rw [List.length_take]; omega, .inr ⟨_, _, cur, rfl, hb, hg, by omega, hcm, hcs, ?_⟩⟩
    rw [← htake, List.take_take]
    congr 1
    omega
theorem setCells_one (w : World) (b o : Nat) (v : Value) : w.setCells b o (List.replicate 1 v) = w.setCell ⟨b, o, none⟩ v := rfl
theorem deleteFunc_any (w : World) (col : Col) (B B' r rb b : Nat) (n : Int) (xs : List Int) (v : Value) (hrow : Row w col B r 3 1 v xs.length (ints xs)) (hb : Bk w col B' rb b 3 #[.int .i64 n]) (hr : 16 ≤ r) (hrb : rb < 16) (hnod : xs.Pairwise (· ≠ ·)) :
    Calls Try.prog 64 #[v, fn1 b] w fun e w' => ∃ v', e = .returned v' ∧ Tch r (r + 1) col col w w' ∧ Row w' col B r 3 1 v' (wo n xs).length (ints (wo n xs)) := by
  obtain ⟨A, cap, rfl, hA, hcap, hcm, hg⟩ := row_len hrow
  have hra : RowAt w A xs.length (ints xs) := by
    have := RowAt.of_own hrow.own
    exact this
  have HI := Lib.hid (indexFunc_any A xs.length cap b n xs w (by omega) hra (hb.blk.cell 0))
  have HROW := Lib.hid hrow
  have HBK := Lib.hid hb
  obtain ⟨len, hlen⟩ : ∃ len, xs.length = len := ⟨_, rfl⟩
  have HLEN := Lib.hid hlen
  rcases idx_cases n xs with ⟨hi, hno⟩ | ⟨p, hi, hp, _⟩
  · rw [hi] at HI
    have HW := Lib.hid (wo_none hno)
    rw [hlen] at HI HROW hcap hg ⊢
    clear hrow hb hra hg hA hno hi hnod hlen
    unfold fn1 at *
    go_enter Try.func64, Try.ntmps64
    go_wp2_with fail
    refine HI.out.mono ?_
    rintro e w' ⟨rfl, rfl⟩
    go_wp2_with fail
    go_ret
    exact ⟨_, rfl, Tch.refl _ _ _ _, by rw [HW.out, HLEN.out]; exact HROW.out⟩
  · rw [hi] at HI
    have hplt : p < len := by rw [← hlen]; exact (List.getElem?_eq_some_iff.1 hp).1
    have HW := Lib.hid (wo_erase hnod hp)
    have NE := Lib.hid (show ∀ (q : Nat) (z : Int), p < q → xs[q]? = some z → z ≠ n from fun q z hq hz e => by
      have h1 := (List.getElem?_eq_some_iff.1 hp)
      have h2 := (List.getElem?_eq_some_iff.1 hz)
      exact (List.pairwise_iff_getElem.1 hnod p q h1.1 h2.1 hq) (by rw [h1.2, h2.2, e]))
    rw [hlen] at HI HROW hcap hg ⊢
    obtain ⟨g, rfl, hcg, hBg, _⟩ := hg (by omega)
    clear hrow hb hra hA hi hnod hg hp hlen
    have hp1 : ((p : Int) == -1) = false := by simp
    have hmx : len ≤ 9223372036854775807 := by omega
    unfold fn1 at *
    go_enter Try.func64, Try.ntmps64
    go_wp2_with fail
    refine HI.out.mono ?_
    rintro e w' ⟨rfl, rfl⟩
    clear HI
    go_wp2_with fail
    clear hp1
    go_loopw [5, 6, 7] (fun jj ii _ wr => ∃ (j : Nat) (ys : List Int), p ≤ j ∧ j + 1 ≤ len ∧ jj = .int .i64 j ∧ ii = .int .i64 ((j : Int) + 1) ∧ Shl p j xs ys ∧ Row wr col B r 3 1 (.slice (some ⟨g, 0, none⟩) len cap) len (ints ys) ∧ Tch r (r + 1) col col w wr ∧ Bk wr col B' rb b 3 #[.int .i64 n]) (fun jj _ _ _ => len - (intOf jj).toNat)
    case atStart => exact ⟨p, xs, Nat.le_refl _, by omega, rfl, rfl, Shl.start p xs, HROW.out, Tch.refl _ _ _ _, HBK.out⟩
    case round =>
      obtain ⟨j, ys, hpj, hj, rfl, rfl, hsh, hrw, htc, hbk⟩ := hrel
      have SH := Lib.hid hsh
      have RW := Lib.hid hrw
      have TC := Lib.hid htc
      have BK := Lib.hid hbk
      clear hsh hrw htc hbk
      by_cases hlt : j + 1 < len
      · obtain ⟨z, hz⟩ : ∃ z, xs[j + 1]? = some z := ⟨_, List.getElem?_eq_getElem (by rw [HLEN.out]; omega)⟩
        have hyz : ys[j + 1]? = some z := by rw [SH.out.2 (j + 1), if_neg (by omega)]; exact hz
        have hzn : z ≠ n := NE.out (j + 1) z (by omega) hz
        have HF := Lib.hid (forget1_any z n b wr (BK.out.blk.cell 0))
        rw [show (z == n) = false by simpa using hzn] at HF
        have hcell : wr.cell? ⟨g, j + 1, none⟩ = some (.int .i64 z) := by
          rw [RW.out.own.cellAt (j + 1) (by omega), ints, List.getElem?_map, hyz]; rfl
        have hcj : (wr.cell? ⟨g, j, none⟩).isSome = true := by
          rw [RW.out.own.cellAt j (by omega), ints, List.getElem?_map, List.getElem?_eq_getElem (by rw [SH.out.1, HLEN.out]; omega)]; rfl
        obtain ⟨u, hu⟩ := Option.isSome_iff_exists.1 hcj
        have hfr : wr.frozen? ⟨g, j, none⟩ = false := RW.out.own.frozenAt j
        have R2 := Lib.hid (RW.out.stored j (.int .i64 z))
        rw [ints_set] at R2
        have S2 := Lib.hid (SH.out.next hpj hz)
        have T2 := Lib.hid (TC.out.setCell (p := ⟨g, j, none⟩) (by rw [hcg]; omega) (.int .i64 z))
        have K2 := Lib.hid (BK.out.keep ((Tch.refl r (r + 1) col wr).setCell (p := ⟨g, j, none⟩) (by rw [hcg]; omega) (.int .i64 z)) (by omega))
        clear hz hyz hzn hcj RW SH TC BK
        unfold ptr at HF
        go_wp2_with fail
        refine HF.out.mono ?_
        rintro e w' ⟨rfl, rfl⟩
        go_wp2_with fail
        go_roundw
        case rel => exact ⟨j + 1, ys.set j z, by omega, by omega, by go_num, by go_num, S2.out, R2.out, T2.out, K2.out⟩
        case measure => simp [intOf]; omega
      · have hje : j + 1 = len := by omega
        have hcl : ∀ ty, (Builtin.clear_ #[42] ty #[.slice (some ⟨g, j, none⟩) (len - j) (cap - j)]).run Try.prog wr = .ok (.tuple #[]) (wr.setCell ⟨g, j, none⟩ (.int .i64 0)) := fun ty => by
          rw [show len - j = 1 by omega]
          exact Lib.run_clear_slice wr _ _ ty (.int .i64 0) Try.underlying42 zero_int rfl rfl g j 1 _ (by omega) (fun q hq => by
            obtain rfl : q = 0 := by omega
            rw [Nat.add_zero, RW.out.own.cellAt j (by omega), ints, List.getElem?_map, List.getElem?_eq_getElem (by rw [SH.out.1, HLEN.out]; omega)]; rfl) (fun q hq => RW.out.own.frozenAt _)
        have R2 := Lib.hid ((RW.out.stored j (.int .i64 0)).cut (m := j) (by omega))
        have T2 := Lib.hid (TC.out.setCell (p := ⟨g, j, none⟩) (by rw [hcg]; omega) (.int .i64 0))
        have E2 := Lib.hid (show ((ints ys).set j (.int .i64 0)).take j = ints (wo n xs) by
          rw [ints_set, HW.out, ← SH.out.fin hpj (by rw [HLEN.out]; exact hje), ints, ints, ← List.map_take, List.take_set_of_le (Nat.le_refl _)])
        have E3 := Lib.hid (show (wo n xs).length = j by rw [HW.out, List.length_eraseIdx_of_lt (by rw [HLEN.out]; exact hplt), HLEN.out]; omega)
        rw [E2.out] at R2
        clear RW TC SH BK HW NE
        go_wp2_with (simp only [hcl])
        go_ret
        exact ⟨_, rfl, T2.out, by rw [E3.out]; exact R2.out⟩
end Go.Proofs.Ytomoliickggghaa.Mem

namespace Go.Proofs.Ytomoliickggghaa.Mem
open Go.RowKit Go.Proofs.Ytomoliickggghaa Go.Proofs.Ytomoliickggghaa.Wire
set_option maxHeartbeats 8000000
set_option maxRecDepth 100000
set_option linter.unusedVariables false
set_option linter.unusedSimpArgs false

theorem step_map_drop (w : World) {ops : Array Oper} {o : Oper} {a : Act} {K : Act → World → Prop} {Q : Exit → Act → World → Prop} {E' : Prop} (hg : o.guard = none) (m x : Operand) (t : TypeId)
    (hop : o.op = Op.call { callee := Callee.builtin Builtin.delete, args := #[m, x], argTypes := #[t, 3] }) (e : TypeId) (ht : Try.prog.underlying t = some (.map 3 e)) (col : Col) (B r b N : Nat) (f : Int → Option Value)
    (hm : a.eval m = .map (some b)) (h : MapR w col B r b N f) (k : Int) (hx : a.eval x = .int .i64 k) (hk : KB k)
    (hK : ∀ w', MapR w' col B r b N (fun j => if j = k then none else f j) → Tch r (r + 1) col col w w' → K (a.put o.dst (.tuple #[])) w') :
    if Region.wanted o (yielded ops a.tmps) = true then Oper.wp Try.prog o a w K Q else E' := by
  have hw : Region.wanted o (yielded ops a.tmps) = true := by simp [Region.wanted, hg]
  rw [if_pos hw]
  obtain ⟨w', hrun, r1, r2⟩ := h.drop ht hk o.type
  unfold Oper.wp
  simp [execOp, hop, resolve, invoke, builtin, hm, hx, hrun, Result.andThen]
  exact hK w' r1 (Tch.of_grown r2 (fun g e _ => by injection e with e; subst e; rw [h.c]; omega))

/-- All of a store but shard i. -/
structure StoreH (w : World) (col : Col) (B c p : Nat) (S : SS) (L : SL) (i : Nat) : Prop where
  s : Bk w col B c p 60 #[ptr L.dp, .int .i64 S.room, .map (some L.bc), .map (some L.bw), .map (some L.bh), L.vu, L.vs, .int .i64 S.found, .int .i64 S.asked]
  chg : MapB w col B (c + 1) L.bc S.d.N S.chg
  wait : MapB w col B (c + 2) L.bw S.d.N S.wait
  held : MapR w col B (c + 7) L.bh S.d.N (heldF S.held)
  undo : Row w col B (c + 4) 1 1 L.vu S.undo.length L.us
  us : ∀ (i : Nat) (u : Und) (v : Value), S.undo[i]? = some u → L.us[i]? = some v → UndAt w col B c p L.bh S.d.N u v
  shs : Row w col B (c + 5) 80 2 L.vs S.sh.length (scells L.sh)
  shl : L.sh.length = S.sh.length
  sh : ∀ (j : Nat) (x : Value × Nat) (y : Sd), j ≠ i → L.sh[j]? = some x → S.sh[j]? = some y → ShAt w col B c S.d.N j x y
  d : DiskAt w col B (c + 8) L.dp S.d
  old : ∀ b, b < w.heap.size → col b = c + 6 → ∃ f, MapR w col B (c + 6) b S.d.N f
  lo : 16 ≤ c
  shn : 1 ≤ S.sh.length ∧ S.sh.length ≤ 16
  rm : 1 ≤ S.room ∧ S.room ≤ 256
  few : S.undo.length + S.found + S.asked ≤ 1000000000
  tidy : ∀ b, w.heap.size ≤ b → col b = 0
section
variable {w : World} {col : Col} {B c p : Nat} {S : SS} {L : SL} {i : Nat}
theorem StoreL.hole (h : StoreL w col B c p S L) (i : Nat) : StoreH w col B c p S L i := ⟨h.s, h.chg, h.wait, h.held, h.undo, h.us, h.shs, h.shl, fun j x y _ => h.sh j x y, h.d, h.old, h.lo, h.shn, h.rm, h.few, h.tidy⟩
theorem StoreH.keep {w' : World} {b : Col} {lo hi : Nat} (h : StoreH w col B c p S L i) (ht : Tch lo hi col b w w') (hlo : 2 ≤ lo ∨ hi ≤ 1) (hr : (c + 16 + 2 * i ≤ lo ∧ hi ≤ c + 18 + 2 * i) ∨ c + 64 ≤ lo ∨ hi ≤ c) : StoreH w' b B c p S L i := by
  have hn := h.shn
  have hcl := h.lo
  refine ⟨h.s.keep ht (by omega), h.chg.keep ht hlo (by omega), h.wait.keep ht hlo (by omega), h.held.keep ht (by omega), h.undo.keep ht (by omega), fun i u v h1 h2 => (h.us i u v h1 h2).keep ht hlo (by omega), h.shs.keep ht (by omega), h.shl, fun j x y h0 h1 h2 => ?_,
    h.d.keep ht hlo (by omega), old_keep h.old h.tidy h.lo ht (by omega), h.lo, h.shn, h.rm, h.few, ht.tidy h.tidy⟩
  have hi := (List.getElem?_eq_some_iff.1 h2).1
  exact (h.sh j x y h0 h1 h2).keep ht hlo (by omega) (by omega)
def SS.setSh (S : SS) (i : Nat) (y : Sd) : SS := { S with sh := S.sh.set i y }
def SL.setSh (L : SL) (i : Nat) (x : Value × Nat) : SL := { L with sh := L.sh.set i x }
theorem StoreH.close (h : StoreH w col B c p S L i) {x : Value × Nat} {y : Sd} (hx : L.sh[i]? = some x) (hs : ShAt w col B c S.d.N i x y) : StoreL w col B c p (S.setSh i y) L := by
  have hl : (S.setSh i y).sh.length = S.sh.length := by simp [SS.setSh]
  refine ⟨h.s, h.chg, h.wait, h.held, h.undo, h.us, by rw [hl]; exact h.shs, by rw [hl]; exact h.shl, fun j x' y' h1 h2 => ?_, h.d, h.old, h.lo, by rw [hl]; exact h.shn, h.rm, h.few, h.tidy⟩
  by_cases e : j = i
  · subst e
    rw [hx] at h1
    injection h1 with h1
    subst h1
    have h3 : j < S.sh.length := by rw [← h.shl]; exact (List.getElem?_eq_some_iff.1 hx).1
    simp only [SS.setSh] at h2
    rw [List.getElem?_set_self h3] at h2
    injection h2 with h2
    subst h2
    exact hs
  · simp only [SS.setSh] at h2
    rw [List.getElem?_set_ne (Ne.symm e)] at h2
    exact h.sh j x' y' e h1 h2
theorem scells_set : ∀ (l : List (Value × Nat)) (i : Nat) (v : Value) (b : Nat) (u : Value), l[i]? = some (u, b) → (scells l).set (i * 2) v = scells (l.set i (v, b))
  | [], _, _, _, _, h => by cases h
  | x :: l, 0, v, b, u, h => by injection h with h; subst h; rfl
  | x :: l, i + 1, v, b, u, h => by
    rw [show (i + 1) * 2 = i * 2 + 1 + 1 by omega]
    show x.1 :: .map (some x.2) :: (scells l).set (i * 2) v = x.1 :: .map (some x.2) :: scells (l.set i (v, b))
    rw [scells_set l i v b u h]
/-- A shard's order is stored. -/
theorem StoreH.order {gs cap : Nat} (h : StoreH w col B c p S L i) (hv : L.vs = .slice (some ⟨gs, 0, none⟩) S.sh.length cap) {u : Value} {bm : Nat} (hx : L.sh[i]? = some (u, bm)) (v : Value) :
    StoreH (w.setCell ⟨gs, i * 2, none⟩ v) col B c p S (L.setSh i (v, bm)) i ∧ Tch (c + 5) (c + 6) col col w (w.setCell ⟨gs, i * 2, none⟩ v) := by
  have hcol : col gs = c + 5 := h.shs.c gs (by rw [hv]; rfl)
  have ht : Tch (c + 5) (c + 6) col col w (w.setCell ⟨gs, i * 2, none⟩ v) := (Tch.refl _ _ _ _).setCell (p := ⟨gs, i * 2, none⟩) (by rw [hcol]; omega) v
  have hn := h.shn
  have hcl := h.lo
  refine ⟨⟨h.s.keep ht (by omega), h.chg.keep ht (by omega) (by omega), h.wait.keep ht (by omega) (by omega), h.held.keep ht (by omega), h.undo.keep ht (by omega), fun i u v h1 h2 => (h.us i u v h1 h2).keep ht (by omega) (by omega), ?_, by simp [SL.setSh]; exact h.shl, fun j x y h0 h1 h2 => ?_,
    h.d.keep ht (by omega) (by omega), old_keep h.old h.tidy h.lo ht (by omega), h.lo, h.shn, h.rm, h.few, ht.tidy h.tidy⟩, ht⟩
  · have := h.shs
    rw [hv] at this
    have := this.stored (i * 2) v
    rw [scells_set _ _ _ _ _ hx] at this
    show Row _ _ _ _ _ _ L.vs _ _
    rw [hv]
    exact this
  · have hi := (List.getElem?_eq_some_iff.1 h2).1
    simp only [SL.setSh] at h1
    rw [List.getElem?_set_ne (Ne.symm h0)] at h1
    exact (h.sh j x y h0 h1 h2).keep ht (by omega) (by omega) (by omega)
theorem setSh_twice (L : SL) (i : Nat) (x y : Value × Nat) : (L.setSh i x).setSh i y = L.setSh i y := by simp [SL.setSh]
theorem setSh_at {L : SL} {i : Nat} {u x : Value × Nat} (h : L.sh[i]? = some u) : (L.setSh i x).sh[i]? = some x := by
  simp only [SL.setSh]
  rw [List.getElem?_set_self (List.getElem?_eq_some_iff.1 h).1]
end
theorem Pair.ext {w : World} {col : Col} {B : Nat} {f : Int → Option Value} {m m' : Int → Option Bytes} (h : Pair w col B f m) (e : ∀ k, m k = m' k) : Pair w col B f m' := fun k => by rw [← e k]; exact h k
/-- A shard without a block. -/
def Sd.wo (y : Sd) (n : Int) : Sd := (Mem.wo n y.1, fun j => if j = n then none else y.2 j)
theorem wo_nod {n : Int} {l : List Int} (h : l.Pairwise (· ≠ ·)) : (wo n l).Pairwise (· ≠ ·) := h.filter _
theorem wo_mem {n x : Int} {l : List Int} (h : x ∈ wo n l) : x ∈ l ∧ x ≠ n := by
  rw [wo, List.mem_filter] at h
  exact ⟨h.1, by simpa using h.2⟩
theorem forget_any (w : World) (col : Col) (B c p i gs cap : Nat) (S : SS) (L : SL) (n : Int) (x : Value × Nat) (y : Sd) (h : StoreH w col B c p S L i) (hv : L.vs = .slice (some ⟨gs, 0, none⟩) S.sh.length cap) (hx : L.sh[i]? = some x) (hy : ShAt w col B c S.d.N i x y) (hi : i < S.sh.length) (hn : KB n) (hB : B ≤ w.heap.size) :
    Calls Try.prog 42 #[.pointer (some ⟨gs, i * 2, none⟩), .int .i64 n] w fun e w' => e = .returned (.tuple #[]) ∧ ∃ u, Tch (c + 5) (c + 64) col col w w' ∧ StoreH w' col B c p S (L.setSh i (u, x.2)) i ∧ ShAt w' col B c S.d.N i (u, x.2) (y.wo n) := by
  have hcl := h.lo
  have hsn := h.shn
  obtain ⟨vo, bm⟩ := x
  have H1 := Lib.hid h
  obtain ⟨f, hf, hp⟩ := hy.dat.ex
  have F := Lib.hid hf
  have P1 := Lib.hid hp
  have O1 := Lib.hid hy.ord
  have ND := Lib.hid hy.nod
  have HAS := Lib.hid hy.has
  have HX := Lib.hid hx
  have HV := Lib.hid hv
  have hs0 := h.shs
  rw [hv] at hs0
  have hcs := scells_get L.sh i _ hx
  have hci : w.cell? ⟨gs, i * 2, none⟩ = some vo := by rw [hs0.own.cellAt _ (by have := h.shl; omega)]; exact hcs.1
  have hcm : w.cell? ⟨gs, i * 2 + 1, none⟩ = some (.map (some bm)) := by rw [hs0.own.cellAt _ (by have := h.shl; omega)]; exact hcs.2
  have hfz : w.frozen? ⟨gs, i * 2, none⟩ = false := hs0.own.frozenAt _
  -- the box
  obtain ⟨w1, hw1⟩ : ∃ w1, (w.alloc (.cells #[.int .i64 n] 3)) = w1 := ⟨_, rfl⟩
  have T1 := Lib.hid (show Tch 16 16 col col w w1 by rw [← hw1]; exact (Tch.refl _ _ _ _).alloc _)
  have K1 := Lib.hid (show Bk w1 col 0 0 w.heap.size 3 #[.int .i64 n] from ⟨by rw [← hw1]; exact Blk.new w 3 #[.int .i64 n], h.tidy _ (Nat.le_refl _), Nat.zero_le _⟩)
  have H2 := Lib.hid (H1.out.keep T1.out (by omega) (by omega))
  have F2 := Lib.hid (F.out.keep T1.out (by omega))
  have P2 := Lib.hid (P1.out.keep T1.out (by omega))
  have O2 := Lib.hid (O1.out.keep T1.out (by omega))
  have cs := hs0.keep T1.out (by omega)
  have d1 : w1.drew.cell? ⟨gs, i * 2 + 1, none⟩ = some (.map (some bm)) := by
    show w1.cell? _ = _
    rw [cs.own.cellAt _ (by have := h.shl; omega)]; exact hcs.2
  have d2 : w1.drew.cell? ⟨w.heap.size, 0, none⟩ = some (.int .i64 n) := K1.out.blk.cell 0
  have HW1 := Lib.hid hw1
  clear h hv hx hy hf hp hs0 hcs hw1 cs H1 F P1 O1
  go_enter Try.func42, Try.ntmps42
  go_wp2_with fail
  rw [HW1.out]
  refine region_mix [true, true, true, true, true, false] (S := fun w' => w'.cell? ⟨gs, i * 2 + 1, none⟩ = some (.map (some bm)) ∧ w'.cell? ⟨w.heap.size, 0, none⟩ = some (.int .i64 n)) (by kernel_rfl) (by kernel_rfl) (fun _ _ d _ _ h => by cases d <;> exact h) ⟨d1, d2⟩ ?_
  iterate 5 (refine mix_take (v := ?_) (by kernel_rfl) ?_ (fun K hK => ?_); rotate_left; (· (intro w' hSw; (try dsimp only at hSw); go_simp; with_reducible rfl)); simp only [Act.put, List.setIfInBounds_toArray, List.set_cons_zero, List.set_cons_succ]; refine hK _ ?_; clear hK K)
  refine mix_do (E := False) (fun K hK => ?_) (by kernel_rfl)
  refine step_map_drop _ rfl (.tmp 7) (.tmp 8) 55 rfl 34 Try.underlying55 col B (c + 17 + 2 * i) bm S.d.N f rfl ((F2.out.keep ((Tch.refl 16 16 col w1).drew) (by omega))) n rfl hn ?_
  intro w2 m2 t2
  have T2 := Lib.hid (show Tch (c + 17 + 2 * i) (c + 17 + 2 * i + 1) col col w1 w2 from ((Tch.refl _ _ _ _).drew).trans t2)
  have H3 := Lib.hid (H2.out.keep T2.out (by omega) (by omega))
  have O3 := Lib.hid (O2.out.keep T2.out (by omega))
  have K3 := Lib.hid (K1.out.keep T2.out (by omega))
  have P3 := Lib.hid ((P2.out.keep T2.out (by omega)).del n)
  have M3 := Lib.hid m2
  have hs3 := H3.out.shs
  rw [HV.out] at hs3
  have hcs := scells_get L.sh i _ HX.out
  have e0 : w2.cell? ⟨gs, i * 2, none⟩ = some vo := by rw [hs3.own.cellAt _ (by have := H3.out.shl; omega)]; exact hcs.1
  have e1 : w2.cell? ⟨gs, i * 2 + 1, none⟩ = some (.map (some bm)) := by rw [hs3.own.cellAt _ (by have := H3.out.shl; omega)]; exact hcs.2
  have e2 : w2.cell? ⟨w.heap.size, 0, none⟩ = some (.int .i64 n) := K3.out.blk.cell 0
  clear d1 d2 m2 t2 hs3 hcs H2 O2 K1 P2 F2
  refine hK.out _ _ (⟨e1, e2⟩) ?_
  clear hK K
  try simp only [Act.put, List.setIfInBounds_toArray, List.set_cons_zero, List.set_cons_succ]
  refine mix_end ?_
  have HD := Lib.hid (deleteFunc_any w2 col B 0 (c + 16 + 2 * i) 0 w.heap.size n y.1 vo O3.out K3.out (by omega) (by omega) ND.out)
  obtain ⟨A, vcap, rfl, _⟩ := row_len O3.out
  unfold fn1 ptr at HD
  go_wp2_with fail
  refine HD.out.mono ?_
  rintro e w3 ⟨v3, rfl, t3, o3⟩
  have T3 := Lib.hid t3
  have O4 := Lib.hid o3
  have H4 := Lib.hid (H3.out.keep T3.out (by omega) (by omega))
  have M4 := Lib.hid (M3.out.keep T3.out (by omega))
  have P4 := Lib.hid (P3.out.keep T3.out (by omega))
  have hs4 := H4.out.shs
  rw [HV.out] at hs4
  have hcs := scells_get L.sh i _ HX.out
  have e3 : w3.cell? ⟨gs, i * 2, none⟩ = some (.slice A y.1.length vcap) := by rw [hs4.own.cellAt _ (by have := H4.out.shl; omega)]; exact hcs.1
  have e4 : w3.frozen? ⟨gs, i * 2, none⟩ = false := hs4.own.frozenAt _
  obtain ⟨A3, vcap3, rfl, _⟩ := row_len o3
  clear t3 o3 hs4 hcs e0 e1 e2 HD H3 O3 K3 P3 M3
  obtain ⟨h5, t5⟩ := H4.out.order HV.out HX.out (.slice A3 (wo n y.1).length vcap3)
  have H5 := Lib.hid h5
  have T5 := Lib.hid t5
  clear h5 t5
  go_wp2_with fail
  go_end0
  refine ⟨rfl, _, ?_, H5.out, ?_⟩
  · exact (((T1.out.any (lo' := c + 5) (hi' := c + 64) (Nat.le_refl _)).trans (T2.out.mono (by omega) (by omega))).trans (T3.out.mono (by omega) (by omega))).trans (T5.out.mono (by omega) (by omega))
  · exact ⟨O4.out.keep T5.out (by omega), ⟨_, M4.out.keep T5.out (by omega), P4.out.keep T5.out (by omega)⟩, wo_nod ND.out, fun k hk => HAS.out k (wo_mem hk).1⟩
end Go.Proofs.Ytomoliickggghaa.Mem

namespace Go.Proofs.Ytomoliickggghaa.Mem
open Go.RowKit Go.Proofs.Ytomoliickggghaa Go.Proofs.Ytomoliickggghaa.Wire
set_option maxHeartbeats 8000000
set_option maxRecDepth 100000
set_option linter.unusedVariables false
set_option linter.unusedSimpArgs false

theorem nod_len {l : List Int} {N : Nat} (h : l.Pairwise (· ≠ ·)) (hl : ∀ n ∈ l, 0 ≤ n ∧ n < (N : Int)) : l.length ≤ N := by
  have := pigeon N (l.map Int.toNat) (by
    rw [List.pairwise_map]
    refine List.Pairwise.imp_of_mem ?_ h
    intro a b ha hb hne e
    have h1 := hl a ha
    have h2 := hl b hb
    exact hne (by omega)) (fun x hx => by
    obtain ⟨a, ha, rfl⟩ := List.mem_map.1 hx
    have h1 := hl a ha
    omega)
  rwa [List.length_map] at this
/-- A block comes into a shard, as the one used last. -/
def Sd.put (y : Sd) (n : Int) (bs : Bytes) : Sd := (Mem.wo n y.1 ++ [n], fun j => if j = n then some bs else y.2 j)
def Sd.use (y : Sd) (n : Int) (bs : Bytes) (room : Nat) : Sd := if room < (y.put n bs).1.length then (y.put n bs).wo ((y.put n bs).1.headD 0) else y.put n bs
def SS.shard (S : SS) (i : Nat) : Sd := (S.sh[i]?).getD ([], fun _ => none)
def SS.use (S : SS) (n : Int) (bs : Bytes) : SS := S.setSh (S.of n) ((S.shard (S.of n)).use n bs S.room)
theorem put_nod {y : Sd} {n : Int} {bs : Bytes} (h : y.1.Pairwise (· ≠ ·)) : (y.put n bs).1.Pairwise (· ≠ ·) := by
  rw [Sd.put, List.pairwise_append]
  exact ⟨wo_nod h, by simp, fun a ha b hb => by
    rw [List.mem_singleton] at hb
    rw [hb]; exact (wo_mem ha).2⟩
theorem put_has {y : Sd} {n : Int} {bs : Bytes} {N : Nat} (h : ∀ k ∈ y.1, 0 ≤ k ∧ k < (N : Int)) (hn : 0 ≤ n ∧ n < (N : Int)) : ∀ k ∈ (y.put n bs).1, 0 ≤ k ∧ k < (N : Int) := fun k hk => by
  rw [Sd.put, List.mem_append] at hk
  rcases hk with hk | hk
  · exact h k (wo_mem hk).1
  · rw [List.mem_singleton] at hk; rw [hk]; exact hn
theorem of_lt {S : SS} (n : Int) (h : 1 ≤ S.sh.length) : S.of n < S.sh.length := by
  have h1 := Int.emod_lt_of_pos n (show (0 : Int) < (S.sh.length : Int) by omega)
  have h2 := Int.emod_nonneg n (show (S.sh.length : Int) ≠ 0 by omega)
  unfold SS.of; omega
theorem use_any (w : World) (col : Col) (B c p : Nat) (S : SS) (L : SL) (n : Int) (v : Value) (bs : Bytes) (h : StoreL w col B c p S L) (hn : S.has n = true) (hd : Dat w col B v bs) (hB : B ≤ w.heap.size) :
    Calls Try.prog 47 #[ptr p, .int .i64 n, v] w fun e w' => e = .returned (.tuple #[]) ∧ ∃ col', Tch (c + 5) (c + 64) col col' w w' ∧ StoreAt w' col' B c p (S.use n bs) := by
  obtain ⟨gs, cap, hv, hof⟩ := of_any w col B c p S L n h hn
  have hcl := h.lo
  have hsn := h.shn
  have hN := h.d.n
  have hn2 : 0 ≤ n ∧ n < (S.d.N : Int) := of_decide_eq_true hn
  have hkb : KB n := ⟨by omega, by omega⟩
  have hi := of_lt (S := S) n hsn.1
  obtain ⟨i, hie⟩ : ∃ i, S.of n = i := ⟨_, rfl⟩
  have HUSE := Lib.hid (show S.use n bs = S.setSh i ((S.shard i).use n bs S.room) by rw [← hie]; rfl)
  rw [hie] at hof hi
  obtain ⟨x, hx⟩ : ∃ x, L.sh[i]? = some x := ⟨_, List.getElem?_eq_getElem (by rw [h.shl]; exact hi)⟩
  obtain ⟨y, hy⟩ : ∃ y, S.sh[i]? = some y := ⟨_, List.getElem?_eq_getElem hi⟩
  have HY := Lib.hid (show S.shard i = y by rw [SS.shard, hy]; rfl)
  have SH := Lib.hid (h.sh i x y hx hy)
  have HH := Lib.hid (h.hole i)
  have HOF := Lib.hid hof
  have HX := Lib.hid hx
  have HV := Lib.hid hv
  have D1 := Lib.hid hd
  have T1 := Lib.hid ((Tch.refl (c + 5) (c + 64) col w).drew)
  have H1 := Lib.hid (HH.out.keep ((Tch.refl 16 16 col w).drew) (by omega) (by omega))
  have S1 := Lib.hid (SH.out.keep ((Tch.refl 16 16 col w).drew) (by omega) (by omega) (by omega))
  have D2 := Lib.hid (D1.out.keep ((Tch.refl 16 16 col w).drew) (by omega))
  have HF := Lib.hid (forget_any w.drew col B c p i gs cap S L n x y H1.out hv hx S1.out hi hkb hB)
  clear h hn hof hie hx hy hv hd HH SH D1
  obtain ⟨gd, dcap, rfl, _⟩ := D2.out.form
  unfold ptr at *
  go_enter Try.func47, Try.ntmps47
  go_wp2_with fail
  refine HOF.out.mono ?_
  rintro e w' ⟨rfl, rfl⟩
  go_wp2_with fail
  refine HF.out.mono ?_
  rintro e w2 ⟨rfl, u, t2, h2, s2⟩
  have T2 := Lib.hid (T1.out.trans t2)
  have H2 := Lib.hid h2
  have S2 := Lib.hid s2
  have D3 := Lib.hid (D2.out.keep t2 (by omega))
  have hs2 := H2.out.shs
  rw [show (L.setSh i (u, x.2)).vs = L.vs from rfl, HV.out] at hs2
  have hcs := scells_get _ i _ (setSh_at HX.out (x := (u, x.2)))
  have e0 : w2.cell? ⟨gs, i * 2, none⟩ = some u := by rw [hs2.own.cellAt _ (by have := H2.out.shl; omega)]; exact hcs.1
  have hB2 : B ≤ w2.heap.size := Nat.le_trans hB t2.size
  have S1N := Lib.hid S1.out.nod
  have S1H := Lib.hid S1.out.has
  have LEN := Lib.hid (nod_len (wo_nod (n := n) S1.out.nod) fun k hk => S1.out.has k (wo_mem hk).1)
  -- the new number's row
  obtain ⟨w3, hw3⟩ : ∃ w3, w2.alloc (.cells #[.int .i64 n] 3) = w3 := ⟨_, rfl⟩
  have T3 := Lib.hid (show Tch 16 16 col col w2 w3 by rw [← hw3]; exact (Tch.refl _ _ _ _).alloc _)
  have X3 := Lib.hid (show RowAt w3 (some ⟨w2.heap.size, 0, none⟩) (1 * 1) [.int .i64 n] by rw [← hw3]; exact lit_rowN w2 3 [.int .i64 n] (1 * 1) w2.heap.size rfl rfl)
  have O3 := Lib.hid (S2.out.ord.keep T3.out (by omega))
  have HW3 := Lib.hid hw3
  have hB3 : B ≤ w3.heap.size := Nat.le_trans hB2 T3.out.size
  clear t2 h2 s2 hs2 hcs hw3 HF T1 H1 S1 D2 HOF
  go_wp2_with (first
    | (at_builtin
       rw [HW3.out]
       refine app_row _ 42 3 (.int .i64 0) 1 8 Try.underlying42 infoInt rfl (by decide) rfl (.tmp 17) (.tmp 19) rfl col B (c + 16 + 2 * i) (c + 16 + 2 * i) (c + 16 + 2 * i + 1) u _ _ rfl O3.out ⟨by omega, by omega⟩ (some ⟨w2.heap.size, 0, none⟩) 1 1 [.int .i64 n] rfl (fun e => by cases e) X3.out (by intro u hu; simp at hu; subst hu; rfl) (by have := LEN.out; unfold maxLen; simp only [Sd.wo]; omega) (by have := LEN.out; simp only [Sd.wo]; omega) hB3 ?_
       intro v4 w4 col4 r4 t4 hc4
       obtain ⟨g4, cap4, cur4, rfl, _⟩ := own_form r4.own (by omega)
       have T4 := Lib.hid ((T2.out.trans (T3.out.any (Nat.le_refl _))).trans (t4.mono (by omega) (by omega)))
       have t34 := (T3.out.any (lo' := c + 16 + 2 * i) (hi' := c + 16 + 2 * i + 1) (Nat.le_refl _)).trans t4
       have H4 := Lib.hid (H2.out.keep t34 (by omega) (by omega))
       have O4 := Lib.hid (show Row w4 col4 B (c + 16 + 2 * i) 3 1 (.slice (some ⟨g4, 0, none⟩) ((y.wo n).1.length + 1) cap4) (y.put n bs).1.length (ints (y.put n bs).1) by
         have := r4
         simpa [Sd.put, Sd.wo, ints] using this)
       have M4 := Lib.hid (S2.out.dat.keep t34 (by omega) (by omega))
       have D4 := Lib.hid (D3.out.keep t34 (by omega))
       have hs4 := H4.out.shs
       rw [show (L.setSh i (u, x.2)).vs = L.vs from rfl, HV.out] at hs4
       have hcs := scells_get _ i _ (setSh_at HX.out (x := (u, x.2)))
       have e1 : w4.cell? ⟨gs, i * 2, none⟩ = some u := by rw [hs4.own.cellAt _ (by have := H4.out.shl; omega)]; exact hcs.1
       have e2 : w4.cell? ⟨gs, i * 2 + 1, none⟩ = some (.map (some x.2)) := by rw [hs4.own.cellAt _ (by have := H4.out.shl; omega)]; exact hcs.2
       have e3 : w4.frozen? ⟨gs, i * 2, none⟩ = false := hs4.own.frozenAt _
       obtain ⟨h5, t5⟩ := H4.out.order HV.out (setSh_at HX.out) (.slice (some ⟨g4, 0, none⟩) ((y.wo n).1.length + 1) cap4)
       rw [setSh_twice] at h5
       have H5 := Lib.hid h5
       have T5 := Lib.hid (T4.out.trans (t5.mono (by omega) (by omega)))
       have O5 := Lib.hid (O4.out.keep t5 (by omega))
       have M5 := Lib.hid (M4.out.keep t5 (by omega) (by omega))
       have D5 := Lib.hid (D4.out.keep t5 (by omega))
       obtain ⟨f5, hf5, hp5⟩ := M5.out.ex
       have F5 := Lib.hid hf5
       have P5 := Lib.hid (hp5.set (n := n) D5.out |>.ext (m' := (y.put n bs).2) (fun k => by
         show (if k = n then some bs else (y.wo n).2 k) = if k = n then some bs else y.2 k
         by_cases e : k = n
         · rw [if_pos e, if_pos e]
         · rw [if_neg e, if_neg e]; show (if k = n then none else y.2 k) = y.2 k; rw [if_neg e]))
       clear r4 t4 hc4 t34 hs4 hcs h5 t5 hf5 hp5 H4 O4 M4 D4 e0)
    | (at_mapUpdate
       refine map_put _ rfl (.tmp 26) (.tmp 27) (.tmp 28) 55 rfl 34 Try.underlying55 col4 B (c + 17 + 2 * i) x.2 S.d.N f5 rfl F5.out n rfl hn2 (.slice (some ⟨gd, 0, none⟩) 256 dcap) rfl ?_
       intro w6 m6 t6
       have T6 := Lib.hid (T5.out.trans (t6.mono (by omega) (by omega)))
       have H6 := Lib.hid (H5.out.keep t6 (by omega) (by omega))
       have O6 := Lib.hid (O5.out.keep t6 (by omega))
       have P6 := Lib.hid (P5.out.keep t6 (by omega))
       have M6 := Lib.hid m6
       clear m6 t6 H5 O5 P5 F5 M5 D5)
    | fail)
  have MEQ := Lib.hid (show (y.put n bs).1.length = (y.wo n).1.length + 1 by simp [Sd.put, Sd.wo])
  obtain ⟨m, hm⟩ : ∃ m, (y.wo n).1.length + 1 = m := ⟨_, rfl⟩
  have ND := Lib.hid (put_nod (n := n) (bs := bs) S1N.out)
  have HAS := Lib.hid (put_has (bs := bs) S1H.out hn2)
  have hs6 := H6.out.shs
  rw [show ∀ z, (L.setSh i z).vs = L.vs from fun _ => rfl, HV.out] at hs6
  have hcs := scells_get _ i _ (setSh_at HX.out (x := (.slice (some ⟨g4, 0, none⟩) ((y.wo n).1.length + 1) cap4, x.2)))
  have e4 : w6.drew.cell? ⟨gs, i * 2, none⟩ = some (.slice (some ⟨g4, 0, none⟩) m cap4) := by
    show w6.cell? _ = _
    rw [hs6.own.cellAt _ (by have := H6.out.shl; omega), ← hm]; exact hcs.1
  have e5 : w6.drew.cell? ⟨p, 1, none⟩ = some (.int .i64 S.room) := H6.out.s.blk.cell 1
  have T7 := Lib.hid (T6.out.drew)
  have H7 := Lib.hid (H6.out.keep ((Tch.refl 16 16 col4 w6).drew) (by omega) (by omega))
  have S7 := Lib.hid (show ShAt w6.drew col4 B c S.d.N i (.slice (some ⟨g4, 0, none⟩) ((y.wo n).1.length + 1) cap4, x.2) (y.put n bs) from ⟨O6.out.keep ((Tch.refl 16 16 col4 w6).drew) (by omega), ⟨_, M6.out.keep ((Tch.refl 16 16 col4 w6).drew) (by omega), P6.out.keep ((Tch.refl 16 16 col4 w6).drew) (by omega)⟩, ND.out, HAS.out⟩)
  rw [hm] at H7 S7 MEQ
  clear hs6 hcs e1 e2 e3 H6 O6 P6 M6 T2 H2 S2 D3 T3 X3 O3 HW3 T4 T6
  by_cases hgt : S.room < m
  · have HU := Lib.hid (show (y.use n bs S.room) = (y.put n bs).wo ((y.put n bs).1.headD 0) by rw [Sd.use, if_pos (by rw [MEQ.out]; exact hgt)])
    obtain ⟨z, zs, hz⟩ : ∃ z zs, (y.put n bs).1 = z :: zs := by
      cases hq : (y.put n bs).1 with
      | nil => have := MEQ.out; rw [hq] at this; simp at this; omega
      | cons z zs => exact ⟨z, zs, rfl⟩
    have e6 : w6.drew.cell? ⟨g4, 0, none⟩ = some (.int .i64 z) := by
      have ho : w6.drew.ownsRow B 3 1 (.slice (some ⟨g4, 0, none⟩) m cap4) m (ints (y.put n bs).1) := by have := S7.out.ord.own; rw [MEQ.out] at this; exact this
      rw [ho.cellAt 0 (by omega), hz]; rfl
    have hz2 := HAS.out z (by rw [hz]; exact List.mem_cons_self)
    have HZ := Lib.hid hz
    have hBd : B ≤ w6.drew.heap.size := Nat.le_trans hB T7.out.size
    have HF2 := Lib.hid (forget_any w6.drew col4 B c p i gs cap S _ z _ (y.put n bs) H7.out HV.out (setSh_at HX.out) S7.out hi ⟨by omega, by omega⟩ hBd)
    have hmI : (S.room : Int) < (m : Int) := by omega
    clear hz
    refine region_still (by kernel_rfl) (by kernel_rfl) ?_
    iterate 10 (refine still_take (v := ?_) (by kernel_rfl) ?_ (fun K hK => ?_); rotate_left; (· (go_simp; with_reducible rfl)); simp only [Act.put, List.setIfInBounds_toArray, List.set_cons_zero, List.set_cons_succ]; refine hK _ ?_; clear hK K)
    refine still_end ?_
    go_wp2_with fail
    refine HF2.out.mono ?_
    rintro e w8 ⟨rfl, u8, t8, h8, s8⟩
    rw [setSh_twice] at h8
    have C8 := Lib.hid (h8.close (setSh_at HX.out) s8)
    have T8 := Lib.hid (T7.out.trans t8)
    clear t8 h8 s8
    go_wp2_with fail
    go_end0
    refine ⟨rfl, col4, T8.out, ?_⟩
    rw [HUSE.out, HY.out, HU.out, HZ.out]
    exact ⟨_, C8.out⟩
  · have HU := Lib.hid (show (y.use n bs S.room) = y.put n bs by rw [Sd.use, if_neg (by rw [MEQ.out]; exact hgt)])
    have C8 := Lib.hid (H7.out.close (setSh_at HX.out) S7.out)
    have hmI : ¬ (S.room : Int) < (m : Int) := by omega
    refine region_still (by kernel_rfl) (by kernel_rfl) ?_
    iterate 10 (refine still_take (v := ?_) (by kernel_rfl) ?_ (fun K hK => ?_); rotate_left; (· (go_simp; with_reducible rfl)); simp only [Act.put, List.setIfInBounds_toArray, List.set_cons_zero, List.set_cons_succ]; refine hK _ ?_; clear hK K)
    refine still_end ?_
    go_wp2_with fail
    go_end0
    refine ⟨rfl, col4, T7.out, ?_⟩
    rw [HUSE.out, HY.out, HU.out]
    exact ⟨_, C8.out⟩
end Go.Proofs.Ytomoliickggghaa.Mem

namespace Go.Proofs.Ytomoliickggghaa.Mem
open Go.RowKit Go.Proofs.Ytomoliickggghaa Go.Proofs.Ytomoliickggghaa.Wire
set_option maxHeartbeats 8000000
set_option maxRecDepth 100000
set_option linter.unusedVariables false
set_option linter.unusedSimpArgs false

theorem StoreAt.keep {w w' : World} {a b : Col} {B c p lo hi : Nat} {S : SS} (h : StoreAt w a B c p S) (ht : Tch lo hi a b w w') (hlo : 2 ≤ lo ∨ hi ≤ 1) (hr : c + 64 ≤ lo ∨ hi ≤ c) : StoreAt w' b B c p S := by
  obtain ⟨L, h⟩ := h
  exact ⟨L, h.keep ht hlo hr⟩
theorem StoreAt.lo {w : World} {a : Col} {B c p : Nat} {S : SS} (h : StoreAt w a B c p S) : 16 ≤ c := by obtain ⟨L, h⟩ := h; exact h.lo
theorem StoreAt.tidy {w : World} {a : Col} {B c p : Nat} {S : SS} (h : StoreAt w a B c p S) : ∀ b, w.heap.size ≤ b → a b = 0 := by obtain ⟨L, h⟩ := h; exact h.tidy
theorem StoreL.counts {w w' : World} {col : Col} {B c p f a : Nat} {S : SS} {L : SL} (h : StoreL w col B c p S L) (ht : Tch c (c + 1) col col w w')
    (hs : Bk w' col B c p 60 #[ptr L.dp, .int .i64 S.room, .map (some L.bc), .map (some L.bw), .map (some L.bh), L.vu, L.vs, .int .i64 f, .int .i64 a]) (few : S.undo.length + f + a ≤ 1000000000) : StoreL w' col B c p { S with found := f, asked := a } L := by
  have hn := h.shn
  have hcl := h.lo
  refine ⟨hs, h.chg.keep ht (by omega) (by omega), h.wait.keep ht (by omega) (by omega), h.held.keep ht (by omega), h.undo.keep ht (by omega), fun i u v h1 h2 => (h.us i u v h1 h2).keep ht (by omega) (by omega), h.shs.keep ht (by omega), h.shl, fun i x y h1 h2 => ?_,
    h.d.keep ht (by omega) (by omega), old_keep h.old h.tidy h.lo ht (by omega), h.lo, h.shn, h.rm, few, ht.tidy h.tidy⟩
  have hi := (List.getElem?_eq_some_iff.1 h2).1
  exact (h.sh i x y h1 h2).keep ht (by omega) (by omega) (by omega)
theorem StoreL.found1 {w : World} {col : Col} {B c p : Nat} {S : SS} {L : SL} (h : StoreL w col B c p S L) (few : S.undo.length + S.found + S.asked + 1 ≤ 1000000000) :
    StoreL (w.setCell ⟨p, 7, none⟩ (.int .i64 ((S.found : Int) + 1))) col B c p { S with found := S.found + 1 } L ∧ Tch c (c + 1) col col w (w.setCell ⟨p, 7, none⟩ (.int .i64 ((S.found : Int) + 1))) := by
  have ht : Tch c (c + 1) col col w (w.setCell ⟨p, 7, none⟩ (.int .i64 ((S.found : Int) + 1))) := (Tch.refl _ _ _ _).setCell (p := ⟨p, 7, none⟩) (by rw [h.s.c]; omega) _
  exact ⟨h.counts (a := S.asked) ht (h.s.set 7 (.int .i64 ((S.found : Int) + 1))) (by omega), ht⟩
theorem StoreL.asked1 {w : World} {col : Col} {B c p : Nat} {S : SS} {L : SL} (h : StoreL w col B c p S L) (few : S.undo.length + S.found + S.asked + 1 ≤ 1000000000) :
    StoreL (w.setCell ⟨p, 8, none⟩ (.int .i64 ((S.asked : Int) + 1))) col B c p { S with asked := S.asked + 1 } L ∧ Tch c (c + 1) col col w (w.setCell ⟨p, 8, none⟩ (.int .i64 ((S.asked : Int) + 1))) := by
  have ht : Tch c (c + 1) col col w (w.setCell ⟨p, 8, none⟩ (.int .i64 ((S.asked : Int) + 1))) := (Tch.refl _ _ _ _).setCell (p := ⟨p, 8, none⟩) (by rw [h.s.c]; omega) _
  exact ⟨h.counts (f := S.found) ht (h.s.set 8 (.int .i64 ((S.asked : Int) + 1))) (by omega), ht⟩
/-- A clone of a block's bytes is the caller's. -/
theorem clone_dat (w : World) (col : Col) (B c p base : Nat) (S : SS) (v : Value) (bs : Bytes) (hs : StoreAt w col B c p S) (hb : base ≤ w.heap.size) (hd : Dat w col B v bs) :
    Calls Try.prog 40 #[v] w fun e w' => ∃ v', e = .returned v' ∧ Tch 16 16 col col w w' ∧ StoreAt w' col B c p S ∧ Row w' col base 0 5 1 v' bs.length (bvl bs) := by
  obtain ⟨g, cap, rfl, hby, h1, h2, h3, _⟩ := hd.form
  refine (Bits.clone_any (some ⟨g, 0, none⟩) 256 cap bs w (by omega) (fun e => by cases e) hby).mono ?_
  rintro e w' ⟨v', rfl, hbl, ho⟩
  refine ⟨v', rfl, Tch.of_below hbl, hs.keep (lo := 16) (hi := 16) (Tch.of_below hbl) (by omega) (by have := hs.lo; omega), ?_⟩
  rw [h3]
  exact ⟨own_mono ho hb, fun g' hg => hs.tidy _ (ho.lt g' hg).1⟩
theorem DS.get_len {w : World} {col : Col} {B c p : Nat} {S : DS} (h : DiskAt w col B c p S) (n : Int) : (S.get n).length = 256 := by
  obtain ⟨bd, bn, vp, h1, h2, h3, _⟩ := h.ex
  obtain ⟨fd, md, pd⟩ := h2.ex
  obtain ⟨fn, mn, pn⟩ := h3.ex
  rw [DS.get]
  rcases pn n with ⟨e1, e2⟩ | ⟨v, bs, e1, e2, hd⟩
  · rw [e2]
    rcases pd n with ⟨e3, e4⟩ | ⟨v, bs, e3, e4, hd⟩
    · rw [e4]; rfl
    · rw [e4]; obtain ⟨g, cap, rfl, _, _, _, h, _⟩ := hd.form; exact h
  · rw [e2]; obtain ⟨g, cap, rfl, _, _, _, h, _⟩ := hd.form; exact h

/-- What is changed, or waits. -/
def SS.get (S : SS) (n : Int) : Option Bytes := match S.chg n with
  | some b => some b
  | none => S.wait n
def SS.bytes (S : SS) (n : Int) : Bytes := match S.get n with
  | some b => b
  | none => match (S.shard (S.of n)).2 n with
    | some b => b
    | none => S.d.get n
def SS.read (S : SS) (n : Int) : SS := match S.get n with
  | some _ => { S with found := S.found + 1 }
  | none => match (S.shard (S.of n)).2 n with
    | some b => SS.use { S with found := S.found + 1 } n b
    | none => SS.use { S with asked := S.asked + 1 } n (S.d.get n)
def SS.readS (S : SS) (n : Int) : SS := if S.has n = true then S.read n else S
def SS.readB (S : SS) (n : Int) : Bytes := if S.has n = true then S.bytes n else []
def SS.readE (S : SS) (n : Int) : Int := if S.has n = true then 0 else 5
def SRead (w : World) (col : Col) (B c p : Nat) (S : SS) (bs : Bytes) (er : Int) (e : Ending) (w' : World) : Prop := ∃ v col', e = .returned (.tuple #[v, .int .i64 er]) ∧ Tch c (c + 64) col col' w w' ∧ StoreAt w' col' B c p S ∧ Row w' col' w.heap.size 0 5 1 v bs.length (bvl bs)
theorem sread_no (w : World) (col : Col) (B c p : Nat) (S : SS) (n : Int) (h : StoreAt w col B c p S) (hn : S.has n = false) :
    Calls Try.prog 17 #[ptr p, .int .i64 n] w fun e w' => SRead w col B c p (S.readS n) (S.readB n) (S.readE n) e w' := by
  have h0 := h
  obtain ⟨L, h⟩ := h
  have HH := Lib.hid (shas_any w col B c p S L n h)
  have H0 := Lib.hid h0
  have E1 := Lib.hid (show S.readS n = S by rw [SS.readS, hn]; rfl)
  have E2 := Lib.hid (show S.readB n = [] by rw [SS.readB, hn]; rfl)
  have E3 := Lib.hid (show S.readE n = 5 by rw [SS.readE, hn]; rfl)
  rw [hn] at HH
  clear h h0 hn
  go_enter Try.func17, Try.ntmps17
  go_wp2_with fail
  refine HH.out.mono ?_
  rintro e w' ⟨rfl, rfl⟩
  go_wp2_with fail
  go_ret2
  rw [E1.out, E2.out, E3.out]
  exact ⟨_, col, rfl, Tch.refl _ _ _ _, H0.out, Row.nil _ _ _ _ _ _⟩
theorem look_map {w : World} {col : Col} {B r b N : Nat} {f : Int → Option Value} (h : MapR w col B r b N f) {k : Int} (hk : KB k) :
    (Instr.lookup 55 (.map (some b)) (.int .i64 k) false).run Try.prog w = .ok ((f k).getD (.slice none 0 0)) w := h.look Try.underlying55 (zero_slice w) hk
theorem sread_yes (w : World) (col : Col) (B c p : Nat) (S : SS) (n : Int) (h : StoreAt w col B c p S) (hn : S.has n = true) (hB : B ≤ w.heap.size) (few : S.undo.length + S.found + S.asked + 1 ≤ 1000000000) :
    Calls Try.prog 17 #[ptr p, .int .i64 n] w fun e w' => SRead w col B c p (S.readS n) (S.readB n) (S.readE n) e w' := by
  obtain ⟨L, h⟩ := h
  have hcl := h.lo
  have hN := h.d.n
  have hn2 : 0 ≤ n ∧ n < (S.d.N : Int) := of_decide_eq_true hn
  have hkb : KB n := ⟨by omega, by omega⟩
  have HH := Lib.hid (shas_any w col B c p S L n h)
  have E1 := Lib.hid (show S.readS n = S.read n by rw [SS.readS, hn]; rfl)
  have E2 := Lib.hid (show S.readB n = S.bytes n by rw [SS.readB, hn]; rfl)
  have E3 := Lib.hid (show S.readE n = 0 by rw [SS.readE, hn]; rfl)
  have G1 := Lib.hid (show S.get n = match S.chg n with | some b => some b | none => S.wait n from rfl)
  rw [hn] at HH
  -- the two maps in a list
  obtain ⟨w2, hw2⟩ : ∃ w2, w.drew = w2 := ⟨_, rfl⟩
  have T2 := Lib.hid (show Tch 16 16 col col w w2 by rw [← hw2]; exact (Tch.refl _ _ _ _).drew)
  have hsz : w2.heap.size = w.heap.size := by rw [← hw2]; rfl
  have H2 := Lib.hid (h.keep T2.out (by omega) (by omega))
  have c2 : w2.cell? ⟨p, 2, none⟩ = some (.map (some L.bc)) := H2.out.s.blk.cell 2
  have c3 : w2.cell? ⟨p, 3, none⟩ = some (.map (some L.bw)) := H2.out.s.blk.cell 3
  obtain ⟨w3, hw3⟩ : ∃ w3, w2.alloc (.cells #[.map (some L.bc), .map (some L.bw)] 55) = w3 := ⟨_, rfl⟩
  have T3 := Lib.hid (show Tch 16 16 col col w w3 by rw [← hw3]; exact T2.out.alloc _)
  have H3 := Lib.hid (h.keep T3.out (by omega) (by omega))
  have X3 := Lib.hid (show Blk w3 w2.heap.size 55 #[.map (some L.bc), .map (some L.bw)] by rw [← hw3]; exact Blk.new w2 55 _)
  have HW3 := Lib.hid hw3
  have HW2 := Lib.hid hw2
  have HN := Lib.hid hn
  have hB3 : B ≤ w3.heap.size := Nat.le_trans hB T3.out.size
  -- what the maps hold
  have LK := Lib.hid (show ∀ j : Nat, j < 2 → ∃ bm v mm, w3.cell? ⟨w2.heap.size, j, none⟩ = some (.map (some bm)) ∧ (Instr.lookup 55 (.map (some bm)) (.int .i64 n) false).run Try.prog w3 = .ok v w3 ∧
      ((j = 0 → mm = S.chg n) ∧ (j = 1 → mm = S.wait n)) ∧ ((v = .slice none 0 0 ∧ mm = none) ∨ ∃ bs, mm = some bs ∧ Dat w3 col B v bs) from fun j hj => by
    have key : ∀ bm (mm : Int → Option Bytes) r, MapB w3 col B r bm S.d.N mm → ∃ v, (Instr.lookup 55 (.map (some bm)) (.int .i64 n) false).run Try.prog w3 = .ok v w3 ∧ ((v = .slice none 0 0 ∧ mm n = none) ∨ ∃ bs, mm n = some bs ∧ Dat w3 col B v bs) := by
      rintro bm mm r ⟨f, hf, hp⟩
      refine ⟨_, look_map hf hkb, ?_⟩
      rcases hp n with ⟨e1, e2⟩ | ⟨v, bs, e1, e2, hd⟩
      · left; rw [e1]; exact ⟨rfl, e2⟩
      · right; rw [e1]; exact ⟨bs, e2, hd⟩
    by_cases e : j = 0
    · subst e
      obtain ⟨v, k1, k2⟩ := key _ _ _ H3.out.chg
      exact ⟨L.bc, v, S.chg n, X3.out.cell 0, k1, ⟨fun _ => rfl, fun h => by omega⟩, k2⟩
    · obtain rfl : j = 1 := by omega
      obtain ⟨v, k1, k2⟩ := key _ _ _ H3.out.wait
      exact ⟨L.bw, v, S.wait n, X3.out.cell 1, k1, ⟨fun h => by omega, fun _ => rfl⟩, k2⟩)
  clear h hn hw3 hw2 hsz H2 X3
  unfold ptr at *
  go_enter Try.func17, Try.ntmps17
  go_wp2_with fail
  refine HH.out.mono ?_
  rintro e w' ⟨rfl, rfl⟩
  clear HH
  go_wp2_with fail
  have hNS := And.intro c2 c3
  clear c2 c3
  refine region_need_at (v := w2) (fun w' => w'.cell? ⟨p, 2, none⟩ = some (.map (some L.bc)) ∧ w'.cell? ⟨p, 3, none⟩ = some (.map (some L.bw))) (fun i => i == 3 || i == 7) HW2.out (by kernel_rfl) ?_
  refine nw_free (i := 10) (v := ?_) rfl (by kernel_rfl) (fun _ _ d _ _ h => by cases d <;> exact h) (by kernel_rfl) ?_ (fun K hK => ?_); rotate_left; (· (intro w'; go_simp; with_reducible rfl)); simp only [Act.put, List.setIfInBounds_toArray, List.set_cons_zero, List.set_cons_succ]; refine hK _ ?_; clear hK K
  refine nw_free (i := 0) (v := ?_) rfl (by kernel_rfl) (fun _ _ d _ _ h => by cases d <;> exact h) (by kernel_rfl) ?_ (fun K hK => ?_); rotate_left; (· (intro w'; go_simp; with_reducible rfl)); simp only [Act.put, List.setIfInBounds_toArray, List.set_cons_zero, List.set_cons_succ]; refine hK _ ?_; clear hK K
  refine nw_free (i := 1) (v := ?_) rfl (by kernel_rfl) (fun _ _ d _ _ h => by cases d <;> exact h) (by kernel_rfl) ?_ (fun K hK => ?_); rotate_left; (· (intro w'; go_simp; with_reducible rfl)); simp only [Act.put, List.setIfInBounds_toArray, List.set_cons_zero, List.set_cons_succ]; refine hK _ ?_; clear hK K
  refine nw_free (i := 2) (v := ?_) rfl (by kernel_rfl) (fun _ _ d _ _ h => by cases d <;> exact h) (by kernel_rfl) ?_ (fun K hK => ?_); rotate_left; (· (intro w'; go_simp; with_reducible rfl)); simp only [Act.put, List.setIfInBounds_toArray, List.set_cons_zero, List.set_cons_succ]; refine hK _ ?_; clear hK K
  refine nw_free (i := 4) (v := ?_) rfl (by kernel_rfl) (fun _ _ d _ _ h => by cases d <;> exact h) (by kernel_rfl) ?_ (fun K hK => ?_); rotate_left; (· (intro w'; go_simp; with_reducible rfl)); simp only [Act.put, List.setIfInBounds_toArray, List.set_cons_zero, List.set_cons_succ]; refine hK _ ?_; clear hK K
  refine nw_free (i := 5) (v := ?_) rfl (by kernel_rfl) (fun _ _ d _ _ h => by cases d <;> exact h) (by kernel_rfl) ?_ (fun K hK => ?_); rotate_left; (· (intro w'; go_simp; with_reducible rfl)); simp only [Act.put, List.setIfInBounds_toArray, List.set_cons_zero, List.set_cons_succ]; refine hK _ ?_; clear hK K
  refine nw_free (i := 6) (v := ?_) rfl (by kernel_rfl) (fun _ _ d _ _ h => by cases d <;> exact h) (by kernel_rfl) ?_ (fun K hK => ?_); rotate_left; (· (intro w'; go_simp; with_reducible rfl)); simp only [Act.put, List.setIfInBounds_toArray, List.set_cons_zero, List.set_cons_succ]; refine hK _ ?_; clear hK K
  refine nw_take (i := 3) (v := ?_) rfl (by kernel_rfl) (by kernel_rfl) (fun _ _ d _ _ h => by cases d <;> exact h) (by exact hNS) (by kernel_rfl) ?_ (fun K hK => ?_); rotate_left; (· (intro w' hSw; (try dsimp only at hSw); go_simp; with_reducible rfl)); simp only [Act.put, List.setIfInBounds_toArray, List.set_cons_zero, List.set_cons_succ]; refine hK _ ?_; clear hK K
  refine nw_take (i := 7) (v := ?_) rfl (by kernel_rfl) (by kernel_rfl) (fun _ _ d _ _ h => by cases d <;> exact h) (by exact hNS) (by kernel_rfl) ?_ (fun K hK => ?_); rotate_left; (· (intro w' hSw; (try dsimp only at hSw); go_simp; with_reducible rfl)); simp only [Act.put, List.setIfInBounds_toArray, List.set_cons_zero, List.set_cons_succ]; refine hK _ ?_; clear hK K
  clear hNS
  refine nw_one (i := 8) (E := False) rfl (by kernel_rfl) (fun K hK => ?_) (by kernel_rfl)
  go_simp
  rw [HW3.out]
  refine hK.out _ _ ((fun h => absurd h (by decide))) ?_
  clear hK K
  try simp only [Act.put, List.setIfInBounds_toArray, List.set_cons_zero, List.set_cons_succ]
  refine nw_one (i := 9) (E := False) rfl (by kernel_rfl) (fun K hK => ?_) (by kernel_rfl)
  go_simp
  refine hK.out _ _ ((fun h => absurd h (by decide))) ?_
  clear hK K
  try simp only [Act.put, List.setIfInBounds_toArray, List.set_cons_zero, List.set_cons_succ]
  refine nw_end (by kernel_rfl) ?_
  go_wp2_with fail
  go_loopw [7, 8, 25] (fun _ _ ii wr => ∃ j : Nat, j ≤ 2 ∧ ii = .int .i64 j ∧ (1 ≤ j → S.chg n = none) ∧ (2 ≤ j → S.wait n = none) ∧ wr = w3) (fun _ _ ii _ => 2 - (intOf ii).toNat)
  case atStart => exact ⟨0, by omega, rfl, fun h => by omega, fun h => by omega, rfl⟩
  case round =>
    obtain ⟨j, hj, rfl, ha, hb, rfl⟩ := hrel
    have HA := Lib.hid ha
    have HB := Lib.hid hb
    clear ha hb
    by_cases hlt : j < 2
    · obtain ⟨bm, v, mm, hc, hl, hm, hv⟩ := LK.out j hlt
      have HM := Lib.hid hm
      clear hm
      rcases hv with ⟨rfl, hmm⟩ | ⟨bs, hmm, hd⟩
      · have N1 := Lib.hid (show 1 ≤ j + 1 → S.chg n = none from fun _ => by
          by_cases e : j = 0
          · rw [← HM.out.1 e]; exact hmm
          · exact HA.out (by omega))
        have N2 := Lib.hid (show 2 ≤ j + 1 → S.wait n = none from fun h => by rw [← HM.out.2 (by omega)]; exact hmm)
        clear hmm
        go_wp2_with fail
        go_roundw
        case rel => exact ⟨j + 1, by omega, by go_num, N1.out, N2.out, by first | rfl | trivial⟩
        case measure => simp [intOf]; omega
      · have GS := Lib.hid (show S.get n = some bs from by
          rw [G1.out]
          by_cases e : j = 0
          · rw [← HM.out.1 e, hmm]
          · rw [HA.out (by omega), ← hmm, HM.out.2 (by omega)])
        have R1 := Lib.hid (show S.read n = { S with found := S.found + 1 } by rw [SS.read, GS.out])
        have R2 := Lib.hid (show S.bytes n = bs by rw [SS.bytes, GS.out])
        obtain ⟨h4, t4⟩ := H3.out.found1 few
        have CL := Lib.hid (clone_dat _ col B c p w.heap.size _ v bs ⟨L, h4⟩ (Nat.le_trans T3.out.size t4.size) (hd.keep t4 (by omega)))
        have T4 := Lib.hid ((T3.out.any (lo' := c) (hi' := c + 64) (Nat.le_refl _)).trans (t4.mono (by omega) (by omega)))
        have c7 : wr.cell? ⟨p, 7, none⟩ = some (.int .i64 (S.found : Int)) := H3.out.s.blk.cell 7
        have z7 : wr.frozen? ⟨p, 7, none⟩ = false := H3.out.s.blk.frozen 7
        have w7 : IntKind.i64.wrap ((S.found : Int) + 1) = (S.found : Int) + 1 := by rw [IntKind.wrap_i64]; omega
        obtain ⟨g, cap, rfl, _⟩ := hd.form
        clear hmm hd h4 t4
        go_wp2_with fail
        refine CL.out.mono ?_
        rintro e w5 ⟨v', rfl, t5, s5, r5⟩
        have T5 := Lib.hid (T4.out.trans (t5.any (Nat.le_refl _)))
        have S5 := Lib.hid s5
        have O5 := Lib.hid r5
        clear t5 s5 r5
        go_wp2_with fail
        go_ret2
        rw [E1.out, E2.out, E3.out, R1.out, R2.out]
        exact ⟨_, col, rfl, T5.out, S5.out, O5.out⟩
    · obtain rfl : j = 2 := by omega
      have GS := Lib.hid (show S.get n = none by rw [G1.out, HA.out (by omega), HB.out (by omega)])
      obtain ⟨gs, cap, hv, hof⟩ := of_any wr col B c p S L n H3.out HN.out
      have hi := of_lt (S := S) n H3.out.shn.1
      obtain ⟨i, hie⟩ : ∃ i, S.of n = i := ⟨_, rfl⟩
      have SHI := Lib.hid (show (S.shard (S.of n)) = S.shard i by rw [hie])
      rw [hie] at hof hi
      obtain ⟨x, hx⟩ : ∃ x, L.sh[i]? = some x := ⟨_, List.getElem?_eq_getElem (by rw [H3.out.shl]; exact hi)⟩
      obtain ⟨y, hy⟩ : ∃ y, S.sh[i]? = some y := ⟨_, List.getElem?_eq_getElem hi⟩
      have HY := Lib.hid (show S.shard (S.of n) = y by rw [SHI.out, SS.shard, hy]; rfl)
      obtain ⟨w4, hw4⟩ : ∃ w4, wr.drew = w4 := ⟨_, rfl⟩
      rw [hw4] at hof
      have HOF := Lib.hid hof
      have H4 := Lib.hid (show StoreL w4 col B c p S L by rw [← hw4]; exact H3.out.keep ((Tch.refl 16 16 col wr).drew) (by omega) (by omega))
      have T4 := Lib.hid (show Tch 16 16 col col w w4 by rw [← hw4]; exact T3.out.drew)
      have SH := Lib.hid (H4.out.sh i x y hx hy)
      have hcs := scells_get L.sh i _ hx
      have hs4 := H4.out.shs
      rw [hv] at hs4
      have e0 : w4.cell? ⟨gs, i * 2 + 1, none⟩ = some (.map (some x.2)) := by rw [hs4.own.cellAt _ (by have := H4.out.shl; omega)]; exact hcs.2
      obtain ⟨f, hf, hp⟩ := SH.out.dat.ex
      have lk := look_map hf hkb
      have HD := Lib.hid (dread_any w4 col B (c + 8) L.dp S.d n H4.out.d)
      have c0 : w4.cell? ⟨p, 0, none⟩ = some (ptr L.dp) := H4.out.s.blk.cell 0
      have c7 : w4.cell? ⟨p, 7, none⟩ = some (.int .i64 (S.found : Int)) := H4.out.s.blk.cell 7
      have z7 : w4.frozen? ⟨p, 7, none⟩ = false := H4.out.s.blk.frozen 7
      have c8 : w4.cell? ⟨p, 8, none⟩ = some (.int .i64 (S.asked : Int)) := H4.out.s.blk.cell 8
      have z8 : w4.frozen? ⟨p, 8, none⟩ = false := H4.out.s.blk.frozen 8
      have w7 : IntKind.i64.wrap ((S.found : Int) + 1) = (S.found : Int) + 1 := by rw [IntKind.wrap_i64]; omega
      have w8 : IntKind.i64.wrap ((S.asked : Int) + 1) = (S.asked : Int) + 1 := by rw [IntKind.wrap_i64]; omega
      clear hw4 hof hie hx hy hcs hs4 hf hv H3 T3 LK
      rcases hp n with ⟨e1, e2⟩ | ⟨v, bs, e1, e2, hd⟩
      · rw [e1] at lk
        dsimp only [Option.getD] at lk
        have R1 := Lib.hid (show S.read n = SS.use { S with asked := S.asked + 1 } n (S.d.get n) by rw [SS.read, GS.out, HY.out, e2])
        have R2 := Lib.hid (show S.bytes n = S.d.get n by rw [SS.bytes, GS.out, HY.out, e2])
        obtain ⟨h5, t5⟩ := H4.out.asked1 few
        have H5 := Lib.hid h5
        have T5 := Lib.hid ((T4.out.any (lo' := c) (hi' := c + 64) (Nat.le_refl _)).trans (t5.mono (by omega) (by omega)))
        have GL := Lib.hid (DS.get_len h5.d n)
        have RB := Lib.hid (show S.d.readB n = S.d.get n by rw [DS.readB, show S.d.has n = true from HN.out]; rfl)
        have RE := Lib.hid (show S.d.readE n = 0 by rw [DS.readE, show S.d.has n = true from HN.out]; rfl)
        have HD := Lib.hid (dread_any _ col B (c + 8) L.dp S.d n h5.d)
        rw [RB.out, RE.out] at HD
        clear h5 t5 e1 e2 hp
        unfold ptr at *
        go_wp2_with fail
        refine HOF.out.mono ?_
        rintro e w' ⟨rfl, hw'⟩
        rw [hw']
        clear hw' w'
        go_wp2_with fail
        refine HD.out.mono ?_
        rintro e w6 ⟨v6, rfl, b6, o6⟩
        have hgl := GL.out
        rw [hgl] at o6
        obtain ⟨g6, cap6, cur6, rfl, hg6, _⟩ := own_form o6 (by omega)
        obtain ⟨col6, hcol6⟩ : ∃ col6, col6 = paint col g6 1 := ⟨_, rfl⟩
        have t6 : Tch 16 16 col col6 (w4.setCell ⟨p, 8, none⟩ (.int .i64 ((S.asked : Int) + 1))) w6 := by rw [hcol6]; exact (Tch.of_below b6).paint hg6 (o6.lt _ rfl).2 (by omega)
        have H6 := Lib.hid (H5.out.keep t6 (by omega) (by omega))
        have T6 := Lib.hid (T5.out.trans (t6.any (Nat.le_refl _)))
        have D6 : Dat w6 col6 B (.slice (some ⟨g6, 0, none⟩) 256 cap6) (S.d.get n) := Dat.of o6 (Nat.le_trans hB T5.out.size) (fun g e => by injection e with e; subst e; rw [hcol6, paint_self])
        have D6h := Lib.hid D6
        have HU := Lib.hid (use_any w6 col6 B c p _ L n _ (S.d.get n) H6.out HN.out D6 (Nat.le_trans hB T6.out.size))
        clear o6 b6 t6 hcol6 D6 hgl
        unfold ptr at *
        go_wp2_with fail
        refine HU.out.mono ?_
        rintro e w7 ⟨rfl, col7, t7, s7⟩
        have D7 := D6h.out.keep t7 (by omega)
        have T7 := Lib.hid (T6.out.trans (t7.mono (by omega) (by omega)))
        have CL := Lib.hid (clone_dat w7 col7 B c p w.heap.size _ _ (S.d.get n) s7 T7.out.size D7)
        clear t7 s7 D7
        go_wp2_with fail
        refine CL.out.mono ?_
        rintro e w8 ⟨v', rfl, t8, s8, r8⟩
        have T8 := Lib.hid (T7.out.trans (t8.any (Nat.le_refl _)))
        have S8 := Lib.hid s8
        have O8 := Lib.hid r8
        clear t8 s8 r8
        go_wp2_with fail
        go_ret2
        rw [E1.out, E2.out, E3.out, R1.out, R2.out]
        exact ⟨_, col7, rfl, T8.out, S8.out, O8.out⟩
      · rw [e1] at lk
        dsimp only [Option.getD] at lk
        have R1 := Lib.hid (show S.read n = SS.use { S with found := S.found + 1 } n bs by rw [SS.read, GS.out, HY.out, e2])
        have R2 := Lib.hid (show S.bytes n = bs by rw [SS.bytes, GS.out, HY.out, e2])
        obtain ⟨h5, t5⟩ := H4.out.found1 few
        have T5 := Lib.hid ((T4.out.any (lo' := c) (hi' := c + 64) (Nat.le_refl _)).trans (t5.mono (by omega) (by omega)))
        have D5 := hd.keep t5 (by omega)
        have D5h := Lib.hid D5
        have HU := Lib.hid (use_any _ col B c p _ L n v bs h5 HN.out D5 (Nat.le_trans hB T5.out.size))
        obtain ⟨g, cap, rfl, _⟩ := hd.form
        clear h5 t5 e1 e2 hp hd D5 HD c8 z8 c0
        unfold ptr at *
        go_wp2_with fail
        refine HOF.out.mono ?_
        rintro e w' ⟨rfl, hw'⟩
        rw [hw']
        clear hw' w'
        go_wp2_with fail
        refine HU.out.mono ?_
        rintro e w7 ⟨rfl, col7, t7, s7⟩
        have D7 := D5h.out.keep t7 (by omega)
        have T7 := Lib.hid (T5.out.trans (t7.mono (by omega) (by omega)))
        have CL := Lib.hid (clone_dat w7 col7 B c p w.heap.size _ _ bs s7 T7.out.size D7)
        clear t7 s7 D7
        go_wp2_with fail
        refine CL.out.mono ?_
        rintro e w8 ⟨v', rfl, t8, s8, r8⟩
        have T8 := Lib.hid (T7.out.trans (t8.any (Nat.le_refl _)))
        have S8 := Lib.hid s8
        have O8 := Lib.hid r8
        clear t8 s8 r8
        go_wp2_with fail
        go_ret2
        rw [E1.out, E2.out, E3.out, R1.out, R2.out]
        exact ⟨_, col7, rfl, T8.out, S8.out, O8.out⟩
end Go.Proofs.Ytomoliickggghaa.Mem

namespace Go.Proofs.Ytomoliickggghaa.Mem
open Go.RowKit Go.Proofs.Ytomoliickggghaa Go.Proofs.Ytomoliickggghaa.Wire
set_option maxHeartbeats 8000000
set_option maxRecDepth 100000
set_option linter.unusedVariables false
set_option linter.unusedSimpArgs false

theorem step_map_put (w : World) {ops : Array Oper} {o : Oper} {a : Act} {K : Act → World → Prop} {Q : Exit → Act → World → Prop} {E' : Prop} (hg : o.guard = none) (m x v : Operand) (t : TypeId)
    (hop : o.op = Op.mapUpdate t m x v) (e : TypeId) (ht : Try.prog.underlying t = some (.map 3 e)) (col : Col) (B r b N : Nat) (f : Int → Option Value)
    (hm : a.eval m = .map (some b)) (h : MapR w col B r b N f) (k : Int) (hx : a.eval x = .int .i64 k) (hk : 0 ≤ k ∧ k < (N : Int)) (val : Value) (hv : a.eval v = val)
    (hK : ∀ w', MapR w' col B r b N (fun j => if j = k then some val else f j) → Tch r (r + 1) col col w w' → K (a.put o.dst undef) w') :
    if Region.wanted o (yielded ops a.tmps) = true then Oper.wp Try.prog o a w K Q else E' := by
  have hw : Region.wanted o (yielded ops a.tmps) = true := by simp [Region.wanted, hg]
  rw [if_pos hw]
  obtain ⟨w', hrun, r1, r2⟩ := h.update ht hk val
  unfold Oper.wp
  simp [execOp, hop, hm, hx, hv, hrun, Result.andThen]
  exact hK w' r1 (Tch.of_grown r2 (fun g e _ => by injection e with e; subst e; rw [h.c]; omega))
/-- At a step: app_row. -/
theorem step_app_row {P : Program} (w : World) {ops : Array Oper} {o : Oper} {a : Act} {K : Act → World → Prop} {Q : Exit → Act → World → Prop} {E' : Prop} (T E : TypeId) (z : Value) (size bytes : Nat)
    (ht : P.underlying T = some (.slice E)) (hinf : (P.info? E).map (fun i => (i.zero, i.size, i.bytes)) = some (some z, size, bytes)) (hzs : z.cells.size = size) (hsz : 0 < size)
    (hgd : o.guard = none) (s x : Operand) (ho : o.op = .call { callee := .builtin .append, args := #[s, x], argTypes := #[T, T] })
    (col : Col) (B r lo hi : Nat) (v : Value) (n : Nat) (xs : List Value) (hs : a.eval s = v) (hrow : Row w col B r E size v n xs) (hr : lo ≤ r ∧ r < hi)
    (ad : Addr) (m c : Nat) (news : List Value) (hx : a.eval x = .slice (some ad) m c) (hb : RowAt w (some ad) (m * size) news) (h1 : ∀ u ∈ news, u.oneCell' = true)
    (h63 : n + m ≤ maxLen) (hbd : (n + m) * bytes ≤ 140737488355328) (hbase : B ≤ w.heap.size)
    (h : ∀ v' w' col', Row w' col' B r E size v' (n + m) (xs ++ news) → Tch lo hi col col' w w' → K (a.put o.dst v') w') :
    if Region.wanted o (yielded ops a.tmps) = true then Oper.wp P o a w K Q else E' := by
  have hw : Region.wanted o (yielded ops a.tmps) = true := by simp [Region.wanted, hgd]
  rw [if_pos hw]
  obtain ⟨i0, hi0, hz0, hz1, hz2⟩ := info_parts hinf
  have hgr : ∀ g, v.ownBlock = some g → g < w.heap.size → lo ≤ col g ∧ col g < hi := fun g e _ => by rw [hrow.c g e]; exact hr
  have hn : ∀ j u, news[j]? = some u → w.cell? (ad.add j) = some u := fun j u hu => by
    obtain ⟨a', e', hc⟩ := hb.2 (by have := (List.getElem?_eq_some_iff.1 hu).1; have := hb.len; omega)
    obtain rfl : ad = a' := by simpa using e'
    exact hc j u hu
  obtain ⟨v', w', hr', h2, h3, h4⟩ := run_append_where P w B T o.type E i0 z size bytes ht hi0 hz0 hz1 hz2 hzs hsz v n xs hrow.own ad m c news hb.len hn h1 h63 hbd hbase
  unfold Oper.wp execOp
  simp only [ho, resolve, invoke, builtin, Sem.run_bind, Sem.run_pure, Result.andThen_ok, List.map_toArray, List.map_cons, List.map_nil, hs, hx, hr']
  rcases h4 with h4 | h4
  · exact h v' w' col ⟨h2, fun g e => hrow.c g (by rw [← h4]; exact e)⟩ (Tch.of_grown h3 hgr)
  · refine h v' w' (paint col w.heap.size r) ⟨h2, fun g e => ?_⟩ ((Tch.of_grown h3 hgr).paint (Nat.le_refl _) (h2.lt _ h4).2 (.inr hr))
    rw [h4] at e
    injection e with e
    rw [← e, paint_self]
section
variable {w w' : World} {col col' : Col} {B c p : Nat} {S : SS} {L : SL}
theorem StoreL.uslen (h : StoreL w col B c p S L) : L.us.length = S.undo.length := by simpa using h.undo.own.1
theorem StoreL.push (h : StoreL w col B c p S L) (ht : Tch (c + 4) (c + 5) col col' w w') {v' uv : Value} {u : Und} (hr : Row w' col' B (c + 4) 1 1 v' (S.undo.length + 1) (L.us ++ [uv])) (hu : UndAt w' col' B c p L.bh S.d.N u uv) (few : S.undo.length + 1 + S.found + S.asked ≤ 1000000000) :
    StoreL (w'.setCell ⟨p, 5, none⟩ v') col' B c p { S with undo := S.undo ++ [u] } { L with vu := v', us := L.us ++ [uv] } ∧ Tch c (c + 1) col' col' w' (w'.setCell ⟨p, 5, none⟩ v') := by
  have hn := h.shn
  have hcl := h.lo
  have hl := h.uslen
  have hs := h.s.keep ht (by omega)
  have ht2 : Tch c (c + 1) col' col' w' (w'.setCell ⟨p, 5, none⟩ v') := (Tch.refl _ _ _ _).setCell (p := ⟨p, 5, none⟩) (by rw [hs.c]; omega) _
  have t := ht.mono (lo' := c + 4) (hi' := c + 5) (by omega) (by omega)
  refine ⟨⟨hs.set 5 v', (h.chg.keep t (by omega) (by omega)).keep ht2 (by omega) (by omega), (h.wait.keep t (by omega) (by omega)).keep ht2 (by omega) (by omega), (h.held.keep t (by omega)).keep ht2 (by omega), ?_, fun i u' v h1 h2 => ?_, (h.shs.keep t (by omega)).keep ht2 (by omega), h.shl, fun i x y h1 h2 => ?_,
    (h.d.keep t (by omega) (by omega)).keep ht2 (by omega) (by omega), old_keep (old_keep h.old h.tidy h.lo t (by omega)) (t.tidy h.tidy) h.lo ht2 (by omega), h.lo, h.shn, h.rm, by simp; omega, ht2.tidy (t.tidy h.tidy)⟩, ht2⟩
  · have := hr.keep ht2 (by omega)
    simpa using this
  · have hi := (List.getElem?_eq_some_iff.1 h1).1
    simp only [List.length_append, List.length_singleton] at hi
    rcases Nat.lt_or_ge i S.undo.length with hlt | hge
    · rw [List.getElem?_append_left hlt] at h1
      rw [List.getElem?_append_left (by omega)] at h2
      exact ((h.us i u' v h1 h2).keep t (by omega) (by omega)).keep ht2 (by omega) (by omega)
    · obtain rfl : i = S.undo.length := by omega
      rw [List.getElem?_append_right (by omega), Nat.sub_self] at h1
      rw [List.getElem?_append_right (by omega), hl, Nat.sub_self] at h2
      injection h1 with h1
      injection h2 with h2
      subst h1 h2
      exact hu.keep ht2 (by omega) (by omega)
  · have hi := (List.getElem?_eq_some_iff.1 h2).1
    exact ((h.sh i x y h1 h2).keep t (by omega) (by omega) (by omega)).keep ht2 (by omega) (by omega) (by omega)
theorem StoreL.chgSet (h : StoreL w col B c p S L) (ht : Tch (c + 1) (c + 2) col col w w') {g : Int → Option Bytes} (hm : MapB w' col B (c + 1) L.bc S.d.N g) : StoreL w' col B c p { S with chg := g } L := by
  have hn := h.shn
  have hcl := h.lo
  refine ⟨h.s.keep ht (by omega), hm, h.wait.keep ht (by omega) (by omega), h.held.keep ht (by omega), h.undo.keep ht (by omega), fun i u v h1 h2 => (h.us i u v h1 h2).keep ht (by omega) (by omega), h.shs.keep ht (by omega), h.shl, fun i x y h1 h2 => ?_,
    h.d.keep ht (by omega) (by omega), old_keep h.old h.tidy h.lo ht (by omega), h.lo, h.shn, h.rm, h.few, ht.tidy h.tidy⟩
  have hi := (List.getElem?_eq_some_iff.1 h2).1
  exact (h.sh i x y h1 h2).keep ht (by omega) (by omega) (by omega)
end
theorem infoFunc : (Try.prog.info? 1).map (fun i => (i.zero, i.size, i.bytes)) = some (some (.nilFunc), 1, 8) := by kernel_rfl
theorem OptDat.form {w : World} {col : Col} {B : Nat} {v : Value} {o : Option Bytes} (h : OptDat w col B v o) : ∃ A n c, v = .slice A n c := by
  cases o with
  | none => exact ⟨none, 0, 0, h⟩
  | some bs => obtain ⟨g, cap, rfl, _⟩ := Dat.form h; exact ⟨_, _, _, rfl⟩
/-- A write's change. -/
def SS.write (S : SS) (n : Int) (bs : Bytes) : SS := SS.setSh { S with undo := S.undo ++ [.w n (S.chg n)], chg := fun j => if j = n then some bs else S.chg j } (S.of n) ((S.shard (S.of n)).wo n)
/-- Two boxes, painted. -/
theorem two_boxes (w : World) (col : Col) (B p : Nat) (n : Int) (hB : B ≤ w.heap.size) : ∃ w1 col1, (w.alloc (.cells #[ptr p] 28)).alloc (.cells #[.int .i64 n] 3) = w1 ∧ Tch 16 16 col col1 w w1 ∧ Bk w1 col1 B 1 w.heap.size 28 #[ptr p] ∧ Bk w1 col1 B 1 (w.heap.size + 1) 3 #[.int .i64 n] := by
  have e1 : (w.alloc (.cells #[ptr p] 28)).heap.size = w.heap.size + 1 := by simp
  have e2 : ((w.alloc (.cells #[ptr p] 28)).alloc (.cells #[.int .i64 n] 3)).heap.size = w.heap.size + 2 := by simp
  have b1 := Blk.new w 28 #[ptr p]
  have b2 := Blk.new (w.alloc (.cells #[ptr p] 28)) 3 #[.int .i64 n]
  rw [e1] at b2
  refine ⟨_, paint (paint col w.heap.size 1) (w.heap.size + 1) 1, rfl, ((((Tch.refl 16 16 col w).alloc _).alloc _).paint (Nat.le_refl _) (by omega) (by omega)).paint (by omega) (by omega) (by omega), ⟨?_, by rw [paint_other (by omega), paint_self], hB⟩, ⟨b2, paint_self _ _ _, by omega⟩⟩
  exact (Tch.refl 16 16 (fun _ => 0) _).alloc _ |>.keep b1 (by omega) |>.1
def SWrote (w : World) (col : Col) (B c p : Nat) (S : SS) (er : Int) (e : Ending) (w' : World) : Prop := ∃ col', e = .returned (.int .i64 er) ∧ Tch c (c + 64) col col' w w' ∧ StoreAt w' col' B c p S
theorem swrite_has (w : World) (col : Col) (B c p : Nat) (S : SS) (n : Int) (v : Value) (h : StoreAt w col B c p S) (hn : S.has n = false) (hB : B ≤ w.heap.size) :
    Calls Try.prog 12 #[ptr p, .int .i64 n, v] w fun e w' => SWrote w col B c p S 5 e w' := by
  obtain ⟨L, h⟩ := h
  have hcl := h.lo
  obtain ⟨w1, col1, hw1, t1, k3, k4⟩ := two_boxes w col B p n hB
  have H1 := Lib.hid (h.keep t1 (by omega) (by omega))
  have HH := Lib.hid (shas_any w1 col1 B c p S L n H1.out)
  rw [hn] at HH
  have T1 := Lib.hid t1
  have c3 : w1.cell? ⟨w.heap.size, 0, none⟩ = some (ptr p) := k3.blk.cell 0
  have c4 : w1.cell? ⟨w.heap.size + 1, 0, none⟩ = some (.int .i64 n) := k4.blk.cell 0
  have HW1 := Lib.hid hw1
  clear h hn t1 k3 k4 hw1
  unfold ptr at *
  go_enter Try.func12, Try.ntmps12
  go_wp2_with (rw [HW1.out])
  refine HH.out.mono ?_
  rintro e w' ⟨rfl, rfl⟩
  go_wp2_with fail
  go_ret
  exact ⟨col1, rfl, T1.out.any (Nat.le_refl _), L, H1.out⟩
theorem swrite_len (w : World) (col : Col) (B c p : Nat) (S : SS) (n : Int) (A : Option Addr) (len cap : Nat) (h : StoreAt w col B c p S) (hn : S.has n = true) (hB : B ≤ w.heap.size) (hl : len ≠ 256) :
    Calls Try.prog 12 #[ptr p, .int .i64 n, .slice A len cap] w fun e w' => SWrote w col B c p S 22 e w' := by
  obtain ⟨L, h⟩ := h
  have hcl := h.lo
  obtain ⟨w1, col1, hw1, t1, k3, k4⟩ := two_boxes w col B p n hB
  have H1 := Lib.hid (h.keep t1 (by omega) (by omega))
  have HH := Lib.hid (shas_any w1 col1 B c p S L n H1.out)
  rw [hn] at HH
  have T1 := Lib.hid t1
  have c3 : w1.cell? ⟨w.heap.size, 0, none⟩ = some (ptr p) := k3.blk.cell 0
  have c4 : w1.cell? ⟨w.heap.size + 1, 0, none⟩ = some (.int .i64 n) := k4.blk.cell 0
  have HW1 := Lib.hid hw1
  have hne : ((len : Int) != 256) = true := by simp; omega
  clear h hn t1 k3 k4 hw1 hl
  unfold ptr at *
  go_enter Try.func12, Try.ntmps12
  go_wp2_with (rw [HW1.out])
  refine HH.out.mono ?_
  rintro e w' ⟨rfl, rfl⟩
  go_wp2_with fail
  go_ret
  exact ⟨col1, rfl, T1.out.any (Nat.le_refl _), L, H1.out⟩
theorem swrite_any (w : World) (col : Col) (B c p : Nat) (S : SS) (n : Int) (A : Option Addr) (cap : Nat) (bs : Bytes) (h : StoreAt w col B c p S) (hn : S.has n = true) (hB : B ≤ w.heap.size) (few : S.undo.length + S.found + S.asked + 1 ≤ 1000000000)
    (hA : ∃ a, A = some a) (hb : ∀ w' col', Tch c (c + 64) col col' w w' → BytesAt w' A 256 bs) :
    Calls Try.prog 12 #[ptr p, .int .i64 n, .slice A 256 cap] w fun e w' => SWrote w col B c p (S.write n bs) 0 e w' := by
  obtain ⟨L, h⟩ := h
  obtain ⟨a, rfl⟩ := hA
  have hcl := h.lo
  have hN := h.d.n
  have hn2 : 0 ≤ n ∧ n < (S.d.N : Int) := of_decide_eq_true hn
  have hkb : KB n := ⟨by omega, by omega⟩
  have HN := Lib.hid hn
  have HB := Lib.hid hb
  obtain ⟨w1, col1, hw1, t1, k3, k4⟩ := two_boxes w col B p n hB
  have h1 := h.keep t1 (by omega) (by omega)
  have HH := Lib.hid (shas_any w1 col1 B c p S L n h1)
  rw [hn] at HH
  have c3 : w1.cell? ⟨w.heap.size, 0, none⟩ = some (ptr p) := k3.blk.cell 0
  have c4 : w1.cell? ⟨w.heap.size + 1, 0, none⟩ = some (.int .i64 n) := k4.blk.cell 0
  have HW1 := Lib.hid hw1
  -- region 5: what was changed
  obtain ⟨w2, hw2⟩ : ∃ w2, w1.drew = w2 := ⟨_, rfl⟩
  have t2 : Tch 16 16 col1 col1 w1 w2 := by rw [← hw2]; exact (Tch.refl _ _ _ _).drew
  have h2 := h1.keep t2 (by omega) (by omega)
  obtain ⟨f, hf, hp⟩ := h2.chg.ex
  have lk := look_map hf hkb
  obtain ⟨old, hold⟩ : ∃ old, (f n).getD (.slice none 0 0) = old := ⟨_, rfl⟩
  rw [hold] at lk
  have OD := Lib.hid (show OptDat w2 col1 B old (S.chg n) by
    rcases hp n with ⟨e1, e2⟩ | ⟨v, bs, e1, e2, hd⟩
    · rw [e2, ← hold, e1]; rfl
    · rw [e2, ← hold, e1]; exact hd)
  obtain ⟨oA, on, oc, hoe⟩ := OptDat.form OD.out
  rw [hoe] at hold lk OD
  have a0 : w2.cell? ⟨w.heap.size, 0, none⟩ = some (ptr p) := (k3.keep t2 (by omega)).blk.cell 0
  have a1 : w2.cell? ⟨w.heap.size + 1, 0, none⟩ = some (.int .i64 n) := (k4.keep t2 (by omega)).blk.cell 0
  have a2 : w2.cell? ⟨p, 2, none⟩ = some (.map (some L.bc)) := h2.s.blk.cell 2
  -- the box of what was
  obtain ⟨w3, hw3⟩ : ∃ w3, w2.alloc (.cells #[.slice none 0 0] 34) = w3 := ⟨_, rfl⟩
  have t3 : Tch 16 16 col1 col1 w2 w3 := by rw [← hw3]; exact (Tch.refl _ _ _ _).alloc _
  have z7 : w3.frozen? ⟨w2.heap.size, 0, none⟩ = false := by rw [← hw3]; exact (Blk.new w2 34 #[.slice none 0 0]).frozen 0
  have d7 : w3.cell? ⟨w2.heap.size, 0, none⟩ = some (.slice none 0 0) := by rw [← hw3]; exact (Blk.new w2 34 #[.slice none 0 0]).cell 0
  have lk3 : (Instr.lookup 55 (.map (some L.bc)) (.int .i64 n) false).run Try.prog w3 = .ok (.slice oA on oc) w3 := by
    have := look_map (hf.keep t3 (by omega)) hkb
    rw [hold] at this; exact this
  have b0 : w3.cell? ⟨w.heap.size, 0, none⟩ = some (ptr p) := ((k3.keep t2 (by omega)).keep t3 (by omega)).blk.cell 0
  have b1 : w3.cell? ⟨w.heap.size + 1, 0, none⟩ = some (.int .i64 n) := ((k4.keep t2 (by omega)).keep t3 (by omega)).blk.cell 0
  have b2 : w3.cell? ⟨p, 2, none⟩ = some (.map (some L.bc)) := (h2.keep t3 (by omega) (by omega)).s.blk.cell 2
  -- filled, painted, drawn
  obtain ⟨col5, hcol5⟩ : ∃ col5, col5 = paint col1 w2.heap.size 1 := ⟨_, rfl⟩
  obtain ⟨w5, hw5⟩ : ∃ w5, (w3.setCell ⟨w2.heap.size, 0, none⟩ (.slice oA on oc)).drew = w5 := ⟨_, rfl⟩
  have t5 : Tch 16 16 col1 col5 w2 w5 := by
    rw [← hw5, ← hw3, hcol5]
    have hb5 := (((Below.refl w2.heap.size w2).alloc (Nat.le_refl _) (.cells #[.slice none 0 0] 34)).setCell (p := ⟨w2.heap.size, 0, none⟩) (Nat.le_refl _) (.slice oA on oc))
    exact (Tch.of_below hb5).paint (Nat.le_refl _) (by simp [World.setCell]) (by omega) |>.drew
  have k7 : Bk w5 col5 B 1 w2.heap.size 34 #[.slice oA on oc] := ⟨by rw [← hw5, ← hw3]; exact (Blk.new w2 34 #[.slice none 0 0]).set_ 0 (.slice oA on oc), by rw [hcol5, paint_self], Nat.le_trans hB (Nat.le_trans t1.size t2.size)⟩
  have K7 := Lib.hid k7
  have K3 := Lib.hid ((k3.keep t2 (by omega)).keep t5 (by omega))
  have K4 := Lib.hid ((k4.keep t2 (by omega)).keep t5 (by omega))
  have H5 := Lib.hid (h2.keep t5 (by omega) (by omega))
  have T5 := Lib.hid ((t1.trans t2).trans t5)
  have OD5 := Lib.hid (OD.out.keep t5 (by omega))
  have HW5 := Lib.hid hw5
  have hB5 : B ≤ w5.heap.size := Nat.le_trans hB T5.out.size
  -- the closure's row
  obtain ⟨fv, hfv⟩ : ∃ fv, fv = Value.func (.func 39) #[] #[ptr w2.heap.size, ptr w.heap.size, ptr (w.heap.size + 1)] := ⟨_, rfl⟩
  obtain ⟨w6, hw6⟩ : ∃ w6, w5.alloc (.cells #[fv] 1) = w6 := ⟨_, rfl⟩
  have t6 : Tch 16 16 col5 col5 w5 w6 := by rw [← hw6]; exact (Tch.refl _ _ _ _).alloc _
  have X6 := Lib.hid (show RowAt w6 (some ⟨w5.heap.size, 0, none⟩) (1 * 1) [fv] by rw [← hw6]; exact lit_rowN w5 1 [fv] (1 * 1) w5.heap.size rfl rfl)
  have H6 := Lib.hid (H5.out.keep t6 (by omega) (by omega))
  have K37 := Lib.hid (K3.out.keep t6 (by omega))
  have T6 := Lib.hid (T5.out.trans t6)
  have hB6 : B ≤ w6.heap.size := Nat.le_trans hB T6.out.size
  have UA := Lib.hid (show UndAt w6 col5 B c p L.bh S.d.N (.w n (S.chg n)) fv from ⟨_, _, _, _, hfv, K7.out.keep t6 (by omega), OD5.out.keep t6 (by omega), K37.out, K4.out.keep t6 (by omega), hn2⟩)
  have HW6 := Lib.hid hw6
  have HFV := Lib.hid hfv
  have T65 := Lib.hid t6
  have hNS5 : w5.cell? ⟨w.heap.size, 0, none⟩ = some (ptr p) ∧ w5.cell? ⟨p, 5, none⟩ = some L.vu := ⟨K3.out.blk.cell 0, H5.out.s.blk.cell 5⟩
  have N5 := Lib.hid hNS5
  have hNS6 : w6.cell? ⟨w.heap.size, 0, none⟩ = some (ptr p) ∧ w6.cell? ⟨p, 5, none⟩ = some L.vu := ⟨K37.out.blk.cell 0, H6.out.s.blk.cell 5⟩
  have N6 := Lib.hid hNS6
  have hfew := few
  clear hNS5 hNS6 hfv hw6 t6 k7 hw5 t5 hcol5
  have HW2 := Lib.hid hw2
  have HW3 := Lib.hid hw3
  have hNS : (w2.cell? ⟨w.heap.size, 0, none⟩ = some (ptr p) ∧ w2.cell? ⟨w.heap.size + 1, 0, none⟩ = some (.int .i64 n) ∧ w2.cell? ⟨p, 2, none⟩ = some (.map (some L.bc)) ∧ (Instr.lookup 55 (.map (some L.bc)) (.int .i64 n) false).run Try.prog w2 = .ok (.slice oA on oc) w2) := ⟨a0, a1, a2, lk⟩
  have N3 := Lib.hid (show (w3.cell? ⟨w.heap.size, 0, none⟩ = some (ptr p) ∧ w3.cell? ⟨w.heap.size + 1, 0, none⟩ = some (.int .i64 n) ∧ w3.cell? ⟨p, 2, none⟩ = some (.map (some L.bc)) ∧ (Instr.lookup 55 (.map (some L.bc)) (.int .i64 n) false).run Try.prog w3 = .ok (.slice oA on oc) w3) from ⟨b0, b1, b2, lk3⟩)
  clear h hn t1 k3 k4 hw1 h1 hw2 t2 h2 hf hp OD hw3 t3 hb a0 a1 a2 lk b0 b1 b2 lk3 hold hoe old
  have HNS := Lib.hid hNS
  clear hNS
  unfold ptr at *
  go_enter Try.func12, Try.ntmps12
  go_wp2_with (rw [HW1.out])
  refine HH.out.mono ?_
  rintro e w' ⟨rfl, rfl⟩
  go_wp2_with fail
  have hNS := HNS.out
  refine region_need_at (v := w2) (fun w' => w'.cell? ⟨w.heap.size, 0, none⟩ = some (.pointer (some ⟨p, 0, none⟩)) ∧ w'.cell? ⟨w.heap.size + 1, 0, none⟩ = some (.int .i64 n) ∧ w'.cell? ⟨p, 2, none⟩ = some (.map (some L.bc)) ∧ (Instr.lookup 55 (.map (some L.bc)) (.int .i64 n) false).run Try.prog w' = .ok (.slice oA on oc) w') (fun i => i != 7) HW2.out (by kernel_rfl) ?_
  refine nw_take (i := 0) (v := ?_) rfl (by kernel_rfl) (by kernel_rfl) (fun _ _ d _ _ h => by cases d <;> exact h) (by exact hNS) (by kernel_rfl) ?_ (fun K hK => ?_); rotate_left; (· (intro w' hSw; (try dsimp only at hSw); go_simp; with_reducible rfl)); simp only [Act.put, List.setIfInBounds_toArray, List.set_cons_zero, List.set_cons_succ]; refine hK _ ?_; clear hK K
  refine nw_take (i := 1) (v := ?_) rfl (by kernel_rfl) (by kernel_rfl) (fun _ _ d _ _ h => by cases d <;> exact h) (by exact hNS) (by kernel_rfl) ?_ (fun K hK => ?_); rotate_left; (· (intro w' hSw; (try dsimp only at hSw); go_simp; with_reducible rfl)); simp only [Act.put, List.setIfInBounds_toArray, List.set_cons_zero, List.set_cons_succ]; refine hK _ ?_; clear hK K
  refine nw_take (i := 2) (v := ?_) rfl (by kernel_rfl) (by kernel_rfl) (fun _ _ d _ _ h => by cases d <;> exact h) (by exact hNS) (by kernel_rfl) ?_ (fun K hK => ?_); rotate_left; (· (intro w' hSw; (try dsimp only at hSw); go_simp; with_reducible rfl)); simp only [Act.put, List.setIfInBounds_toArray, List.set_cons_zero, List.set_cons_succ]; refine hK _ ?_; clear hK K
  refine nw_take (i := 3) (v := ?_) rfl (by kernel_rfl) (by kernel_rfl) (fun _ _ d _ _ h => by cases d <;> exact h) (by exact hNS) (by kernel_rfl) ?_ (fun K hK => ?_); rotate_left; (· (intro w' hSw; (try dsimp only at hSw); go_simp; with_reducible rfl)); simp only [Act.put, List.setIfInBounds_toArray, List.set_cons_zero, List.set_cons_succ]; refine hK _ ?_; clear hK K
  refine nw_take (i := 4) (v := ?_) rfl (by kernel_rfl) (by kernel_rfl) (fun _ _ d _ _ h => by cases d <;> exact h) (by exact hNS) (by kernel_rfl) ?_ (fun K hK => ?_); rotate_left; (· (intro w' hSw; (try dsimp only at hSw); go_simp; with_reducible rfl)); simp only [Act.put, List.setIfInBounds_toArray, List.set_cons_zero, List.set_cons_succ]; refine hK _ ?_; clear hK K
  refine nw_take (i := 5) (v := ?_) rfl (by kernel_rfl) (by kernel_rfl) (fun _ _ d _ _ h => by cases d <;> exact h) (by exact hNS) (by kernel_rfl) ?_ (fun K hK => ?_); rotate_left; (· (intro w' hSw; (try dsimp only at hSw); go_simp; with_reducible rfl)); simp only [Act.put, List.setIfInBounds_toArray, List.set_cons_zero, List.set_cons_succ]; refine hK _ ?_; clear hK K
  clear hNS
  refine nw_one (i := 6) (E := False) rfl (by kernel_rfl) (fun K hK => ?_) (by kernel_rfl)
  go_simp
  rw [HW3.out]
  refine hK.out _ _ ((fun _ => N3.out)) ?_
  clear hK K
  try simp only [Act.put, List.setIfInBounds_toArray, List.set_cons_zero, List.set_cons_succ]
  refine nw_one (i := 7) (E := False) rfl (by kernel_rfl) (fun K hK => ?_) (by kernel_rfl)
  go_simp
  refine hK.out _ _ ((fun h => absurd h (by decide))) ?_
  clear hK K
  try simp only [Act.put, List.setIfInBounds_toArray, List.set_cons_zero, List.set_cons_succ]
  refine nw_end (by kernel_rfl) ?_
  clear z7 d7 HNS N3 HW3 HH
  go_wp2_with fail
  have hNS := N5.out
  refine region_need_at (v := w5) (fun w' => w'.cell? ⟨w.heap.size, 0, none⟩ = some (.pointer (some ⟨p, 0, none⟩)) ∧ w'.cell? ⟨p, 5, none⟩ = some L.vu) (fun i => i != 10) HW5.out (by kernel_rfl) ?_
  refine nw_take (i := 0) (v := ?_) rfl (by kernel_rfl) (by kernel_rfl) (fun _ _ d _ _ h => by cases d <;> exact h) (by exact hNS) (by kernel_rfl) ?_ (fun K hK => ?_); rotate_left; (· (intro w' hSw; (try dsimp only at hSw); go_simp; with_reducible rfl)); simp only [Act.put, List.setIfInBounds_toArray, List.set_cons_zero, List.set_cons_succ]; refine hK _ ?_; clear hK K
  refine nw_take (i := 1) (v := ?_) rfl (by kernel_rfl) (by kernel_rfl) (fun _ _ d _ _ h => by cases d <;> exact h) (by exact hNS) (by kernel_rfl) ?_ (fun K hK => ?_); rotate_left; (· (intro w' hSw; (try dsimp only at hSw); go_simp; with_reducible rfl)); simp only [Act.put, List.setIfInBounds_toArray, List.set_cons_zero, List.set_cons_succ]; refine hK _ ?_; clear hK K
  refine nw_take (i := 2) (v := ?_) rfl (by kernel_rfl) (by kernel_rfl) (fun _ _ d _ _ h => by cases d <;> exact h) (by exact hNS) (by kernel_rfl) ?_ (fun K hK => ?_); rotate_left; (· (intro w' hSw; (try dsimp only at hSw); go_simp; with_reducible rfl)); simp only [Act.put, List.setIfInBounds_toArray, List.set_cons_zero, List.set_cons_succ]; refine hK _ ?_; clear hK K
  refine nw_take (i := 3) (v := ?_) rfl (by kernel_rfl) (by kernel_rfl) (fun _ _ d _ _ h => by cases d <;> exact h) (by exact hNS) (by kernel_rfl) ?_ (fun K hK => ?_); rotate_left; (· (intro w' hSw; (try dsimp only at hSw); go_simp; with_reducible rfl)); simp only [Act.put, List.setIfInBounds_toArray, List.set_cons_zero, List.set_cons_succ]; refine hK _ ?_; clear hK K
  refine nw_take (i := 4) (v := ?_) rfl (by kernel_rfl) (by kernel_rfl) (fun _ _ d _ _ h => by cases d <;> exact h) (by exact hNS) (by kernel_rfl) ?_ (fun K hK => ?_); rotate_left; (· (intro w' hSw; (try dsimp only at hSw); go_simp; with_reducible rfl)); simp only [Act.put, List.setIfInBounds_toArray, List.set_cons_zero, List.set_cons_succ]; refine hK _ ?_; clear hK K
  refine nw_take (i := 5) (v := ?_) rfl (by kernel_rfl) (by kernel_rfl) (fun _ _ d _ _ h => by cases d <;> exact h) (by exact hNS) (by kernel_rfl) ?_ (fun K hK => ?_); rotate_left; (· (intro w' hSw; (try dsimp only at hSw); go_simp; with_reducible rfl)); simp only [Act.put, List.setIfInBounds_toArray, List.set_cons_zero, List.set_cons_succ]; refine hK _ ?_; clear hK K
  clear hNS
  refine nw_one (i := 6) (E := False) rfl (by kernel_rfl) (fun K hK => ?_) (by kernel_rfl)
  go_simp
  rw [← HFV.out, HW6.out]
  refine hK.out _ _ ((fun _ => N6.out)) ?_
  clear hK K
  try simp only [Act.put, List.setIfInBounds_toArray, List.set_cons_zero, List.set_cons_succ]
  refine nw_one (i := 7) (E := False) rfl (by kernel_rfl) (fun K hK => ?_) (by kernel_rfl)
  refine step_app_row _ 57 1 .nilFunc 1 8 Try.underlying57 infoFunc rfl (by decide) rfl (.tmp 25) (.tmp 27) rfl col5 B (c + 4) (c + 4) (c + 5) L.vu S.undo.length L.us rfl H6.out.undo ⟨by omega, by omega⟩ ⟨w5.heap.size, 0, none⟩ 1 1 [fv] rfl X6.out (by intro u hu; simp at hu; subst hu; rw [HFV.out]; rfl) (by unfold maxLen; omega) (by omega) hB6 ?_
  intro v7 w7 col7 r7 t7
  obtain ⟨g7, cap7, cur7, rfl, _⟩ := own_form r7.own (by omega)
  obtain ⟨h8, t8⟩ := H6.out.push t7 r7 (UA.out.keep t7 (by omega) (by omega)) (by omega)
  have H8 := Lib.hid h8
  have k3 := K37.out.keep t7 (by omega)
  have k5 := H6.out.s.keep t7 (by omega)
  have n7 : w7.cell? ⟨w.heap.size, 0, none⟩ = some (.pointer (some ⟨p, 0, none⟩)) ∧ w7.cell? ⟨p, 5, none⟩ = some L.vu := ⟨k3.blk.cell 0, k5.blk.cell 5⟩
  have z5 : w7.frozen? ⟨p, 5, none⟩ = false := k5.blk.frozen 5
  have c5 := n7.2
  have T8 := Lib.hid (((T6.out.any (lo' := c) (hi' := c + 64) (Nat.le_refl _)).trans (t7.mono (by omega) (by omega))).trans (t8.mono (by omega) (by omega)))
  have K38 := Lib.hid (k3.keep t8 (by omega))
  have K48 := Lib.hid (((K4.out.keep T65.out (by omega)).keep t7 (by omega)).keep t8 (by omega))
  clear h8 k3 k5 r7 t7 t8
  refine hK.out _ _ ((fun _ => n7)) ?_
  clear hK K
  try simp only [Act.put, List.setIfInBounds_toArray, List.set_cons_zero, List.set_cons_succ]
  have hNS := n7
  clear n7
  refine nw_take (i := 8) (v := ?_) rfl (by kernel_rfl) (by kernel_rfl) (fun _ _ d _ _ h => by cases d <;> exact h) (by exact hNS) (by kernel_rfl) ?_ (fun K hK => ?_); rotate_left; (· (intro w' hSw; (try dsimp only at hSw); go_simp; with_reducible rfl)); simp only [Act.put, List.setIfInBounds_toArray, List.set_cons_zero, List.set_cons_succ]; refine hK _ ?_; clear hK K
  refine nw_take (i := 9) (v := ?_) rfl (by kernel_rfl) (by kernel_rfl) (fun _ _ d _ _ h => by cases d <;> exact h) (by exact hNS) (by kernel_rfl) ?_ (fun K hK => ?_); rotate_left; (· (intro w' hSw; (try dsimp only at hSw); go_simp; with_reducible rfl)); simp only [Act.put, List.setIfInBounds_toArray, List.set_cons_zero, List.set_cons_succ]; refine hK _ ?_; clear hK K
  clear hNS
  refine nw_one (i := 10) (E := False) rfl (by kernel_rfl) (fun K hK => ?_) (by kernel_rfl)
  go_simp
  refine hK.out _ _ ((fun h => absurd h (by decide))) ?_
  clear hK K
  try simp only [Act.put, List.setIfInBounds_toArray, List.set_cons_zero, List.set_cons_succ]
  refine nw_end (by kernel_rfl) ?_
  clear z5 c5 N5 N6 HW5 HW6 H5 H6 K3 K4 K7 K37 T5 T6 T65 X6 UA OD5
  obtain ⟨w8, hw8⟩ : ∃ w8, w7.setCell ⟨p, 5, none⟩ (.slice (some ⟨g7, 0, none⟩) (S.undo.length + 1) cap7) = w8 := ⟨_, rfl⟩
  rw [hw8] at H8 T8 K38 K48
  rw [hw8]
  clear hw8
  -- region 7: the change
  obtain ⟨w9, hw9⟩ : ∃ w9, w8.drew = w9 := ⟨_, rfl⟩
  have t9 : Tch 16 16 col7 col7 w8 w9 := by rw [← hw9]; exact (Tch.refl _ _ _ _).drew
  have H9 := Lib.hid (H8.out.keep t9 (by omega) (by omega))
  have K3 := Lib.hid (K38.out.keep t9 (by omega))
  have K4 := Lib.hid (K48.out.keep t9 (by omega))
  have T9 := Lib.hid (T8.out.trans (t9.any (Nat.le_refl _)))
  have HC := Lib.hid (Bits.clone_any (some a) 256 cap bs w9 (by omega) (fun e => by cases e) (HB.out w9 col7 T9.out))
  have hNS : w9.cell? ⟨w.heap.size, 0, none⟩ = some (.pointer (some ⟨p, 0, none⟩)) ∧ w9.cell? ⟨w.heap.size + 1, 0, none⟩ = some (.int .i64 n) ∧ w9.cell? ⟨p, 2, none⟩ = some (.map (some L.bc)) := ⟨K3.out.blk.cell 0, K4.out.blk.cell 0, H9.out.s.blk.cell 2⟩
  have hB9 : B ≤ w9.heap.size := Nat.le_trans hB T9.out.size
  have HW9 := Lib.hid hw9
  clear hw9 t9 H8 K38 K48 T8
  go_wp2_with fail
  refine region_need_at (v := w9) (fun w' => w'.cell? ⟨w.heap.size, 0, none⟩ = some (.pointer (some ⟨p, 0, none⟩)) ∧ w'.cell? ⟨w.heap.size + 1, 0, none⟩ = some (.int .i64 n) ∧ w'.cell? ⟨p, 2, none⟩ = some (.map (some L.bc))) (fun i => i != 7) HW9.out (by kernel_rfl) ?_
  refine nw_take (i := 0) (v := ?_) rfl (by kernel_rfl) (by kernel_rfl) (fun _ _ d _ _ h => by cases d <;> exact h) (by exact hNS) (by kernel_rfl) ?_ (fun K hK => ?_); rotate_left; (· (intro w' hSw; (try dsimp only at hSw); go_simp; with_reducible rfl)); simp only [Act.put, List.setIfInBounds_toArray, List.set_cons_zero, List.set_cons_succ]; refine hK _ ?_; clear hK K
  refine nw_take (i := 1) (v := ?_) rfl (by kernel_rfl) (by kernel_rfl) (fun _ _ d _ _ h => by cases d <;> exact h) (by exact hNS) (by kernel_rfl) ?_ (fun K hK => ?_); rotate_left; (· (intro w' hSw; (try dsimp only at hSw); go_simp; with_reducible rfl)); simp only [Act.put, List.setIfInBounds_toArray, List.set_cons_zero, List.set_cons_succ]; refine hK _ ?_; clear hK K
  refine nw_take (i := 2) (v := ?_) rfl (by kernel_rfl) (by kernel_rfl) (fun _ _ d _ _ h => by cases d <;> exact h) (by exact hNS) (by kernel_rfl) ?_ (fun K hK => ?_); rotate_left; (· (intro w' hSw; (try dsimp only at hSw); go_simp; with_reducible rfl)); simp only [Act.put, List.setIfInBounds_toArray, List.set_cons_zero, List.set_cons_succ]; refine hK _ ?_; clear hK K
  refine nw_take (i := 3) (v := ?_) rfl (by kernel_rfl) (by kernel_rfl) (fun _ _ d _ _ h => by cases d <;> exact h) (by exact hNS) (by kernel_rfl) ?_ (fun K hK => ?_); rotate_left; (· (intro w' hSw; (try dsimp only at hSw); go_simp; with_reducible rfl)); simp only [Act.put, List.setIfInBounds_toArray, List.set_cons_zero, List.set_cons_succ]; refine hK _ ?_; clear hK K
  refine nw_take (i := 4) (v := ?_) rfl (by kernel_rfl) (by kernel_rfl) (fun _ _ d _ _ h => by cases d <;> exact h) (by exact hNS) (by kernel_rfl) ?_ (fun K hK => ?_); rotate_left; (· (intro w' hSw; (try dsimp only at hSw); go_simp; with_reducible rfl)); simp only [Act.put, List.setIfInBounds_toArray, List.set_cons_zero, List.set_cons_succ]; refine hK _ ?_; clear hK K
  refine nw_take (i := 5) (v := ?_) rfl (by kernel_rfl) (by kernel_rfl) (fun _ _ d _ _ h => by cases d <;> exact h) (by exact hNS) (by kernel_rfl) ?_ (fun K hK => ?_); rotate_left; (· (intro w' hSw; (try dsimp only at hSw); go_simp; with_reducible rfl)); simp only [Act.put, List.setIfInBounds_toArray, List.set_cons_zero, List.set_cons_succ]; refine hK _ ?_; clear hK K
  clear hNS
  refine nw_one (i := 6) (E := False) rfl (by kernel_rfl) (fun K hK => ?_) (by kernel_rfl)
  go_simp
  refine HC.out.mono ?_
  rintro e w10 ⟨v10, rfl, b10, o10⟩
  obtain ⟨g10, cap10, cur10, rfl, hg10, _⟩ := own_form o10 (by omega)
  obtain ⟨col10, hcol10⟩ : ∃ col10, col10 = paint col7 g10 1 := ⟨_, rfl⟩
  have t10 : Tch 16 16 col7 col10 w9 w10 := by rw [hcol10]; exact (Tch.of_below b10).paint hg10 (o10.lt _ rfl).2 (by omega)
  have D10 := Lib.hid (show Dat w10 col10 B (.slice (some ⟨g10, 0, none⟩) 256 cap10) bs from Dat.of o10 hB9 (fun g e => by injection e with e; subst e; rw [hcol10, paint_self]))
  have H10 := Lib.hid (H9.out.keep t10 (by omega) (by omega))
  have K3' := Lib.hid (K3.out.keep t10 (by omega))
  have K4' := Lib.hid (K4.out.keep t10 (by omega))
  have T10 := Lib.hid (T9.out.trans (t10.any (Nat.le_refl _)))
  have hS10 : w10.cell? ⟨w.heap.size, 0, none⟩ = some (.pointer (some ⟨p, 0, none⟩)) ∧ w10.cell? ⟨w.heap.size + 1, 0, none⟩ = some (.int .i64 n) ∧ w10.cell? ⟨p, 2, none⟩ = some (.map (some L.bc)) := ⟨K3'.out.blk.cell 0, K4'.out.blk.cell 0, H10.out.s.blk.cell 2⟩
  obtain ⟨f10, hf10, hp10⟩ := H10.out.chg.ex
  have F10 := Lib.hid hf10
  have P10 := Lib.hid hp10
  clear hcol10 t10 b10 o10 H9 K3 K4 T9 hf10 hp10
  refine hK.out _ _ ((fun _ => hS10)) ?_
  clear hK K
  try simp only [Act.put, List.setIfInBounds_toArray, List.set_cons_zero, List.set_cons_succ]
  clear hS10
  refine nw_one (i := 7) (E := False) rfl (by kernel_rfl) (fun K hK => ?_) (by kernel_rfl)
  refine step_map_put w10 rfl (.tmp 34) (.tmp 35) (.tmp 37) 55 rfl 34 Try.underlying55 col10 B (c + 1) L.bc S.d.N f10 rfl F10.out n rfl hn2 (.slice (some ⟨g10, 0, none⟩) 256 cap10) rfl ?_
  intro w11 m11 t11
  have h11 := H10.out.chgSet t11 (g := fun j => if j = n then some bs else S.chg j) ⟨_, m11, (P10.out.keep t11 (by omega)).set (D10.out.keep t11 (by omega))⟩
  have H11 := Lib.hid h11
  have K3 := Lib.hid (K3'.out.keep t11 (by omega))
  have K4 := Lib.hid (K4'.out.keep t11 (by omega))
  have T11 := Lib.hid (T10.out.trans (t11.mono (by omega) (by omega)))
  clear m11 t11 h11 H10 K3' K4' T10 D10 F10 P10
  refine hK.out _ _ ((fun h => absurd h (by decide))) ?_
  clear hK K
  try simp only [Act.put, List.setIfInBounds_toArray, List.set_cons_zero, List.set_cons_succ]
  simp only [List.getElem_toArray, List.getElem_cons_succ, List.getElem_cons_zero]
  refine nw_end (by kernel_rfl) ?_
  -- region 8: out of the cache
  obtain ⟨w12, hw12⟩ : ∃ w12, w11.drew = w12 := ⟨_, rfl⟩
  have t12 : Tch 16 16 col10 col10 w11 w12 := by rw [← hw12]; exact (Tch.refl _ _ _ _).drew
  have h12 := H11.out.keep t12 (by omega) (by omega)
  have k3 := K3.out.keep t12 (by omega)
  have k4 := K4.out.keep t12 (by omega)
  obtain ⟨gs, scap, hv, hof⟩ := of_any w12 col10 B c p _ _ n h12 HN.out
  obtain ⟨w13, hw13⟩ : ∃ w13, w12.drew = w13 := ⟨_, rfl⟩
  rw [hw13] at hof
  have t13 : Tch 16 16 col10 col10 w12 w13 := by rw [← hw13]; exact (Tch.refl _ _ _ _).drew
  have h13 := h12.keep t13 (by omega) (by omega)
  have T13 := Lib.hid ((T11.out.trans (t12.any (Nat.le_refl _))).trans (t13.any (Nat.le_refl _)))
  have hi := of_lt (S := S) n h13.shn.1
  obtain ⟨i, hie⟩ : ∃ i, S.of n = i := ⟨_, rfl⟩
  obtain ⟨x, hx⟩ : ∃ x, L.sh[i]? = some x := ⟨_, List.getElem?_eq_getElem (by have := h13.shl; rw [← hie]; exact Nat.lt_of_lt_of_eq hi this.symm)⟩
  obtain ⟨y, hy⟩ : ∃ y, S.sh[i]? = some y := ⟨_, List.getElem?_eq_getElem (by rw [← hie]; exact hi)⟩
  have HWR := Lib.hid (show S.write n bs = SS.setSh { S with undo := S.undo ++ [.w n (S.chg n)], chg := fun j => if j = n then some bs else S.chg j } i (y.wo n) by rw [SS.write, hie, SS.shard, hy]; rfl)
  have HF := Lib.hid (forget_any w13 col10 B c p i gs scap _ _ n x y (h13.hole i) hv hx (h13.sh i x y hx hy) (by rw [← hie]; exact hi) hkb (Nat.le_trans hB T13.out.size))
  have HX := Lib.hid hx
  have HOF := Lib.hid (show Calls Try.prog 41 #[.pointer (some ⟨p, 0, none⟩), .int .i64 n] w12 fun e w' => e = .returned (.pointer (some ⟨gs, i * 2, none⟩)) ∧ w' = w13 by rw [← hie]; exact hof)
  have hNS : w12.cell? ⟨w.heap.size, 0, none⟩ = some (.pointer (some ⟨p, 0, none⟩)) ∧ w12.cell? ⟨w.heap.size + 1, 0, none⟩ = some (.int .i64 n) := ⟨k3.blk.cell 0, k4.blk.cell 0⟩
  have N13 := Lib.hid (show w13.cell? ⟨w.heap.size, 0, none⟩ = some (.pointer (some ⟨p, 0, none⟩)) ∧ w13.cell? ⟨w.heap.size + 1, 0, none⟩ = some (.int .i64 n) from ⟨(k3.keep t13 (by omega)).blk.cell 0, (k4.keep t13 (by omega)).blk.cell 0⟩)
  have HW12 := Lib.hid hw12
  clear h12 h13 k3 k4 hof hv hw12 hw13 t12 t13 hi hie hx hy H11 K3 K4 T11
  go_wp2_with fail
  refine region_need_at (v := w12) (fun w' => w'.cell? ⟨w.heap.size, 0, none⟩ = some (.pointer (some ⟨p, 0, none⟩)) ∧ w'.cell? ⟨w.heap.size + 1, 0, none⟩ = some (.int .i64 n)) (fun i => i != 4) HW12.out (by kernel_rfl) ?_
  refine nw_take (i := 0) (v := ?_) rfl (by kernel_rfl) (by kernel_rfl) (fun _ _ d _ _ h => by cases d <;> exact h) (by exact hNS) (by kernel_rfl) ?_ (fun K hK => ?_); rotate_left; (· (intro w' hSw; (try dsimp only at hSw); go_simp; with_reducible rfl)); simp only [Act.put, List.setIfInBounds_toArray, List.set_cons_zero, List.set_cons_succ]; refine hK _ ?_; clear hK K
  refine nw_take (i := 1) (v := ?_) rfl (by kernel_rfl) (by kernel_rfl) (fun _ _ d _ _ h => by cases d <;> exact h) (by exact hNS) (by kernel_rfl) ?_ (fun K hK => ?_); rotate_left; (· (intro w' hSw; (try dsimp only at hSw); go_simp; with_reducible rfl)); simp only [Act.put, List.setIfInBounds_toArray, List.set_cons_zero, List.set_cons_succ]; refine hK _ ?_; clear hK K
  refine nw_take (i := 3) (v := ?_) rfl (by kernel_rfl) (by kernel_rfl) (fun _ _ d _ _ h => by cases d <;> exact h) (by exact hNS) (by kernel_rfl) ?_ (fun K hK => ?_); rotate_left; (· (intro w' hSw; (try dsimp only at hSw); go_simp; with_reducible rfl)); simp only [Act.put, List.setIfInBounds_toArray, List.set_cons_zero, List.set_cons_succ]; refine hK _ ?_; clear hK K
  clear hNS
  refine nw_one (i := 2) (E := False) rfl (by kernel_rfl) (fun K hK => ?_) (by kernel_rfl)
  go_simp
  refine HOF.out.mono ?_
  rintro e w' ⟨rfl, hw'⟩
  rw [hw']
  clear hw' w'
  refine hK.out _ _ ((fun _ => N13.out)) ?_
  clear hK K
  try simp only [Act.put, List.setIfInBounds_toArray, List.set_cons_zero, List.set_cons_succ]
  refine nw_one (i := 4) (E := False) rfl (by kernel_rfl) (fun K hK => ?_) (by kernel_rfl)
  go_simp
  refine HF.out.mono ?_
  rintro e w14 ⟨rfl, u14, t14, h14, s14⟩
  have C14 := Lib.hid (h14.close (setSh_at HX.out) s14)
  have T14 := Lib.hid (T13.out.trans (t14.mono (by omega) (by omega)))
  clear t14 h14 s14
  refine hK.out _ _ ((fun h => absurd h (by decide))) ?_
  clear hK K
  try simp only [Act.put, List.setIfInBounds_toArray, List.set_cons_zero, List.set_cons_succ]
  refine nw_end (by kernel_rfl) ?_
  go_wp2_with fail
  go_ret
  refine ⟨col10, rfl, T14.out, ?_⟩
  rw [HWR.out]
  exact ⟨_, C14.out⟩
end Go.Proofs.Ytomoliickggghaa.Mem

namespace Go.Proofs.Ytomoliickggghaa.Mem
open Go.RowKit Go.Proofs.Ytomoliickggghaa Go.Proofs.Ytomoliickggghaa.Wire
set_option maxHeartbeats 8000000
set_option maxRecDepth 100000
set_option linter.unusedVariables false
set_option linter.unusedSimpArgs false

theorem map_drop_by (w : World) {ops : Array Oper} {rest : List Oper} {o : Oper} {a : Act} {Q : Exit → Act → World → Prop} (hg : o.guard = none) (m x : Operand) (t : TypeId) (hop : o.op = Op.call { callee := Callee.builtin Builtin.delete, args := #[m, x], argTypes := #[t, 3] }) (e : TypeId) (ht : Try.prog.underlying t = some (.map 3 e)) (col : Col) (B r b N : Nat) (f : Int → Option Value)
    (hm : a.eval m = .map (some b)) (h : MapR w col B r b N f) (k : Int) (hx : a.eval x = .int .i64 k) (hk : KB k)
    (hK : ∀ w', MapR w' col B r b N (fun j => if j = k then none else f j) → w.grownBy w' (some b) → wpList Try.prog ops Q rest (a.put o.dst (.tuple #[])) w') : wpList Try.prog ops Q (o :: rest) a w := by
  refine wpList_plain hg fun K' hK' => ?_
  obtain ⟨w', hrun, r1, r2⟩ := h.drop ht hk o.type
  unfold Oper.wp
  simp [execOp, hop, resolve, invoke, builtin, hm, hx, hrun, Result.andThen]
  exact hK' _ _ (hK w' r1 r2)
/-- What an undoing does. -/
def Und.back (S : SS) : Und → SS
  | .w n old => { S with chg := fun j => if j = n then old else S.chg j }
  | .h n cur was => if cur = true ∧ was = false then { S with held := fun j => if j = n then false else S.held j } else S
section
variable {w w' : World} {col : Col} {B c p : Nat} {S : SS} {L : SL}
theorem StoreL.heldSet (h : StoreL w col B c p S L) (ht : Tch (c + 7) (c + 8) col col w w') {g : Int → Bool} (hm : MapR w' col B (c + 7) L.bh S.d.N (heldF g)) : StoreL w' col B c p { S with held := g } L := by
  have hn := h.shn
  have hcl := h.lo
  refine ⟨h.s.keep ht (by omega), h.chg.keep ht (by omega) (by omega), h.wait.keep ht (by omega) (by omega), hm, h.undo.keep ht (by omega), fun i u v h1 h2 => (h.us i u v h1 h2).keep ht (by omega) (by omega), h.shs.keep ht (by omega), h.shl, fun i x y h1 h2 => ?_,
    h.d.keep ht (by omega) (by omega), old_keep h.old h.tidy h.lo ht (by omega), h.lo, h.shn, h.rm, h.few, ht.tidy h.tidy⟩
  have hi := (List.getElem?_eq_some_iff.1 h2).1
  exact (h.sh i x y h1 h2).keep ht (by omega) (by omega) (by omega)
theorem StoreL.oldSet (h : StoreL w col B c p S L) {bm : Nat} (hc : col bm = c + 6) (hg : w.grownBy w' (some bm)) {f : Int → Option Value} (hm : MapR w' col B (c + 6) bm S.d.N f) : StoreL w' col B c p S L ∧ Tch (c + 6) (c + 7) col col w w' := by
  have hn := h.shn
  have hcl := h.lo
  have ht : Tch (c + 6) (c + 7) col col w w' := Tch.of_grown hg (fun g e _ => by injection e with e; subst e; rw [hc]; omega)
  have hcu : ∀ (i : Nat) (u : Und) (v : Value), S.undo[i]? = some u → L.us[i]? = some v → UndAt w' col B c p L.bh S.d.N u v := fun i u v h1 h2 => by
    have := h.us i u v h1 h2
    cases u with
    | w n old =>
      obtain ⟨b7, b3, b4, vo, k⟩ := this
      exact ⟨b7, b3, b4, vo, k.val, k.o.keep ht (by omega), k.od.keep ht (by omega), k.s.keep ht (by omega), k.nb.keep ht (by omega), k.has⟩
    | h n cur was =>
      obtain ⟨b6, b5, b3, bm, k⟩ := this
      refine ⟨b6, b5, b3, bm, k.val, k.was.keep ht (by omega), k.m.keep ht (by omega), ?_, k.nb.keep ht (by omega), k.has⟩
      have := k.mc
      split
      · rename_i hc; rw [if_pos hc] at this; exact this
      · rename_i hc
        rw [if_neg hc] at this
        exact ⟨this.1, Nat.lt_of_lt_of_le this.2 ht.size⟩
  refine ⟨⟨h.s.keep ht (by omega), h.chg.keep ht (by omega) (by omega), h.wait.keep ht (by omega) (by omega), h.held.keep ht (by omega), h.undo.keep ht (by omega), hcu, h.shs.keep ht (by omega), h.shl, fun i x y h1 h2 => ?_,
    h.d.keep ht (by omega) (by omega), fun b hb hcb => ?_, h.lo, h.shn, h.rm, h.few, ht.tidy h.tidy⟩, ht⟩
  · have hi := (List.getElem?_eq_some_iff.1 h2).1
    exact (h.sh i x y h1 h2).keep ht (by omega) (by omega) (by omega)
  · by_cases e : b = bm
    · subst e; exact ⟨f, hm⟩
    · rcases Nat.lt_or_ge b w.heap.size with hlt | hge
      · obtain ⟨f', k⟩ := h.old b hlt hcb
        obtain ⟨n, D, ⟨es, clock, hb', hm'⟩, hh⟩ := k.own
        exact ⟨f', ⟨⟨n, D, ⟨es, clock, (hg.block b hlt (fun x => e (Option.some.inj x))).trans hb', hm'⟩, hh⟩, k.c, k.base, k.sup, k.small⟩⟩
      · have := h.tidy b hge; omega
end
theorem undo_w (w : World) (col : Col) (B c p : Nat) (S : SS) (L : SL) (n : Int) (old : Option Bytes) (v vo : Value) (b7 b3 b4 : Nat) (h : StoreL w col B c p S L) (hu : UndW w col B p S.d.N n old v b7 b3 b4 vo) :
    Calls Try.prog 39 #[ptr b7, ptr b3, ptr b4] w fun e w' => e = .returned (.tuple #[]) ∧ Tch (c + 1) (c + 2) col col w w' ∧ StoreL w' col B c p (Und.back S (.w n old)) L := by
  have hcl := h.lo
  have hN := h.d.n
  have hn2 := hu.has
  have hkb : KB n := ⟨by omega, by omega⟩
  have h1 := h.keep ((Tch.refl 16 16 col w).drew) (by omega) (by omega)
  have a7 : w.cell? ⟨b7, 0, none⟩ = some vo := hu.o.blk.cell 0
  have a7' : w.drew.cell? ⟨b7, 0, none⟩ = some vo := a7
  have a3 : w.drew.cell? ⟨b3, 0, none⟩ = some (ptr p) := hu.s.blk.cell 0
  have a4 : w.drew.cell? ⟨b4, 0, none⟩ = some (.int .i64 n) := hu.nb.blk.cell 0
  have a2 : w.drew.cell? ⟨p, 2, none⟩ = some (.map (some L.bc)) := h1.s.blk.cell 2
  have H1 := Lib.hid h1
  obtain ⟨f, hf, hp⟩ := h1.chg.ex
  have F1 := Lib.hid hf
  have P1 := Lib.hid hp
  have OD := Lib.hid (hu.od.keep ((Tch.refl 16 16 col w).drew) (by omega))
  have K3 := Lib.hid (hu.s.keep ((Tch.refl 16 16 col w).drew) (by omega))
  have K4 := Lib.hid (hu.nb.keep ((Tch.refl 16 16 col w).drew) (by omega))
  have K7 := Lib.hid (hu.o.keep ((Tch.refl 16 16 col w).drew) (by omega))
  cases old with
  | none =>
    obtain rfl : vo = .slice none 0 0 := hu.od
    have FIN := Lib.hid (show ∀ w', MapR w' col B (c + 1) L.bc S.d.N (fun j => if j = n then none else f j) → Tch (c + 1) (c + 2) col col w.drew w' → StoreL w' col B c p (Und.back S (.w n none)) L from fun w' m t =>
      H1.out.chgSet t ⟨_, m, (P1.out.keep t (by omega)).del n⟩)
    have heq := fun w => Lib.run_eql_slice_nil (P := Try.prog) w 34 5 none 0 0 0 0 Try.underlying34
    clear h h1 hu hf hp P1 OD H1
    unfold ptr at *
    go_enter Try.func39, Try.ntmps39
    go_wp2_with fail
    refine region_mix [true, true, true, true, true, false] (S := fun w' => w'.cell? ⟨b3, 0, none⟩ = some (.pointer (some ⟨p, 0, none⟩)) ∧ w'.cell? ⟨b4, 0, none⟩ = some (.int .i64 n) ∧ w'.cell? ⟨p, 2, none⟩ = some (.map (some L.bc))) (by kernel_rfl) (by kernel_rfl) (fun _ _ d _ _ h => by cases d <;> exact h) ⟨a3, a4, a2⟩ ?_
    iterate 5 (refine mix_take (v := ?_) (by kernel_rfl) ?_ (fun K hK => ?_); rotate_left; (· (intro w' hSw; (try dsimp only at hSw); go_simp; with_reducible rfl)); simp only [Act.put, List.setIfInBounds_toArray, List.set_cons_zero, List.set_cons_succ]; refine hK _ ?_; clear hK K)
    refine mix_do (E := False) (fun K hK => ?_) (by kernel_rfl)
    refine step_map_drop _ rfl (.tmp 8) (.tmp 9) 55 rfl 34 Try.underlying55 col B (c + 1) L.bc S.d.N f rfl F1.out n rfl hkb ?_
    intro w2 m2 t2
    have R2 := Lib.hid (FIN.out w2 m2 t2)
    have T2 := Lib.hid t2
    have S3 := K3.out.keep t2 (by omega)
    have S4 := K4.out.keep t2 (by omega)
    refine hK.out _ _ (⟨S3.blk.cell 0, S4.blk.cell 0, R2.out.s.blk.cell 2⟩) ?_
    clear hK K
    try simp only [Act.put, List.setIfInBounds_toArray, List.set_cons_zero, List.set_cons_succ]
    refine mix_end ?_
    go_wp2_with fail
    go_end0
    exact ⟨rfl, ((Tch.refl _ _ _ _).drew).trans T2.out, R2.out⟩
  | some bs =>
    obtain ⟨g, cap, rfl, _⟩ := Dat.form hu.od
    have FIN := Lib.hid (show ∀ w', MapR w' col B (c + 1) L.bc S.d.N (fun j => if j = n then some (.slice (some ⟨g, 0, none⟩) 256 cap) else f j) → Tch (c + 1) (c + 2) col col w.drew w' → StoreL w' col B c p (Und.back S (.w n (some bs))) L from fun w' m t =>
      H1.out.chgSet t ⟨_, m, (P1.out.keep t (by omega)).set (n := n) (Dat.keep OD.out t (by omega))⟩)
    have heq := fun w => Lib.run_eql_slice_nil (P := Try.prog) w 34 5 (some ⟨g, 0, none⟩) 256 cap 0 0 Try.underlying34
    clear h h1 hu hf hp P1 OD H1
    unfold ptr at *
    go_enter Try.func39, Try.ntmps39
    go_wp2_with fail
    refine region_mix [true, true, true, true, true, true, false] (S := fun w' => w'.cell? ⟨b3, 0, none⟩ = some (.pointer (some ⟨p, 0, none⟩)) ∧ w'.cell? ⟨b4, 0, none⟩ = some (.int .i64 n) ∧ w'.cell? ⟨p, 2, none⟩ = some (.map (some L.bc)) ∧ w'.cell? ⟨b7, 0, none⟩ = some (.slice (some ⟨g, 0, none⟩) 256 cap)) (by kernel_rfl) (by kernel_rfl) (fun _ _ d _ _ h => by cases d <;> exact h) ⟨a3, a4, a2, a7'⟩ ?_
    iterate 6 (refine mix_take (v := ?_) (by kernel_rfl) ?_ (fun K hK => ?_); rotate_left; (· (intro w' hSw; (try dsimp only at hSw); go_simp; with_reducible rfl)); simp only [Act.put, List.setIfInBounds_toArray, List.set_cons_zero, List.set_cons_succ]; refine hK _ ?_; clear hK K)
    refine mix_do (E := False) (fun K hK => ?_) (by kernel_rfl)
    refine step_map_put _ rfl (.tmp 13) (.tmp 14) (.tmp 15) 55 rfl 34 Try.underlying55 col B (c + 1) L.bc S.d.N f rfl F1.out n rfl hn2 (.slice (some ⟨g, 0, none⟩) 256 cap) rfl ?_
    intro w2 m2 t2
    have R2 := Lib.hid (FIN.out w2 m2 t2)
    have T2 := Lib.hid t2
    have S3 := K3.out.keep t2 (by omega)
    have S4 := K4.out.keep t2 (by omega)
    have S7 := K7.out.keep t2 (by omega)
    refine hK.out _ _ (⟨S3.blk.cell 0, S4.blk.cell 0, R2.out.s.blk.cell 2, S7.blk.cell 0⟩) ?_
    clear hK K
    try simp only [Act.put, List.setIfInBounds_toArray, List.set_cons_zero, List.set_cons_succ]
    refine mix_end ?_
    go_wp2_with fail
    go_end0
    exact ⟨rfl, ((Tch.refl _ _ _ _).drew).trans T2.out, R2.out⟩
theorem undo_h (w : World) (col : Col) (B c p : Nat) (S : SS) (L : SL) (n : Int) (cur was : Bool) (v : Value) (b6 b5 b3 bm : Nat) (h : StoreL w col B c p S L) (hu : UndH w col B c L.bh S.d.N n cur was v b6 b5 b3 bm) :
    Calls Try.prog 43 #[ptr b6, ptr b5, ptr b3] w fun e w' => e = .returned (.tuple #[]) ∧ Tch (c + 6) (c + 8) col col w w' ∧ StoreL w' col B c p (Und.back S (.h n cur was)) L := by
  have hcl := h.lo
  have hN := h.d.n
  have hn2 := hu.has
  have hkb : KB n := ⟨by omega, by omega⟩
  have a6 : w.cell? ⟨b6, 0, none⟩ = some (.int .i64 (if was then 1 else 0)) := hu.was.blk.cell 0
  have a5 : w.cell? ⟨b5, 0, none⟩ = some (.map (some bm)) := hu.m.blk.cell 0
  have a3 : w.cell? ⟨b3, 0, none⟩ = some (.int .i64 n) := hu.nb.blk.cell 0
  have H1 := Lib.hid h
  cases was with
  | true =>
    have FIN := Lib.hid (show Und.back S (.h n cur true) = S by rw [Und.back, if_neg (by simp)])
    clear h hu
    unfold ptr at *
    go_enter Try.func43, Try.ntmps43
    go_wp2_with fail
    go_end0
    exact ⟨rfl, Tch.refl _ _ _ _, by rw [FIN.out]; exact H1.out⟩
  | false =>
    obtain ⟨r, f, hf, hfin⟩ : ∃ r f, MapR w col B r bm S.d.N f ∧ ∀ w', MapR w' col B r bm S.d.N (fun j => if j = n then none else f j) → w.grownBy w' (some bm) → Tch (c + 6) (c + 8) col col w w' ∧ StoreL w' col B c p (Und.back S (.h n cur false)) L := by
      have hmc := hu.mc
      cases cur with
      | true =>
        rw [if_pos rfl] at hmc
        subst hmc
        refine ⟨c + 7, _, h.held, fun w' m g => ?_⟩
        have ht : Tch (c + 7) (c + 8) col col w w' := Tch.of_grown g (fun g e _ => by injection e with e; subst e; rw [h.held.c]; omega)
        refine ⟨ht.mono (by omega) (by omega), ?_⟩
        rw [Und.back, if_pos ⟨rfl, rfl⟩]
        refine h.heldSet ht (m.ext fun k => ?_)
        unfold heldF
        by_cases e : k = n <;> simp [e]
      | false =>
        rw [if_neg (by simp)] at hmc
        obtain ⟨f, hf⟩ := h.old bm hmc.2 hmc.1
        refine ⟨c + 6, f, hf, fun w' m g => ?_⟩
        obtain ⟨k1, k2⟩ := h.oldSet hmc.1 g m
        refine ⟨k2.mono (by omega) (by omega), ?_⟩
        rw [Und.back, if_neg (by simp)]
        exact k1
    have F1 := Lib.hid hf
    have FIN := Lib.hid hfin
    clear h hu hf hfin
    unfold ptr at *
    go_enter Try.func43, Try.ntmps43
    go_wp2_with (first
      | (refine map_drop_by _ rfl (.tmp 5) (.tmp 6) 56 rfl 3 Try.underlying56 col B r bm S.d.N f rfl F1.out n rfl hkb ?_
         intro w2 m2 g2
         have R2 := Lib.hid (FIN.out w2 m2 g2)
         clear m2 g2)
      | fail)
    go_end0
    exact ⟨rfl, R2.out⟩
/-- The last change is undone. -/
def SS.pop (S : SS) : SS := match S.undo[S.undo.length - 1]? with
  | some u => { u.back S with undo := S.undo.take (S.undo.length - 1) }
  | none => S
def SS.backN : Nat → SS → SS
  | 0, S => S
  | k + 1, S => SS.backN k S.pop
def SS.backE (S : SS) (m : Int) : Int := if m < 0 ∨ (S.undo.length : Int) < m then 22 else 0
def SS.back (S : SS) (m : Int) : SS := if m < 0 ∨ (S.undo.length : Int) < m then S else S.backN (S.undo.length - m.toNat)
theorem back_same (S : SS) (u : Und) : (u.back S).undo = S.undo ∧ (u.back S).d = S.d ∧ (u.back S).sh = S.sh ∧ (u.back S).room = S.room ∧ (u.back S).found = S.found ∧ (u.back S).asked = S.asked := by
  cases u with
  | w n old => exact ⟨rfl, rfl, rfl, rfl, rfl, rfl⟩
  | h n cur was => rw [Und.back]; split <;> exact ⟨rfl, rfl, rfl, rfl, rfl, rfl⟩
theorem StoreL.popped {w : World} {col : Col} {B c p g cap m : Nat} {S : SS} {L : SL} (h : StoreL w col B c p S L) (hv : L.vu = .slice (some ⟨g, 0, none⟩) (m + 1) cap) (hm : S.undo.length = m + 1) :
    StoreL (w.setCell ⟨p, 5, none⟩ (.slice (some ⟨g, 0, none⟩) m cap)) col B c p { S with undo := S.undo.take m } { L with vu := .slice (some ⟨g, 0, none⟩) m cap, us := L.us.take m } ∧ Tch c (c + 1) col col w (w.setCell ⟨p, 5, none⟩ (.slice (some ⟨g, 0, none⟩) m cap)) := by
  have hn := h.shn
  have hcl := h.lo
  have hf := h.few
  have ht : Tch c (c + 1) col col w (w.setCell ⟨p, 5, none⟩ (.slice (some ⟨g, 0, none⟩) m cap)) := (Tch.refl _ _ _ _).setCell (p := ⟨p, 5, none⟩) (by rw [h.s.c]; omega) _
  refine ⟨⟨h.s.set 5 _, h.chg.keep ht (by omega) (by omega), h.wait.keep ht (by omega) (by omega), h.held.keep ht (by omega), ?_, fun i u v h1 h2 => ?_, h.shs.keep ht (by omega), h.shl, fun i x y h1 h2 => ?_,
    h.d.keep ht (by omega) (by omega), old_keep h.old h.tidy h.lo ht (by omega), h.lo, h.shn, h.rm, ?_, ht.tidy h.tidy⟩, ht⟩
  · have hu := h.undo
    rw [hv, hm] at hu
    have := (hu.cut (m := m) (by omega)).keep ht (by omega)
    have e : (S.undo.take m).length = m := by rw [List.length_take]; omega
    show Row _ _ _ _ _ _ _ (S.undo.take m).length _
    rw [e]
    exact this
  · simp only [List.getElem?_take] at h1 h2
    split at h1
    · rename_i hlt
      rw [if_pos hlt] at h2
      exact (h.us i u v h1 h2).keep ht (by omega) (by omega)
    · cases h1
  · have hi := (List.getElem?_eq_some_iff.1 h2).1
    exact (h.sh i x y h1 h2).keep ht (by omega) (by omega) (by omega)
  · have e : (S.undo.take m).length = m := by rw [List.length_take]; omega
    show (S.undo.take m).length + S.found + S.asked ≤ _
    rw [e]; omega
/-- A closure that undoes. -/
theorem undo_any (w : World) (col : Col) (B c p : Nat) (S : SS) (L : SL) (u : Und) (v : Value) (h : StoreL w col B c p S L) (hu : UndAt w col B c p L.bh S.d.N u v) :
    (∃ b7 b3 b4, v = .func (.func 39) #[] #[ptr b7, ptr b3, ptr b4] ∧ Calls Try.prog 39 #[ptr b7, ptr b3, ptr b4] w fun e w' => e = .returned (.tuple #[]) ∧ Tch (c + 1) (c + 8) col col w w' ∧ StoreL w' col B c p (u.back S) L) ∨
    (∃ b6 b5 b3, v = .func (.func 43) #[] #[ptr b6, ptr b5, ptr b3] ∧ Calls Try.prog 43 #[ptr b6, ptr b5, ptr b3] w fun e w' => e = .returned (.tuple #[]) ∧ Tch (c + 1) (c + 8) col col w w' ∧ StoreL w' col B c p (u.back S) L) := by
  cases u with
  | w n old =>
    obtain ⟨b7, b3, b4, vo, k⟩ := hu
    refine .inl ⟨_, _, _, k.val, (undo_w w col B c p S L n old v vo b7 b3 b4 h k).mono ?_⟩
    rintro e w' ⟨rfl, h1, h2⟩
    exact ⟨rfl, h1.mono (by omega) (by omega), h2⟩
  | h n cur was =>
    obtain ⟨b6, b5, b3, bm, k⟩ := hu
    refine .inr ⟨_, _, _, k.val, (undo_h w col B c p S L n cur was v b6 b5 b3 bm h k).mono ?_⟩
    rintro e w' ⟨rfl, h1, h2⟩
    exact ⟨rfl, h1.mono (by omega) (by omega), h2⟩
theorem sback_no (w : World) (col : Col) (B c p : Nat) (S : SS) (L : SL) (m : Int) (h : StoreL w col B c p S L) (hm : m < 0 ∨ (S.undo.length : Int) < m) :
    Calls Try.prog 21 #[ptr p, .int .i64 m] w fun e w' => e = .returned (.int .i64 22) ∧ w = w' := by
  have HB := Lib.hid (sblocks_any w col B c p S L h)
  have hN : (((S.d.N : Nat) : Int) == 0) = false := by have := h.d.n; simp; omega
  have c5 : w.cell? ⟨p, 5, none⟩ = some L.vu := h.s.blk.cell 5
  obtain ⟨A, cap, hv, _⟩ := row_len h.undo
  rw [hv] at c5
  clear h hv
  generalize S.undo.length = k at *
  generalize S.d.N = N at *
  unfold ptr at *
  by_cases h0 : m < 0
  · clear hm
    go_enter Try.func21, Try.ntmps21
    go_wp2_with fail
    refine HB.out.mono ?_
    rintro e w' ⟨rfl, rfl⟩
    go_wp2_with fail
    go_ret
    exact ⟨rfl, rfl⟩
  · have hk : (k : Int) < m := by omega
    clear hm
    go_enter Try.func21, Try.ntmps21
    go_wp2_with fail
    refine HB.out.mono ?_
    rintro e w' ⟨rfl, rfl⟩
    go_wp2_with fail
    go_ret
    exact ⟨rfl, rfl⟩
def undoLen (p : Nat) (w : World) : Nat := match w.cell? ⟨p, 5, none⟩ with
  | some (.slice _ n _) => n
  | _ => 0
theorem undoLen_of {p n c : Nat} {A : Option Addr} {w : World} (h : w.cell? ⟨p, 5, none⟩ = some (.slice A n c)) : undoLen p w = n := by rw [undoLen, h]
theorem sback_yes (w : World) (col : Col) (B c p m : Nat) (S : SS) (h : StoreAt w col B c p S) (hm : m ≤ S.undo.length) :
    Calls Try.prog 21 #[ptr p, .int .i64 m] w fun e w' => e = .returned (.int .i64 0) ∧ Tch c (c + 64) col col w w' ∧ StoreAt w' col B c p (S.backN (S.undo.length - m)) := by
  obtain ⟨L, h⟩ := h
  have HB := Lib.hid (sblocks_any w col B c p S L h)
  have hcl := h.lo
  have few := h.few
  have hN : (((S.d.N : Nat) : Int) == 0) = false := by have := h.d.n; simp; omega
  have c5 : w.cell? ⟨p, 5, none⟩ = some L.vu := h.s.blk.cell 5
  obtain ⟨A, cap, hv, _⟩ := row_len h.undo
  rw [hv] at c5
  have H0 := Lib.hid h
  obtain ⟨k, hk⟩ : ∃ k, S.undo.length = k := ⟨_, rfl⟩
  have HK := Lib.hid hk
  rw [hk] at c5 hm few ⊢
  clear h hv hk
  generalize S.d.N = N at *
  unfold ptr at *
  have hm0 : ¬ (m : Int) < 0 := by omega
  have hmk : ¬ (k : Int) < (m : Int) := by omega
  go_enter Try.func21, Try.ntmps21
  go_wp2_with fail
  refine HB.out.mono ?_
  rintro e w' ⟨rfl, rfl⟩
  go_wp2_with fail
  have hd0 : decide ((m : Int) < 0) = false := by simp
  have hdk : decide (k < m) = false := by simp; omega
  have hdk2 : decide ((k : Int) < (m : Int)) = false := by simp; omega
  simp only [hd0, hdk, hdk2, Bool.or_false]
  clear hm0 hmk hN c5 hd0 hdk hdk2
  go_loopw [5] (fun _ wr => ∃ (j : Nat) (S' : SS), m + j ≤ k ∧ S'.undo.length = m + j ∧ S.backN (k - m) = S'.backN j ∧ Tch c (c + 64) col col w wr ∧ StoreAt wr col B c p S') (fun _ wr => undoLen p wr)
  case atStart => exact ⟨k - m, S, by omega, by rw [HK.out]; omega, rfl, Tch.refl _ _ _ _, L, H0.out⟩
  case round =>
    obtain ⟨j, S', hj, hl, he, ht, L', h'⟩ := hrel
    have HL := Lib.hid hl
    have HE := Lib.hid he
    have HT := Lib.hid ht
    have H' := Lib.hid h'
    have c5 : wr.cell? ⟨p, 5, none⟩ = some L'.vu := h'.s.blk.cell 5
    obtain ⟨A', cap', hv', hA', hc1, hc2, hg'⟩ := row_len h'.undo
    rw [hv', hl] at c5
    rw [hl] at hg'
    have HV := Lib.hid hv'
    cases j with
    | zero =>
      rw [Nat.add_zero] at c5
      clear hv' hl he ht h' hg' hA'
      have hlt : ¬ (m : Int) < (m : Int) := by omega
      go_wp2_with fail
      go_ret
      refine ⟨rfl, HT.out, L', ?_⟩
      rw [HE.out]
      exact H'.out
    | succ j =>
      obtain ⟨q, hq⟩ : ∃ q, m + j = q := ⟨_, rfl⟩
      have hq1 : m + (j + 1) = q + 1 := by omega
      rw [hq1] at c5 hg'
      obtain ⟨g, rfl, hcg, hBg, hgl⟩ := hg' (by omega)
      have hun := h'.uslen
      obtain ⟨u, hu⟩ : ∃ u, S'.undo[q]? = some u := ⟨_, List.getElem?_eq_getElem (by omega)⟩
      obtain ⟨uv, huv⟩ : ∃ uv, L'.us[q]? = some uv := ⟨_, List.getElem?_eq_getElem (by omega)⟩
      have hcall := undo_any wr col B c p S' L' u uv h' (h'.us q u uv hu huv)
      have hrow := h'.undo
      rw [hv', hl, hq1] at hrow
      have cq : wr.cell? ⟨g, q, none⟩ = some uv := by rw [hrow.own.cellAt q (by omega)]; exact huv
      have POP := Lib.hid (show S'.pop = { u.back S' with undo := S'.undo.take q } by
        rw [SS.pop, hl, hq1, Nat.add_sub_cancel, hu])
      obtain ⟨t, ht'⟩ : ∃ t, q + 1 = t := ⟨_, rfl⟩
      have HTQ := Lib.hid ht'
      rw [ht'] at c5
      have e1 : (t : Int) - 1 = (q : Int) := by omega
      have e2 : (m : Int) < (t : Int) := by omega
      have e3 : q < t := by omega
      have e4 : (q : Int) < (t : Int) := by omega
      have e5 : (0 : Int) ≤ (q : Int) := by omega
      have e6 : t ≤ cap' := by omega
      have e7 : q ≤ cap' := by omega
      have MEAS := Lib.hid (show ∀ w2 : World, (w2.setCell ⟨p, 5, none⟩ (.slice (some ⟨g, 0, none⟩) q cap')).cell? ⟨p, 5, none⟩ = some (.slice (some ⟨g, 0, none⟩) q cap') → True from fun _ _ => trivial)
      have hjq : m + j ≤ k := by omega
      have BU := Lib.hid (show (u.back S').undo.length = q + 1 by rw [(back_same S' u).1, hl, hq1])
      have BT := Lib.hid (show ({ u.back S' with undo := (u.back S').undo.take q } : SS) = S'.pop by rw [POP.out, (back_same S' u).1])
      have PL := Lib.hid (show S'.pop.undo.length = q by
        rw [POP.out]
        show (S'.undo.take q).length = q
        rw [List.length_take]; omega)
      have BV := Lib.hid (show L'.vu = .slice (some ⟨g, 0, none⟩) (q + 1) cap' by rw [hv', hl, hq1])
      clear hv' hl he ht h' hg' hA' hrow hu huv hun hq1 ht' hj hc1 MEAS
      rcases hcall with ⟨b1, b2, b3, rfl, hcall⟩ | ⟨b1, b2, b3, rfl, hcall⟩
      all_goals
        have HC := Lib.hid hcall
        clear hcall
        unfold ptr at *
        go_wp2_with fail
        refine HC.out.mono ?_
        rintro e w2 ⟨rfl, t2, h2⟩
        have d5 : w2.cell? ⟨p, 5, none⟩ = some (.slice (some ⟨g, 0, none⟩) t cap') := by
          rw [← HTQ.out, ← BV.out]; exact h2.s.blk.cell 5
        have z5 : w2.frozen? ⟨p, 5, none⟩ = false := h2.s.blk.frozen 5
        obtain ⟨h3, t3⟩ := h2.popped BV.out BU.out
        rw [BT.out] at h3
        have H3 := Lib.hid h3
        have T3 := Lib.hid ((HT.out.trans (t2.mono (by omega) (by omega))).trans (t3.mono (by omega) (by omega)))
        have M3 := Lib.hid (h3.s.blk.cell 5)
        clear h2 t2 h3 t3 HC
        go_wp2_with fail
        go_roundw
        case rel => exact ⟨j, S'.pop, hjq, by rw [PL.out]; omega, by rw [HE.out]; rfl, T3.out, _, H3.out⟩
        case measure =>
          have e8 := undoLen_of c5
          have e9 := undoLen_of (A := some ⟨g, 0, none⟩) (n := q) (c := cap') M3.out
          omega
end Go.Proofs.Ytomoliickggghaa.Mem
