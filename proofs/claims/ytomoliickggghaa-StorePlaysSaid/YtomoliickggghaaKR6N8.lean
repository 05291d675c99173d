
/-
  layer 6, plain: the cache agrees with the disk; what is undone is as it was.
  layer 6's laws: lists that a law builds; how long what is read is.
-/
import Derived.Test.YtomoliickggghaaKR6N7
namespace Go.Proofs.Ytomoliickggghaa.Mem
open Go.RowKit Go.Proofs.Ytomoliickggghaa Go.Proofs.Ytomoliickggghaa.Wire
set_option maxHeartbeats 8000000
set_option maxRecDepth 100000
set_option linter.unusedVariables false
set_option linter.unusedSimpArgs false

/-- What may be undone now is changed now: from the last on. -/
def UOk : List Und → (Int → Option Bytes) → Prop
  | [], _ => True
  | .w n old :: l, c => (c n).isSome = true ∧ UOk l (fun j => if j = n then old else c j)
  | .h _ _ _ :: l, c => UOk l c
/-- What is cached of a block. -/
def SS.cached (S : SS) (n : Int) : Option Bytes := (S.shard (S.of n)).2 n
/-- A state whose cache agrees with the disk. -/
structure CI (S : SS) : Prop where
  sh : 1 ≤ S.sh.length
  und : UOk S.undo.reverse S.chg
  chg : ∀ n b, S.cached n = some b → S.chg n = none ∧ S.wait n = none ∧ b = S.d.get n
/-- What is read, were there no cache. -/
def SS.val (S : SS) (n : Int) : Bytes := match S.chg n with
  | some b => b
  | none => match S.wait n with
    | some b => b
    | none => S.d.get n
theorem CI.bytes {S : SS} (h : CI S) (n : Int) : S.bytes n = S.val n := by
  unfold SS.bytes SS.val SS.get
  cases hc : S.chg n with
  | some b => rfl
  | none =>
    cases hw : S.wait n with
    | some b => rfl
    | none =>
      simp only
      cases hk : (S.shard (S.of n)).2 n with
      | none => rfl
      | some b => exact (h.chg n b hk).2.2
theorem CI.readB {S : SS} (h : CI S) (n : Int) : S.readB n = if S.has n = true then S.val n else [] := by
  unfold SS.readB
  rw [h.bytes]
theorem of_val {S T : SS} (h : T.sh.length = S.sh.length) (n : Int) : T.of n = S.of n := by unfold SS.of; rw [h]
theorem shard_set {S : SS} {i : Nat} {y : Sd} (hi : i < S.sh.length) (k : Nat) : (S.setSh i y).shard k = if k = i then y else S.shard k := by
  unfold SS.shard SS.setSh
  simp only [List.getElem?_set]
  by_cases e : i = k
  · subst e; simp [hi]
  · rw [if_neg e, if_neg (fun h => e h.symm)]
theorem setSh_len (S : SS) (i : Nat) (y : Sd) : (S.setSh i y).sh.length = S.sh.length := by simp [SS.setSh]
/-- A block came into its shard: what is cached then. -/
theorem use_cached {S : SS} (hs : 1 ≤ S.sh.length) (n : Int) (bs : Bytes) (k : Int) (b : Bytes) (h : (S.use n bs).cached k = some b) : (k = n ∧ b = bs) ∨ (k ≠ n ∧ S.cached k = some b) := by
  have ho := of_lt (S := S) n hs
  unfold SS.cached at *
  rw [of_val (S := S) (by exact setSh_len _ _ _) k] at h
  unfold SS.use at h
  rw [shard_set ho] at h
  by_cases e : S.of k = S.of n
  · rw [if_pos e] at h
    rw [e]
    have hput : ∀ j c, ((S.shard (S.of n)).put n bs).2 j = some c → (j = n ∧ c = bs) ∨ (j ≠ n ∧ (S.shard (S.of n)).2 j = some c) := fun j c hc => by
      unfold Sd.put at hc
      simp only at hc
      by_cases e2 : j = n
      · rw [if_pos e2] at hc; injection hc with hc; exact .inl ⟨e2, hc.symm⟩
      · rw [if_neg e2] at hc; exact .inr ⟨e2, hc⟩
    unfold Sd.use at h
    split at h
    · unfold Sd.wo at h
      simp only at h
      split at h
      · cases h
      · exact hput _ _ h
    · exact hput _ _ h
  · rw [if_neg e] at h
    exact .inr ⟨fun e2 => e (by rw [e2]), h⟩
theorem wo_cached {S : SS} (hs : 1 ≤ S.sh.length) (n : Int) (k : Int) (b : Bytes) (h : (S.setSh (S.of n) ((S.shard (S.of n)).wo n)).cached k = some b) : k ≠ n ∧ S.cached k = some b := by
  have ho := of_lt (S := S) n hs
  unfold SS.cached at *
  rw [of_val (S := S) (by exact setSh_len _ _ _) k, shard_set ho] at h
  by_cases e : S.of k = S.of n
  · rw [if_pos e] at h
    rw [e]
    unfold Sd.wo at h
    simp only at h
    split at h
    · cases h
    · rename_i hk; exact ⟨hk, h⟩
  · rw [if_neg e] at h
    exact ⟨fun e2 => e (by rw [e2]), h⟩
theorem UOk.push_w {us : List Und} {c : Int → Option Bytes} (h : UOk us.reverse c) (n : Int) (bs : Bytes) : UOk (us ++ [Und.w n (c n)]).reverse (fun j => if j = n then some bs else c j) := by
  rw [List.reverse_append]
  refine ⟨by simp, ?_⟩
  have e : (fun j => if j = n then c n else (fun j => if j = n then some bs else c j) j) = c := by
    funext j
    by_cases e : j = n
    · simp [e]
    · simp [e]
  rw [e]; exact h
theorem CI.write {S : SS} (h : CI S) (n : Int) (bs : Bytes) : CI (S.write n bs) := by
  refine ⟨by unfold SS.write; rw [setSh_len]; exact h.sh, ?_, fun k b hk => ?_⟩
  · exact h.und.push_w n bs
  · obtain ⟨k1, k2⟩ := wo_cached (S := { S with undo := S.undo ++ [.w n (S.chg n)], chg := fun j => if j = n then some bs else S.chg j }) h.sh n k b hk
    have h3 := h.chg k b k2
    refine ⟨?_, h3.2.1, h3.2.2⟩
    show (if k = n then some bs else S.chg k) = none
    rw [if_neg k1]; exact h3.1
theorem CI.writeS {S : SS} (h : CI S) (n : Int) (bs : Bytes) : CI (S.writeS n bs) := by
  unfold SS.writeS
  split
  · exact h.write n bs
  · exact h
theorem CI.hold {S : SS} (h : CI S) (n : Int) : CI (S.hold n) := by
  refine ⟨h.sh, ?_, fun k b hk => h.chg k b hk⟩
  show UOk (S.undo ++ [Und.h n true (S.held n)]).reverse S.chg
  rw [List.reverse_append]
  exact h.und
theorem CI.holdS {S : SS} (h : CI S) (n : Int) : CI (S.holdS n) := by
  unfold SS.holdS
  split
  · exact h.hold n
  · exact h
theorem CI.used {S T : SS} (h : CI S) (hsh : T.sh = S.sh) (hu : T.undo = S.undo) (hc : T.chg = S.chg) (hw : ∀ k, S.wait k = none → T.wait k = none) (n : Int) (bs : Bytes) (hn1 : T.chg n = none) (hn2 : T.wait n = none) (hb : bs = T.d.get n)
    (hd : ∀ k, k ≠ n → T.d.get k = S.d.get k) : CI (T.use n bs) := by
  refine ⟨by unfold SS.use; rw [setSh_len, hsh]; exact h.sh, ?_, fun k b hk => ?_⟩
  · show UOk T.undo.reverse T.chg
    rw [hu, hc]; exact h.und
  · rcases use_cached (by rw [hsh]; exact h.sh) n bs k b hk with ⟨rfl, rfl⟩ | ⟨e, hk2⟩
    · exact ⟨hn1, hn2, hb⟩
    · have hk3 : S.cached k = some b := by
        unfold SS.cached SS.shard at *
        rw [of_val (S := S) (by rw [hsh]), hsh] at hk2
        exact hk2
      obtain ⟨h1, h2, h3⟩ := h.chg k b hk3
      exact ⟨by show T.chg k = none; rw [hc]; exact h1, hw k h2, by show b = T.d.get k; rw [hd k e]; exact h3⟩
theorem CI.readS {S : SS} (h : CI S) (n : Int) : CI (S.readS n) := by
  unfold SS.readS
  split
  · unfold SS.read
    cases hg : S.get n with
    | some b => exact ⟨h.sh, h.und, h.chg⟩
    | none =>
      have hc : S.chg n = none ∧ S.wait n = none := by
        unfold SS.get at hg
        split at hg
        · cases hg
        · rename_i e; exact ⟨e, hg⟩
      simp only
      cases hk : (S.shard (S.of n)).2 n with
      | some b => exact h.used (T := { S with found := S.found + 1 }) rfl rfl rfl (fun _ h => h) n b hc.1 hc.2 (h.chg n b hk).2.2 (fun _ _ => rfl)
      | none => exact h.used (T := { S with asked := S.asked + 1 }) rfl rfl rfl (fun _ h => h) n _ hc.1 hc.2 rfl (fun _ _ => rfl)
  · exact h
theorem dwrite_get (d : DS) (n : Int) (b : Bytes) (k : Int) : (d.write n b).get k = if k = n then b else d.get k := by
  unfold DS.get DS.write
  simp only
  by_cases e : k = n
  · rw [if_pos e, if_pos e]
  · rw [if_neg e, if_neg e]
theorem CI.home {S : SS} (h : CI S) (n : Int) : CI (S.home n) := by
  unfold SS.home
  split
  · cases hw : S.wait n with
    | none => exact h
    | some b =>
      simp only
      have hw2 : ∀ k, S.wait k = none → (S.sent n b).wait k = none := fun k hk => by
        show (if k = n then none else S.wait k) = none
        split
        · rfl
        · exact hk
      have hd : ∀ k, k ≠ n → (S.sent n b).d.get k = S.d.get k := fun k hk => by
        show (S.d.write n b).get k = _
        rw [dwrite_get, if_neg hk]
      cases hc : S.chg n with
      | some c =>
        simp only
        refine ⟨h.sh, h.und, fun k x hk => ?_⟩
        obtain ⟨h1, h2, h3⟩ := h.chg k x hk
        refine ⟨h1, hw2 k h2, ?_⟩
        rw [hd k (fun e => by rw [e, hc] at h1; cases h1)]
        exact h3
      | none =>
        simp only
        refine h.used (T := S.sent n b) rfl rfl rfl hw2 n b hc ?_ ?_ hd
        · show (if n = n then none else S.wait n) = none
          rw [if_pos rfl]
        · show b = (S.d.write n b).get n
          rw [dwrite_get, if_pos rfl]
  · exact h
theorem CI.commit {S : SS} (h : CI S) : CI S.commit := by
  refine ⟨h.sh, trivial, fun k b hk => ?_⟩
  obtain ⟨h1, h2, h3⟩ := h.chg k b hk
  refine ⟨rfl, ?_, h3⟩
  show over S.chg S.wait k = none
  unfold over
  rw [h1]; exact h2
theorem UOk.free : ∀ (us : List Und) (c : Int → Option Bytes), UOk us c → UOk (us.map Und.free) c
  | [], _, _ => trivial
  | .w n old :: l, c, h => ⟨h.1, UOk.free l _ h.2⟩
  | .h _ _ _ :: l, c, h => UOk.free l c h
theorem CI.release {S : SS} (h : CI S) : CI S.release := by
  refine ⟨h.sh, ?_, fun k b hk => h.chg k b hk⟩
  show UOk (S.undo.map Und.free).reverse S.chg
  rw [← List.map_reverse]
  exact UOk.free _ _ h.und
theorem CI.fresh (d : DS) {shards : Nat} (room : Nat) (hs : 1 ≤ shards) : CI (SS.fresh d shards room) := by
  refine ⟨by simpa [SS.fresh] using hs, trivial, fun n b h => ?_⟩
  exfalso
  unfold SS.cached SS.shard SS.fresh at h
  simp only [List.getElem?_replicate] at h
  split at h <;> cases h
/-- The last entry. -/
theorem last_of {us : List Und} (h : us ≠ []) : ∃ l u, us = l ++ [u] := ⟨us.dropLast, us.getLast h, (List.dropLast_concat_getLast h).symm⟩
theorem pop_snoc {S : SS} {l : List Und} {u : Und} (h : S.undo = l ++ [u]) : S.pop = { u.back S with undo := l } := by
  unfold SS.pop
  rw [h]
  simp
theorem CI.pop {S : SS} (h : CI S) : CI S.pop := by
  by_cases hu : S.undo = []
  · unfold SS.pop
    rw [hu]; exact h
  · obtain ⟨l, u, he⟩ := last_of hu
    rw [pop_snoc he]
    have hund := h.und
    rw [he, List.reverse_append] at hund
    cases u with
    | w n old =>
      have hund2 : (S.chg n).isSome = true ∧ UOk l.reverse (fun j => if j = n then old else S.chg j) := hund
      refine ⟨h.sh, hund2.2, fun k b hk => ?_⟩
      obtain ⟨h1, h2, h3⟩ := h.chg k b hk
      refine ⟨?_, h2, h3⟩
      show (if k = n then old else S.chg k) = none
      rw [if_neg (fun e => by rw [e] at h1; rw [h1] at hund2; cases hund2.1)]
      exact h1
    | h n cur was =>
      have hund2 : UOk l.reverse S.chg := hund
      unfold Und.back
      simp only
      split
      · exact ⟨h.sh, hund2, fun k b hk => h.chg k b hk⟩
      · exact ⟨h.sh, hund2, fun k b hk => h.chg k b hk⟩
theorem CI.backN : ∀ (k : Nat) {S : SS}, CI S → CI (S.backN k)
  | 0, _, h => h
  | k + 1, _, h => CI.backN k h.pop
theorem CI.back {S : SS} (h : CI S) (m : Int) : CI (S.back m) := by
  unfold SS.back
  split
  · exact h
  · exact h.backN _

/-! ### undoing -/
/-- A state without its cache and its counts. -/
def SS.core (S : SS) : (Int → Option Bytes) × (Int → Option Bytes) × (Int → Bool) × List Und × DS := (S.chg, S.wait, S.held, S.undo, S.d)
theorem core_iff {S T : SS} : S.core = T.core ↔ S.chg = T.chg ∧ S.wait = T.wait ∧ S.held = T.held ∧ S.undo = T.undo ∧ S.d = T.d := by
  unfold SS.core
  simp only [Prod.mk.injEq]
theorem core_pop {S T : SS} (h : S.core = T.core) : S.pop.core = T.pop.core := by
  obtain ⟨h1, h2, h3, h4, h5⟩ := core_iff.1 h
  unfold SS.pop
  rw [h4]
  cases hu : T.undo[T.undo.length - 1]? with
  | none => exact h
  | some u =>
    cases u with
    | w n old => exact core_iff.2 ⟨by show (fun j => if j = n then old else S.chg j) = _; rw [h1]; rfl, h2, h3, rfl, h5⟩
    | h n cur was =>
      unfold Und.back
      simp only
      split
      · exact core_iff.2 ⟨h1, h2, by show (fun j => if j = n then false else S.held j) = _; rw [h3], rfl, h5⟩
      · exact core_iff.2 ⟨h1, h2, h3, rfl, h5⟩
theorem core_backN : ∀ (k : Nat) {S T : SS}, S.core = T.core → (S.backN k).core = (T.backN k).core
  | 0, _, _, h => h
  | k + 1, _, _, h => core_backN k (core_pop h)
theorem pop_write (S : SS) (n : Int) (bs : Bytes) : (S.write n bs).pop.core = S.core := by
  rw [pop_snoc (S := S.write n bs) (l := S.undo) (u := .w n (S.chg n)) rfl]
  refine core_iff.2 ⟨?_, rfl, rfl, rfl, rfl⟩
  show (fun j => if j = n then S.chg n else if j = n then some bs else S.chg j) = S.chg
  funext j
  by_cases e : j = n
  · simp [e]
  · simp [e]
theorem pop_hold (S : SS) (n : Int) : (S.hold n).pop.core = S.core := by
  rw [pop_snoc (S := S.hold n) (l := S.undo) (u := .h n true (S.held n)) rfl]
  unfold Und.back
  simp only [true_and]
  split
  · rename_i h
    refine core_iff.2 ⟨rfl, rfl, ?_, rfl, rfl⟩
    show (fun j => if j = n then false else if j = n then true else S.held j) = S.held
    funext j
    by_cases e : j = n
    · subst e; simp [h]
    · simp [e]
  · rename_i h
    refine core_iff.2 ⟨rfl, rfl, ?_, rfl, rfl⟩
    show (fun j => if j = n then true else S.held j) = S.held
    funext j
    by_cases e : j = n
    · subst e; simp at h; simp [h]
    · simp [e]
/-- What came since a mark can be undone. -/
structure Since (S0 S : SS) : Prop where
  ex : ∃ k, S.undo.length = S0.undo.length + k ∧ (S.backN k).core = S0.core
  wait : S.wait = S0.wait
  d : S.d = S0.d
theorem Since.start (S : SS) : Since S S := ⟨⟨0, rfl, rfl⟩, rfl, rfl⟩
theorem Since.writeS {S0 S : SS} (h : Since S0 S) (n : Int) (bs : Bytes) : Since S0 (S.writeS n bs) := by
  unfold SS.writeS
  split
  · obtain ⟨k, h1, h2⟩ := h.ex
    refine ⟨⟨k + 1, ?_, ?_⟩, h.wait, h.d⟩
    · show (S.undo ++ [_]).length = _
      simp; omega
    · show ((S.write n bs).pop.backN k).core = _
      rw [core_backN k (pop_write S n bs)]; exact h2
  · exact h
theorem Since.holdS {S0 S : SS} (h : Since S0 S) (n : Int) : Since S0 (S.holdS n) := by
  unfold SS.holdS
  split
  · obtain ⟨k, h1, h2⟩ := h.ex
    refine ⟨⟨k + 1, ?_, ?_⟩, h.wait, h.d⟩
    · show (S.undo ++ [_]).length = _
      simp; omega
    · show ((S.hold n).pop.backN k).core = _
      rw [core_backN k (pop_hold S n)]; exact h2
  · exact h
theorem read_core (S : SS) (n : Int) : (S.readS n).core = S.core := by
  have h := read_parts S n
  exact core_iff.2 ⟨h.2.1, h.2.2.1, h.2.2.2.1, h.2.2.2.2.1, h.1⟩
theorem Since.readS {S0 S : SS} (h : Since S0 S) (n : Int) : Since S0 (S.readS n) := by
  obtain ⟨k, h1, h2⟩ := h.ex
  have hp := read_parts S n
  exact ⟨⟨k, by rw [hp.2.2.2.2.1]; exact h1, by rw [core_backN k (read_core S n)]; exact h2⟩, by rw [hp.2.2.1]; exact h.wait, by rw [hp.1]; exact h.d⟩
theorem Since.back {S0 S : SS} (h : Since S0 S) : S.backE S0.undo.length = 0 ∧ (S.back S0.undo.length).core = S0.core := by
  obtain ⟨k, h1, h2⟩ := h.ex
  have e : ¬ (((S0.undo.length : Nat) : Int) < 0 ∨ (S.undo.length : Int) < ((S0.undo.length : Nat) : Int)) := by omega
  refine ⟨by unfold SS.backE; rw [if_neg e], ?_⟩
  unfold SS.back
  rw [if_neg e, show S.undo.length - ((S0.undo.length : Nat) : Int).toNat = k by omega]
  exact h2
theorem core_val {S T : SS} (h : S.core = T.core) (n : Int) : S.val n = T.val n ∧ S.has n = T.has n ∧ S.isHeld n = T.isHeld n ∧ S.changed = T.changed ∧ S.undo = T.undo := by
  obtain ⟨h1, h2, h3, h4, h5⟩ := core_iff.1 h
  have hh : S.has n = T.has n := by unfold SS.has; rw [h5]
  exact ⟨by unfold SS.val; rw [h1, h2, h5], hh, by unfold SS.isHeld; rw [hh, h3], by unfold SS.changed; rw [h5, h1], h4⟩
end Go.Proofs.Ytomoliickggghaa.Mem

namespace Go.Proofs.Ytomoliickggghaa.Mem
open Go.RowKit Go.Proofs.Ytomoliickggghaa Go.Proofs.Ytomoliickggghaa.Wire
set_option maxHeartbeats 8000000
set_option maxRecDepth 100000
set_option linter.unusedVariables false
set_option linter.unusedSimpArgs false

theorem MapB.len {w : World} {col : Col} {B r b N : Nat} {m : Int → Option Bytes} (h : MapB w col B r b N m) {k : Int} {bs : Bytes} (hk : m k = some bs) : bs.length = 256 := by
  obtain ⟨f, _, hp⟩ := h.ex
  rcases hp k with ⟨_, e⟩ | ⟨v, bs', _, e, hd⟩
  · rw [e] at hk; cases hk
  · rw [e] at hk
    injection hk with hk
    subst hk
    obtain ⟨g, cap, _, _, _, _, hl, _⟩ := hd.form
    exact hl
theorem StoreAt.len {w : World} {col : Col} {B c p : Nat} {S : SS} (h : StoreAt w col B c p S) (n : Int) : (S.bytes n).length = 256 := by
  obtain ⟨L, h⟩ := h
  unfold SS.bytes SS.get
  cases hc : S.chg n with
  | some b => exact h.chg.len hc
  | none =>
    cases hw : S.wait n with
    | some b => exact h.wait.len hw
    | none =>
      simp only
      cases hk : (S.shard (S.of n)).2 n with
      | none => exact DS.get_len h.d n
      | some b =>
        simp only
        unfold SS.shard at hk
        cases hs : S.sh[S.of n]? with
        | none => rw [hs] at hk; cases hk
        | some y =>
          rw [hs] at hk
          have hl := (List.getElem?_eq_some_iff.1 hs).1
          obtain ⟨x, hx⟩ : ∃ x, L.sh[S.of n]? = some x := ⟨_, List.getElem?_eq_getElem (by rw [h.shl]; exact hl)⟩
          exact (h.sh _ x y hx hs).dat.len hk
/-- A law's own row (colour 5) of rows of a block's bytes. -/
structure LstAt (w : World) (col : Col) (B : Nat) (v : Value) (n : Nat) (f : Nat → Bytes) : Prop where
  ex : ∃ vs : List Value, Row w col B 5 34 1 v n vs ∧ ∀ (i : Nat) (u : Value), vs[i]? = some u → Row w col B 0 5 1 u 256 (bvl (f i))
theorem LstAt.keep {w w' : World} {a b : Col} {B n lo hi : Nat} {v : Value} {f : Nat → Bytes} (h : LstAt w a B v n f) (ht : Tch lo hi a b w w') (hr : 6 ≤ lo) : LstAt w' b B v n f := by
  obtain ⟨vs, h1, h2⟩ := h.ex
  exact ⟨vs, h1.keep ht (by omega), fun i v hv => (h2 i v hv).keep ht (by omega)⟩
theorem LstAt.nil (w : World) (col : Col) (B : Nat) (f : Nat → Bytes) : LstAt w col B (.slice none 0 0) 0 f := ⟨[], Row.nil _ _ _ _ _ _, fun i u h => by cases h⟩
theorem LstAt.at_ {w : World} {a : Col} {B n k : Nat} {v : Value} {f : Nat → Bytes} (h : LstAt w a B v n f) (hk : k < n) : ∃ g cap g2 c2, v = .slice (some ⟨g, 0, none⟩) n cap ∧ w.cell? ⟨g, k, none⟩ = some (.slice (some ⟨g2, 0, none⟩) 256 c2) ∧ BytesAt w (some ⟨g2, 0, none⟩) 256 (f k) := by
  obtain ⟨vs, h1, h2⟩ := h.ex
  have hl : vs.length = n := by have := h1.own.1; omega
  obtain ⟨u, hu⟩ : ∃ u, vs[k]? = some u := ⟨_, List.getElem?_eq_getElem (by omega)⟩
  obtain ⟨g, cap, cur, rfl, _⟩ := own_form h1.own (by omega)
  have hr := h2 k u hu
  obtain ⟨g2, c2, cur2, rfl, _⟩ := own_form hr.own (by omega)
  exact ⟨g, cap, g2, c2, rfl, by rw [h1.own.cellAt k (by omega)]; exact hu, BytesAt.of_own hr.own⟩
/-- What was appended to. -/
theorem LstAt.snoc {w w' : World} {a a' : Col} {B n lo hi : Nat} {v' u : Value} {f : Nat → Bytes} {vs : List Value} (h2 : ∀ (i : Nat) (u : Value), vs[i]? = some u → Row w a B 0 5 1 u 256 (bvl (f i))) (hl : vs.length = n)
    (hr : Row w' a' B 5 34 1 v' (n + 1) (vs ++ [u])) (hu : Row w a B 0 5 1 u 256 (bvl (f n))) (ht : Tch lo hi a a' w w') (hlo : 1 ≤ lo) : LstAt w' a' B v' (n + 1) f := by
  refine ⟨vs ++ [u], hr, fun i x hx => ?_⟩
  by_cases hi : i < vs.length
  · rw [List.getElem?_append_left hi] at hx
    exact (h2 i x hx).keep ht (by omega)
  · rw [List.getElem?_append_right (by omega)] at hx
    have h0 : i - vs.length = 0 := by
      have := (List.getElem?_eq_some_iff.1 hx).1
      simp at this; omega
    rw [h0] at hx
    injection hx with hx
    subst hx
    obtain rfl : i = n := by omega
    exact hu.keep ht (by omega)
theorem info_bool : (Try.prog.info? 4).map (fun i => (i.zero, i.size, i.bytes)) = some (some (.bool false), 1, 1) := by kernel_rfl
/-- A law's own row (colour 6) of Booleans. -/
def bools (f : Nat → Bool) (n : Nat) : List Value := (List.range n).map fun i => .bool (f i)
theorem bools_succ (f : Nat → Bool) (n : Nat) : bools f (n + 1) = bools f n ++ [.bool (f n)] := by
  unfold bools
  rw [List.range_succ, List.map_append]; rfl
theorem bools_at (f : Nat → Bool) {n k : Nat} (h : k < n) : (bools f n)[k]? = some (.bool (f k)) := by
  unfold bools
  rw [List.getElem?_map, List.getElem?_range h]; rfl
theorem bools_len (f : Nat → Bool) (n : Nat) : (bools f n).length = n := by simp [bools]
theorem home_parts (S : SS) (n : Int) : (S.home n).d.N = S.d.N ∧ (S.home n).cnt = S.cnt ∧ (S.home n).d.pend.length + (S.home n).d.ops ≤ S.d.pend.length + S.d.ops + 2 ∧ (S.home n).chg = S.chg ∧ (S.home n).undo = S.undo ∧ (S.home n).d.at_ = S.d.at_ := by
  have h : ∀ T : SS, T = S.home n → T.d.N = S.d.N ∧ T.cnt = S.cnt ∧ T.d.pend.length + T.d.ops ≤ S.d.pend.length + S.d.ops + 2 ∧ T.chg = S.chg ∧ T.undo = S.undo ∧ T.d.at_ = S.d.at_ := fun T hT => by
    unfold SS.home at hT
    split at hT
    · split at hT
      · split at hT
        · subst hT
          exact ⟨rfl, rfl, by show (S.d.pend ++ [_]).length + (S.d.ops + 1) ≤ _; simp; omega, rfl, rfl, rfl⟩
        · subst hT
          exact ⟨rfl, rfl, by show (S.d.pend ++ [_]).length + (S.d.ops + 1) ≤ _; simp; omega, rfl, rfl, rfl⟩
      · subst hT; exact ⟨rfl, rfl, by omega, rfl, rfl, rfl⟩
    · subst hT; exact ⟨rfl, rfl, by omega, rfl, rfl, rfl⟩
  exact h _ rfl
theorem holdS_parts (S : SS) (n : Int) : (S.holdS n).d = S.d ∧ (S.holdS n).cnt ≤ S.cnt + 1 ∧ (S.holdS n).chg = S.chg := by
  have h := hold_parts S n
  unfold SS.holdS
  split
  · exact ⟨h.1, by omega, h.2.1⟩
  · exact ⟨rfl, by omega, rfl⟩
theorem backN_parts : ∀ (k : Nat) (S : SS), (S.backN k).d = S.d ∧ (S.backN k).cnt ≤ S.cnt ∧ (S.backN k).wait = S.wait
  | 0, S => ⟨rfl, Nat.le_refl _, rfl⟩
  | k + 1, S => by
    obtain ⟨h1, h2, h3⟩ := backN_parts k S.pop
    have hp : S.pop.d = S.d ∧ S.pop.cnt ≤ S.cnt ∧ S.pop.wait = S.wait := by
      unfold SS.pop
      split
      · rename_i u hu
        have hb := back_same S u
        refine ⟨hb.2.1, ?_, ?_⟩
        · unfold SS.cnt
          simp only [List.length_take, hb.2.2.2.2.1, hb.2.2.2.2.2]
          omega
        · cases u with
          | w n old => rfl
          | h n cur was =>
            unfold Und.back
            simp only
            split <;> rfl
      · exact ⟨rfl, Nat.le_refl _, rfl⟩
    exact ⟨h1.trans hp.1, Nat.le_trans h2 hp.2.1, h3.trans hp.2.2⟩
theorem back_parts (S : SS) (m : Int) : (S.back m).d = S.d ∧ (S.back m).cnt ≤ S.cnt ∧ (S.back m).wait = S.wait := by
  unfold SS.back
  split
  · exact ⟨rfl, Nat.le_refl _, rfl⟩
  · exact backN_parts _ S
theorem Since.of_core {S0 S : SS} (h : S.core = S0.core) : Since S0 S := by
  obtain ⟨h1, h2, h3, h4, h5⟩ := core_iff.1 h
  exact ⟨⟨0, by rw [h4]; rfl, h⟩, h2, h5⟩
end Go.Proofs.Ytomoliickggghaa.Mem
