
/-
  MEMORY WITH OWNERS: a map[int]T, told by a function.
  A ROUND OF A RANGE OVER A FUNCTION, walked by the words of a plain walk: at the wide fence what is shown of a region without a fence holds in a round too, where no operation defers. No program in sight.
  WHAT A FRAME HANDS OVER, more: a row of structs of three numbers (a script).
  layer 7: what Lay makes, in memory; its closure; slices.Chunk, walked.
  slices.Chunk, walked, at two types.
  slices.Chunk, walked, at ints.
  layer 7: what Lay has laid lies on where a block that is no cells turns; what a transaction's parts say, plain.
  THE WALK of log.Lay.
-/
import Derived.Test.YtifamhmiibhohaaKR5N9
import Derived.Maps.RangeWalk
import Derived.RangeFuncNested
import Derived.RangeFuncBound
import Derived.RangeFuncCalls
import Derived.RangeFuncLeaves
import Derived.RangeFuncWrites
import Derived.Shelf.Abstract
import Derived.Shelf.RegionOpen
import Derived.WalkKit
import Derived.OwnWalkIn
import Derived.TacticsInMore
import Derived.LoopNIn
import Derived.LoopIn
import Derived.Test.YtifamhmiibhohaaKR5N7
import Derived.Test.YtifamhmiibhohaaKR5N6
import Derived.Test.YtifamhmiibhohaaKR5N3
import Derived.Deep.Slices
import Derived.Deep.DeepCutAuto
import Derived.Deep.CutBlock
import Derived.Test.YtifamhmiibhohaaKR5N8
namespace Go.Proofs.Ytifamhmiibhohaa.Mem
open Go.RowKit Go.Proofs.Ytifamhmiibhohaa Go.ChangeMaps Go.MapKept
set_option maxHeartbeats 4000000
set_option maxRecDepth 100000
set_option linter.unusedVariables false
set_option linter.unusedSimpArgs false

/-- Elements read as themselves. -/
def RV (v : Value) : Option (DataW Value × List MemPlace) := some (.held v, [])
theorem RV_mk (v : Value) : RV v = some (.held v, []) := rfl
theorem int_key : Maps.Keyed Try.prog 3 := Maps.int_keyed Try.underlying3
theorem wf_key {k : Int} (h : -9223372036854775808 ≤ k ∧ k ≤ 9223372036854775807) : (Lit.int .i64 k).wf = true := by
  have h1 : IntKind.i64.min = -9223372036854775808 := by decide
  have h2 : IntKind.i64.max = 9223372036854775807 := by decide
  simp [Lit.wf, h1, h2]; exact h
theorem key_wf {k : Int} (h : (Lit.int .i64 k).wf = true) : -9223372036854775808 ≤ k ∧ k ≤ 9223372036854775807 := by
  have h1 : IntKind.i64.min = -9223372036854775808 := by decide
  have h2 : IntKind.i64.max = 9223372036854775807 := by decide
  simp [Lit.wf, h1, h2] at h; exact h
theorem key_mk {k : Int} (h : -9223372036854775808 ≤ k ∧ k ≤ 9223372036854775807) : keyOf Try.prog 3 (.int .i64 k) = some (.int .i64 k) := Maps.keyOf_int_mk Try.underlying3 (wf_key h)
theorem key_lit {k : Int} : WideAt.IsKeyLit (.int .i64 k) := by trivial
abbrev KB (k : Int) : Prop := -9223372036854775808 ≤ k ∧ k ≤ 9223372036854775807

theorem count_one {l : List Nat} (h : l.Pairwise (· ≠ ·)) (n : Nat) : l.length ≤ (l.filter (· ≠ n)).length + 1 := by
  induction l with
  | nil => simp
  | cons x l ih =>
    rw [List.pairwise_cons] at h
    by_cases e : x = n
    · subst e
      have : l.filter (· ≠ x) = l := List.filter_eq_self.2 fun y hy => by simpa using (h.1 y hy).symm
      rw [List.filter_cons_of_neg (by simp), this]; simp
    · rw [List.filter_cons_of_pos (by simpa using e)]
      have := ih h.2
      simp only [List.length_cons]; omega
theorem pigeon : ∀ (N : Nat) (l : List Nat), l.Pairwise (· ≠ ·) → (∀ x ∈ l, x < N) → l.length ≤ N
  | 0, l, _, h => by
    cases l with
    | nil => exact Nat.le_refl _
    | cons x l => exact absurd (h x (List.mem_cons_self)) (by omega)
  | N + 1, l, hp, h => by
    have h1 := count_one hp N
    have h2 := pigeon N (l.filter (· ≠ N)) (hp.filter _) fun x hx => by
      rw [List.mem_filter] at hx
      have := h x hx.1
      have h3 : x ≠ N := by simpa using hx.2
      omega
    omega

/-- Block b is a map[int]T with the entries of f, whose keys are 0 to N - 1. -/
structure MapR (w : World) (col : Col) (B r b N : Nat) (f : Int → Option Value) : Prop where
  own : ∃ n D, w.ownsMap Try.prog 3 RV b n D ∧ (∀ k, KB k → Maps.has D (.int .i64 k) = (f k).isSome) ∧ (∀ k, KB k → ∀ v, f k = some v → ∀ z, D.atKey (.int .i64 k) z = .held v)
  c : col b = r
  base : B ≤ b
  sup : ∀ k v, f k = some v → 0 ≤ k ∧ k < (N : Int)
  small : N ≤ 1048576
open Go.WideElems (Fit rg rd_key rg_of) in
theorem has_key {w : World} {b n : Nat} {D : DataW Value} (h : w.ownsMap Try.prog 3 RV b n D) : ∃ es : List (Lit × DataW Value), D = .map es ∧ es.Pairwise (fun p q => p.1 ≠ q.1) ∧ ∀ p ∈ es, ∃ k, p.1 = .int .i64 k ∧ KB k := by
  obtain ⟨es1, hD1, hp1⟩ := h.tidy int_key
  refine ⟨es1, hD1, hp1, fun p hp => ?_⟩
  obtain ⟨es, clock, _, F, _, hD⟩ := h
  rw [hD1] at hD
  injection hD with hD
  rw [hD] at hp
  obtain ⟨x, hx, rfl⟩ := List.mem_map.1 (mem_sorted.1 hp)
  obtain ⟨y, hy⟩ := F.reads x hx
  rw [rg_of hy]
  obtain ⟨k, _, h2, h3⟩ := Maps.keyOf_int_inv Try.underlying3 (rd_key hy)
  exact ⟨k, h2, key_wf h3⟩
theorem sharp {w : World} {b n : Nat} {D : DataW Value} (h : w.ownsMap Try.prog 3 RV b n D) : w.ownsMap Try.prog 3 RV b (Maps.size D) D := by
  obtain ⟨es, clock, hb, F, hs, hD⟩ := h
  refine ⟨es, clock, hb, F, ?_, hD⟩
  rw [hD]
  simp [Maps.size, length_sorted]
section
variable {w : World} {col : Col} {B r b N : Nat} {f : Int → Option Value}
theorem MapR.size (h : MapR w col B r b N f) {n : Nat} {D : DataW Value} (hm : w.ownsMap Try.prog 3 RV b n D) (hh : ∀ k, KB k → Maps.has D (.int .i64 k) = (f k).isSome) : Maps.size D ≤ N := by
  obtain ⟨es, rfl, hp, hk⟩ := has_key hm
  have hin : ∀ p ∈ es, ∃ k : Int, p.1 = .int .i64 k ∧ 0 ≤ k ∧ k < (N : Int) := fun p hpm => by
    obtain ⟨k, h1, h2⟩ := hk p hpm
    have h3 := hh k h2
    rw [Maps.has_eq] at h3
    have h4 : es.any (fun p => p.1.sameKey (.int .i64 k)) = true := by
      rw [List.any_eq_true]
      exact ⟨p, hpm, by rw [h1]; simp [Lit.sameKey]⟩
    rw [h4] at h3
    cases hf : f k with
    | none => rw [hf] at h3; cases h3
    | some v => exact ⟨k, h1, h.sup k v hf⟩
  show es.length ≤ N
  have key : ∀ (p : Lit × DataW Value), ∃ x : Nat, ∀ k, p.1 = .int .i64 k → x = k.toNat := fun p => by
    cases hp : p.1 with
    | int q k => exact ⟨k.toNat, fun k' e => by injection e with _ e; rw [e]⟩
    | _ => exact ⟨0, fun k e => by cases e⟩
  have := pigeon N (es.map fun p => (key p).choose) (by
    rw [List.pairwise_map]
    refine List.Pairwise.imp_of_mem ?_ hp
    intro p q hpm hqm hne e
    obtain ⟨k1, e1, a1, b1⟩ := hin p hpm
    obtain ⟨k2, e2, a2, b2⟩ := hin q hqm
    have c1 := (key p).choose_spec k1 e1
    have c2 := (key q).choose_spec k2 e2
    apply hne
    rw [e1, e2]
    have : k1 = k2 := by omega
    rw [this]) (fun x hx => by
    obtain ⟨p, hpm, rfl⟩ := List.mem_map.1 hx
    obtain ⟨k1, e1, a1, b1⟩ := hin p hpm
    have c1 := (key p).choose_spec k1 e1
    omega)
  rwa [List.length_map] at this
theorem MapR.lt (h : MapR w col B r b N f) : b < w.heap.size := by
  obtain ⟨n, D, hm, _⟩ := h.own
  exact hm.lt
theorem MapR.keep {w' : World} {col' : Col} {lo hi : Nat} (h : MapR w col B r b N f) (ht : Tch lo hi col col' w w') (hr : ¬ (lo ≤ r ∧ r < hi)) : MapR w' col' B r b N f := by
  obtain ⟨n, D, ⟨es, clock, hb, hm⟩, hh⟩ := h.own
  obtain ⟨k1, k2⟩ := ht.keep hb (by rw [h.c]; exact hr)
  exact ⟨⟨n, D, ⟨es, clock, k1, hm⟩, hh⟩, k2.trans h.c, h.base, h.sup, h.small⟩
theorem MapR.ext {g : Int → Option Value} (h : MapR w col B r b N f) (hfg : ∀ k, f k = g k) : MapR w col B r b N g := by
  obtain rfl : f = g := funext hfg
  exact h
theorem MapR.look {t e : TypeId} (h : MapR w col B r b N f) (ht : Try.prog.underlying t = some (.map 3 e)) {z : Value} (hz : (zeroValue e).run Try.prog w = .ok z w) {k : Int} (hk : KB k) :
    (Instr.lookup t (.map (some b)) (.int .i64 k) false).run Try.prog w = .ok ((f k).getD z) w := by
  obtain ⟨n, D, hm, hh, ha⟩ := h.own
  obtain ⟨v, ps, hr, hv⟩ := hm.lookup int_key ht hz (RV_mk z) (key_mk hk)
  rw [hr]
  rw [RV_mk] at hv
  injection hv with hv
  injection hv with hv _
  cases hf : f k with
  | none =>
    have := hh k hk
    rw [hf] at this
    rw [Maps.atKey_of_not_has this] at hv
    injection hv with hv
    rw [hv]; rfl
  | some u =>
    rw [ha k hk u hf] at hv
    injection hv with hv
    rw [hv]; rfl
theorem MapR.update {t e : TypeId} (h : MapR w col B r b N f) (ht : Try.prog.underlying t = some (.map 3 e)) {k : Int} (hk : 0 ≤ k ∧ k < (N : Int)) (v : Value) :
    ∃ w', (Instr.mapUpdate t (.map (some b)) (.int .i64 k) v).run Try.prog w = .ok () w' ∧ MapR w' col B r b N (fun j => if j = k then some v else f j) ∧ w.grownBy w' (some b) := by
  obtain ⟨n, D, hm, hh, ha⟩ := h.own
  have hN := h.small
  have hkb : KB k := ⟨by omega, by omega⟩
  have hs := h.size hm hh
  have ho := sharp hm
  obtain ⟨w', hr, hown, hg⟩ := ho.update int_key ht (by unfold maxLen; omega) (key_mk hkb) (RV_mk v)
  refine ⟨w', hr, ⟨⟨_, _, hown, fun j hj => ?_, fun j hj u hu z => ?_⟩, h.c, h.base, fun j u hu => ?_, hN⟩, hg⟩
  · by_cases e : j = k
    · subst e
      rw [Maps.has_put_same ho.isMap key_lit, if_pos rfl]; rfl
    · rw [Maps.has_put_other (by intro e2; injection e2 with _ e2; exact e e2), if_neg e]; exact hh j hj
  · by_cases e : j = k
    · subst e
      rw [if_pos rfl] at hu
      injection hu with hu
      rw [Maps.atKey_put_same ho.isMap key_lit, hu]
    · rw [if_neg e] at hu
      rw [Maps.atKey_put_other (by intro e2; injection e2 with _ e2; exact e e2)]; exact ha j hj u hu z
  · by_cases e : j = k
    · subst e; exact hk
    · rw [if_neg e] at hu; exact h.sup j u hu
theorem MapR.drop {t e : TypeId} (h : MapR w col B r b N f) (ht : Try.prog.underlying t = some (.map 3 e)) {k : Int} (hk : KB k) (ty : TypeId) :
    ∃ w', (Builtin.delete_ #[t, 3] ty #[.map (some b), .int .i64 k]).run Try.prog w = .ok (.tuple #[]) w' ∧ MapR w' col B r b N (fun j => if j = k then none else f j) ∧ w.grownBy w' (some b) := by
  obtain ⟨n, D, hm, hh, ha⟩ := h.own
  obtain ⟨w', hr, hown, hg⟩ := hm.drop int_key ht (key_mk hk) ty
  refine ⟨w', hr, ⟨⟨_, _, hown, fun j hj => ?_, fun j hj u hu z => ?_⟩, h.c, h.base, fun j u hu => ?_, h.small⟩, hg.grown⟩
  · by_cases e : j = k
    · subst e
      rw [Maps.has_del_same, if_pos rfl]; rfl
    · rw [Maps.has_del_other (by intro e2; injection e2 with _ e2; exact e e2), if_neg e]; exact hh j hj
  · by_cases e : j = k
    · subst e; rw [if_pos rfl] at hu; cases hu
    · rw [if_neg e] at hu
      rw [Maps.atKey_del_other (by intro e2; injection e2 with _ e2; exact e e2)]; exact ha j hj u hu z
  · by_cases e : j = k
    · subst e; rw [if_pos rfl] at hu; cases hu
    · rw [if_neg e] at hu; exact h.sup j u hu
theorem MapR.made (w : World) (col : Col) (B r N : Nat) (hB : B ≤ w.heap.size) (hN : N ≤ 1048576) (hc : col w.heap.size = r) : MapR (w.alloc (.map #[] 0)) col B r w.heap.size N (fun _ => none) :=
  ⟨⟨0, .map [], World.ownsMap_made _ _ _ _, fun _ _ => rfl, (fun _ _ _ h => by cases h)⟩, hc, hB, (fun _ _ h => by cases h), hN⟩
theorem MapR.clear {t e : TypeId} (h : MapR w col B r b N f) (ht : Try.prog.underlying t = some (.map 3 e)) (ty : TypeId) :
    ∃ w', (Builtin.clear_ #[t] ty #[.map (some b)]).run Try.prog w = .ok (.tuple #[]) w' ∧ MapR w' col B r b N (fun _ => none) ∧ w.grownBy w' (some b) := by
  obtain ⟨n, D, ⟨es, clock, hb, F, hs, hD⟩, hh⟩ := h.own
  refine ⟨setBlock w b (.map #[] clock), ?_, ⟨⟨0, .map [], ⟨#[], clock, heap_setBlock_same hb _, ⟨by simp, stamped_empty clock, by simp⟩, Nat.le_refl _, rfl⟩, fun _ _ => rfl, (fun _ _ _ h => by cases h)⟩, h.c, h.base, (fun _ _ h => by cases h), h.small⟩, ⟨rfl, rfl, rfl, by simp [setBlock], fun i _ hi => heap_setBlock_other hb _ (fun e => hi (by rw [e]))⟩⟩
  simp [Builtin.clear_, run_underlying ht, MapKept.run_getObj_map hb, Result.andThen]
  rw [run_setObj_map _ hb]; rfl
end
/-! ### at the operation, for the walk -/
section
variable (w : World) {ops : Array Oper} {rest : List Oper} {o : Oper} {a : Act} {Q : Exit → Act → World → Prop}
theorem map_put (hg : o.guard = none) (m x v : Operand) (t : TypeId) (hop : o.op = Op.mapUpdate t m x v) (e : TypeId) (ht : Try.prog.underlying t = some (.map 3 e)) (col : Col) (B r b N : Nat) (f : Int → Option Value)
    (hm : a.eval m = .map (some b)) (h : MapR w col B r b N f) (k : Int) (hx : a.eval x = .int .i64 k) (hk : 0 ≤ k ∧ k < (N : Int)) (val : Value) (hv : a.eval v = val)
    (hK : ∀ w', MapR w' col B r b N (fun j => if j = k then some val else f j) → Tch r (r + 1) col col w w' → wpList Try.prog ops Q rest (a.put o.dst undef) w') : wpList Try.prog ops Q (o :: rest) a w := by
  refine wpList_plain hg fun K' hK' => ?_
  obtain ⟨w', hrun, r1, r2⟩ := h.update ht hk val
  unfold Oper.wp
  simp [execOp, hop, hm, hx, hv, hrun, Result.andThen]
  exact hK' _ _ (hK w' r1 (Tch.of_grown r2 (fun g e _ => by injection e with e; subst e; rw [h.c]; omega)))
theorem map_drop (hg : o.guard = none) (m x : Operand) (t : TypeId) (hop : o.op = Op.call { callee := Callee.builtin Builtin.delete, args := #[m, x], argTypes := #[t, 3] }) (e : TypeId) (ht : Try.prog.underlying t = some (.map 3 e)) (col : Col) (B r b N : Nat) (f : Int → Option Value)
    (hm : a.eval m = .map (some b)) (h : MapR w col B r b N f) (k : Int) (hx : a.eval x = .int .i64 k) (hk : KB k)
    (hK : ∀ w', MapR w' col B r b N (fun j => if j = k then none else f j) → Tch r (r + 1) col col w w' → wpList Try.prog ops Q rest (a.put o.dst (.tuple #[])) w') : wpList Try.prog ops Q (o :: rest) a w := by
  refine wpList_plain hg fun K' hK' => ?_
  obtain ⟨w', hrun, r1, r2⟩ := h.drop ht hk o.type
  unfold Oper.wp
  simp [execOp, hop, resolve, invoke, builtin, hm, hx, hrun, Result.andThen]
  exact hK' _ _ (hK w' r1 (Tch.of_grown r2 (fun g e _ => by injection e with e; subst e; rw [h.c]; omega)))
theorem map_clear (hg : o.guard = none) (m : Operand) (t : TypeId) (hop : o.op = Op.call { callee := Callee.builtin Builtin.clear, args := #[m], argTypes := #[t] }) (e : TypeId) (ht : Try.prog.underlying t = some (.map 3 e)) (col : Col) (B r b N : Nat) (f : Int → Option Value)
    (hm : a.eval m = .map (some b)) (h : MapR w col B r b N f)
    (hK : ∀ w', MapR w' col B r b N (fun _ => none) → Tch r (r + 1) col col w w' → wpList Try.prog ops Q rest (a.put o.dst (.tuple #[])) w') : wpList Try.prog ops Q (o :: rest) a w := by
  refine wpList_plain hg fun K' hK' => ?_
  obtain ⟨w', hrun, r1, r2⟩ := h.clear ht o.type
  unfold Oper.wp
  simp [execOp, hop, resolve, invoke, builtin, hm, hrun, Result.andThen]
  exact hK' _ _ (hK w' r1 (Tch.of_grown r2 (fun g e _ => by injection e with e; subst e; rw [h.c]; omega)))
end
end Go.Proofs.Ytifamhmiibhohaa.Mem

namespace Go.Proofs.Ytifamhmiibhohaa
open Go.RowKit
section
variable {P : Program} {ops : Array Oper} {md : Region.Mode} {Q : Exit → Act → World → Prop} {l n : Nat}
def noDefer (ops : List Oper) : Bool := ops.all fun o => match o.op with
  | .defer _ => false
  | _ => true
theorem noDefer_spec {l : List Oper} (h : noDefer l = true) {o : Oper} (ho : o ∈ l) : ∀ c, o.op ≠ .defer c := fun c e => by
  have := List.all_eq_true.1 h o ho
  rw [e] at this
  cases this
theorem rows_round {row : String} {args : Array Value} {w : World} {R : Value → World → Prop} (h : Rows P row args w R) : RowsIn (Fence.wide.inRound l) n P row args w R := fun c cs _ => by
  obtain ⟨v, w', r, s⟩ := h c cs
  exact ⟨v, w', r, stepsIn_wide.2 s⟩
theorem oper_round {o : Oper} {a : Act} {w : World} {K : Act → World → Prop} (hd : ∀ c, o.op ≠ .defer c) (h : o.wp P a w K Q) : o.wpIn (Fence.wide.inRound l) n P a w K Q := by
  refine ⟨fun _ _ => trivial, ?_⟩
  rw [Oper.semAt_eq _ _ _ hd]
  unfold Oper.wp at h
  generalize (execOp a.eval o).run P w = r at *
  cases r with
  | halt x w' => cases x <;> simp only [Oper.upon, Oper.uponIn] at h ⊢ <;> exact h
  | ok x w' =>
    cases x <;> simp only [Oper.upon, Oper.uponIn] at h ⊢ <;>
      first
        | exact h
        | exact ⟨fun e => (by cases e), CallsIn.inRound l (callsIn_wide.2 (h.mono fun e w'' he => by cases e <;> exact he))⟩
        | exact ⟨fun e => (by cases e), rows_round h⟩
theorem list_round (hQ : ¬ LetsOut Q) : ∀ (rest : List Oper) (a : Act) (w : World), noDefer rest = true → wpList P ops Q rest a w → wpListIn (Fence.wide.inRound l) n P ops Q rest a w
  | [], _, _, _, h => h
  | o :: rest, a, w, hd, h => by
    have hd2 : noDefer rest = true := by simp only [noDefer, List.all_cons, Bool.and_eq_true] at hd ⊢; exact hd.2
    unfold wpListIn
    unfold wpList at h
    split
    · rename_i hw
      rw [if_pos hw] at h
      rcases h with h | h
      · exact Oper.wpIn_mono (fun a w h => list_round hQ rest a w hd2 h) (oper_round (noDefer_spec hd (by simp)) h)
      · exact absurd h.2 hQ
    · rename_i hw
      rw [if_neg hw] at h
      exact ⟨fun _ _ => trivial, list_round hQ rest _ w hd2 h⟩
theorem op_round (hQ : ¬ LetsOut Q) (hd : noDefer ops.toList = true) {i : Nat} {K : Act → World → Prop} {a : Act} {w : World} (h : wpOp P ops Q i K a w) : wpOpIn (Fence.wide.inRound l) n P ops Q i K a w := by
  unfold wpOp at h
  unfold wpOpIn
  split
  · rename_i he; simp only [he] at h; exact h
  · rename_i o ho
    simp only [ho] at h
    split
    · rename_i hw
      rw [if_pos hw] at h
      rcases h with h | h
      · exact oper_round (noDefer_spec hd (Array.mem_toList_iff.2 (Array.mem_of_getElem? ho))) h
      · exact absurd h.2 hQ
    · rename_i hw
      rw [if_neg hw] at h
      exact ⟨fun _ _ => trivial, h⟩
theorem any_round (hQ : ¬ LetsOut Q) (hd : noDefer ops.toList = true) : ∀ (fuel : Nat) (listed : Array Bool) (a : Act) (w : World), wpAny P md ops Q fuel listed a w → wpAnyIn (Fence.wide.inRound l) n P md ops Q fuel listed a w
  | 0, _, _, _, h => h
  | fuel + 1, _, _, _, h => ⟨h.1, fun i hi => wpOpIn_mono (fun a w h => any_round hQ hd fuel _ a w h) (op_round hQ hd (h.2 i hi))⟩
/-- A region that keeps the text's order, in a round. -/
theorem region_round {id : Nat} {a : Act} {w : World} {ol : List Oper} (hQ : ¬ LetsOut Q) (hd : noDefer ol = true) (h : wpList P ol.toArray Q ol a w) : (Code.region id ol.toArray false).wpIn (Fence.wide.inRound l) n P Q a w :=
  wpIn_region_lit (list_round hQ ol a w hd h)
theorem rows_wide {row : String} {args : Array Value} {w : World} {R : Value → World → Prop} (h : Rows P row args w R) : RowsIn Fence.wide n P row args w R := fun c cs _ => by
  obtain ⟨v, w', r, s⟩ := h c cs
  exact ⟨v, w', r, stepsIn_wide.2 s⟩
theorem oper_wide {o : Oper} {a : Act} {w : World} {K : Act → World → Prop} (hd : ∀ c, o.op ≠ .defer c) (h : o.wp P a w K Q) : o.wpIn Fence.wide n P a w K Q := by
  refine ⟨fun _ _ => trivial, ?_⟩
  rw [Oper.semAt_eq _ _ _ hd]
  unfold Oper.wp at h
  generalize (execOp a.eval o).run P w = r at *
  cases r with
  | halt x w' => cases x <;> simp only [Oper.upon, Oper.uponIn] at h ⊢ <;> exact h
  | ok x w' =>
    cases x <;> simp only [Oper.upon, Oper.uponIn] at h ⊢ <;>
      first
        | exact h
        | exact ⟨fun e => (by cases e), callsIn_wide.2 (h.mono fun e w'' he => by cases e <;> exact he)⟩
        | exact ⟨fun e => (by cases e), rows_wide h⟩
/-- Q, where nothing panics. -/
def Calm (Q : Exit → Act → World → Prop) : Exit → Act → World → Prop
  | .normal, a, w => Q .normal a w
  | _, _, _ => False
theorem calm_out : ∀ (e : Exit) (a : Act) (w : World), Calm Q e a w → Q e a w := fun e a w h => by
  cases e <;> first | exact h | exact h.elim
theorem calm_normal {a : Act} {w : World} (h : Q .normal a w) : Calm Q .normal a w := h
/-- A region that draws its order, in a round. -/
theorem region_round_any {id : Nat} {a : Act} {w v : World} {ol : List Oper} (S : World → Prop) (need : Nat → Bool) (hQ : ¬ LetsOut Q) (hd : noDefer ol = true) (hv : w.drew = v) (hm : P.follows .mixedOrders = true)
    (h : NW P .any ol.toArray Q S need ol.toArray.size (Array.replicate ol.toArray.size false) a v) : (Code.region id ol.toArray true).wpIn (Fence.wide.inRound l) n P Q a w := by
  subst hv
  exact wpIn_region_any hm (any_round hQ (by simpa using hd) _ _ _ _ (wpAny_of_need _ _ _ _ (h.out (Closed.start _ _ _))))
end
end Go.Proofs.Ytifamhmiibhohaa

namespace Go.Proofs.Ytifamhmiibhohaa
open Go.ChangeShapes Go.WideShapes Go.ChangeAt Go.RowKit Go.Joins
set_option maxRecDepth 100000
set_option linter.unusedVariables false
set_option linter.unusedSimpArgs false
/-- A list out of what there is at each place. -/
theorem listOf {α : Type} {R : Nat → α → Prop} : ∀ (n : Nat), (∀ i, i < n → ∃ g, R i g) → ∃ gs : List α, gs.length = n ∧ ∀ i g, gs[i]? = some g → R i g
  | 0, _ => ⟨[], rfl, fun i g h => by simp at h⟩
  | n + 1, h => by
    obtain ⟨gs, hl, hg⟩ := listOf n (fun i hi => h i (by omega))
    obtain ⟨g, hr⟩ := h n (by omega)
    refine ⟨gs ++ [g], by simp [hl], fun i x hx => ?_⟩
    by_cases hi : i < n
    · rw [List.getElem?_append_left (by omega)] at hx
      exact hg i x hx
    · rw [List.getElem?_append_right (by omega)] at hx
      have hin : i - gs.length = 0 := by
        have := (List.getElem?_eq_some_iff.1 hx).1
        simp at this; omega
      have : i = n := by omega
      subst this
      rw [hin] at hx
      simp at hx
      subst hx
      exact hr
abbrev Op3 := Int × Int × Int
def ocells : List Op3 → List Value
  | [] => []
  | g :: l => .int .i64 g.1 :: .int .i64 g.2.1 :: .int .i64 g.2.2 :: ocells l
theorem ocells_length : ∀ gs : List Op3, (ocells gs).length = gs.length * 3
  | [] => rfl
  | g :: l => by simp only [ocells, List.length_cons, ocells_length l]; omega
theorem ocells_at : ∀ {gs : List Op3} {k : Nat} {g : Op3}, gs[k]? = some g → (ocells gs)[k * 3]? = some (.int .i64 g.1) ∧ (ocells gs)[k * 3 + 1]? = some (.int .i64 g.2.1) ∧ (ocells gs)[k * 3 + 2]? = some (.int .i64 g.2.2)
  | [], k, g, h => by cases h
  | x :: l, 0, g, h => by injection h with h; subst h; exact ⟨rfl, rfl, rfl⟩
  | x :: l, k + 1, g, h => by
    have := ocells_at (gs := l) (k := k) (g := g) (by simpa using h)
    rw [show (k + 1) * 3 = k * 3 + 1 + 1 + 1 by omega]
    exact this
def OpOk (x : Op3) : Prop := (-9223372036854775808 ≤ x.1 ∧ x.1 ≤ 9223372036854775807) ∧ (-9223372036854775808 ≤ x.2.1 ∧ x.2.1 ≤ 9223372036854775807) ∧ (-9223372036854775808 ≤ x.2.2 ∧ x.2.2 ≤ 9223372036854775807)
section
variable {H : Type} {enc : TypeId × Value → H} {w : World} {base : Nat} {spare : Nat → Bool} {held : Bool}
theorem op3_at {w : World} {A : Option Addr} {len k : Nat} {gs : List Op3} (h : RowAt w A (len * 3) (ocells gs)) (hl : gs.length = len) (hk : k < len) :
    ∃ a x y z, A = some a ∧ gs[k]? = some (x, y, z) ∧ w.cell? (a.add (k * 3)) = some (.int .i64 x) ∧ w.cell? ⟨(a.add (k * 3)).block, (a.add (k * 3)).off + 1, none⟩ = some (.int .i64 y) ∧ w.cell? ⟨(a.add (k * 3)).block, (a.add (k * 3)).off + 2, none⟩ = some (.int .i64 z) := by
  obtain ⟨a, e, hc⟩ := h.2 (by omega)
  obtain ⟨⟨x, y, z⟩, hx⟩ : ∃ g, gs[k]? = some g := ⟨_, List.getElem?_eq_getElem (by omega)⟩
  obtain ⟨c0, c1, c2⟩ := ocells_at hx
  have k1 := hc _ _ c1
  have k2 := hc _ _ c2
  rw [← add_of_add] at k1 k2
  exact ⟨a, x, y, z, e, hx, hc _ _ c0, k1, k2⟩
end
end Go.Proofs.Ytifamhmiibhohaa

namespace Go.Proofs.Ytifamhmiibhohaa.Mem
open Go.RowKit Go.Proofs.Ytifamhmiibhohaa Go.Proofs.Ytifamhmiibhohaa.Wire
set_option maxHeartbeats 8000000
set_option maxRecDepth 100000
set_option linter.unusedVariables false
set_option linter.unusedSimpArgs false

/-- append, as one operation: whatever is no cells lies as it lay. -/
theorem app_op {P : Program} (w : World) {o : Oper} {a : Act} {K : Act → World → Prop} {Q : Exit → Act → World → Prop} (T E : TypeId) (z : Value) (size bytes : Nat)
    (ht : P.underlying T = some (.slice E)) (hinf : (P.info? E).map (fun i => (i.zero, i.size, i.bytes)) = some (some z, size, bytes)) (hzs : z.cells.size = size) (hsz : 0 < size)
    (s x : Operand) (ho : o.op = .call { callee := .builtin .append, args := #[s, x], argTypes := #[T, T] })
    (col : Col) (B r lo hi : Nat) (v : Value) (n : Nat) (xs : List Value) (hs : a.eval s = v) (hrow : Row w col B r E size v n xs) (hr : lo ≤ r ∧ r < hi)
    (ad : Addr) (m c : Nat) (news : List Value) (hx : a.eval x = .slice (some ad) m c) (hb : RowAt w (some ad) (m * size) news) (h1 : ∀ u ∈ news, u.oneCell' = true)
    (h63 : n + m ≤ maxLen) (hbd : (n + m) * bytes ≤ 140737488355328) (hbase : B ≤ w.heap.size)
    (h : ∀ v' w' col', Row w' col' B r E size v' (n + m) (xs ++ news) → Tch lo hi col col' w w' → KeepsOthers w w' → K (a.put o.dst v') w') : o.wp P a w K Q := by
  obtain ⟨i0, hi0, hz0, hz1, hz2⟩ := info_parts hinf
  have hgr : ∀ g, v.ownBlock = some g → g < w.heap.size → lo ≤ col g ∧ col g < hi := fun g e _ => by rw [hrow.c g e]; exact hr
  have hn : ∀ j u, news[j]? = some u → w.cell? (ad.add j) = some u := fun j u hu => by
    obtain ⟨a', e', hc⟩ := hb.2 (by have := (List.getElem?_eq_some_iff.1 hu).1; have := hb.len; omega)
    obtain rfl : ad = a' := by simpa using e'
    exact hc j u hu
  obtain ⟨v', w', hr', h2, h3, h4⟩ := run_append_where P w B T o.type E i0 z size bytes ht hi0 hz0 hz1 hz2 hzs hsz v n xs hrow.own ad m c news hb.len hn h1 h63 hbd hbase
  have hko : KeepsOthers w w' := KeepsOthers.of_grownBy h3 (fun j ob e hj => by
    obtain ⟨_, hh⟩ := hrow.own
    rcases hh with ⟨hv, _⟩ | ⟨g, cap, cur, hv, _, hbk, _⟩
    · rw [hv] at e; cases e
    · rw [hv] at e
      injection e with e
      subst e
      have e2 : w.heap[g]? = some (.cells cur E) := hbk
      rw [hj] at e2
      injection e2 with e2
      rw [e2]; rfl)
  unfold Oper.wp execOp
  simp only [ho, resolve, invoke, builtin, Sem.run_bind, Sem.run_pure, Result.andThen_ok, List.map_toArray, List.map_cons, List.map_nil, hs, hx, hr']
  rcases h4 with h4 | h4
  · exact h v' w' col ⟨h2, fun g e => hrow.c g (by rw [← h4]; exact e)⟩ (Tch.of_grown h3 hgr) hko
  · refine h v' w' (paint col w.heap.size r) ⟨h2, fun g e => ?_⟩ ((Tch.of_grown h3 hgr).paint (Nat.le_refl _) (h2.lt _ h4).2 (.inr hr)) hko
    rw [h4] at e
    injection e with e
    rw [← e, paint_self]
/-- .. in a walk. -/
theorem app_walk {P : Program} {w : World} {ops : Array Oper} {rest : List Oper} {o : Oper} {a : Act} {Q : Exit → Act → World → Prop} (hgd : o.guard = none)
    (h : ∀ K : Act → World → Prop, (∀ a w, wpList P ops Q rest a w → K a w) → o.wp P a w K Q) : wpList P ops Q (o :: rest) a w := wpList_plain hgd fun K hK => h K hK
/-- .. in a round. -/
theorem app_round {P : Program} {w : World} {l n : Nat} {ops : Array Oper} {rest : List Oper} {o : Oper} {a : Act} {Q : Exit → Act → World → Prop} (hgd : o.guard = none) (hd : ∀ c, o.op ≠ .defer c)
    (h : ∀ K : Act → World → Prop, (∀ a w, wpListIn (Fence.wide.inRound l) n P ops Q rest a w → K a w) → o.wp P a w K Q) : wpListIn (Fence.wide.inRound l) n P ops Q (o :: rest) a w := wpListIn_plain hgd fun K hK => oper_round hd (h K hK)
/-- .. at the wide fence. -/
theorem app_wide {P : Program} {w : World} {n : Nat} {ops : Array Oper} {rest : List Oper} {o : Oper} {a : Act} {Q : Exit → Act → World → Prop} (hgd : o.guard = none) (hd : ∀ c, o.op ≠ .defer c)
    (h : ∀ K : Act → World → Prop, (∀ a w, wpListIn Fence.wide n P ops Q rest a w → K a w) → o.wp P a w K Q) : wpListIn Fence.wide n P ops Q (o :: rest) a w := wpListIn_plain hgd fun K hK => oper_wide hd (h K hK)
theorem KeepsOthers.below {w w' : World} (h : Below w.heap.size w w') : KeepsOthers w w' := ⟨h.size, fun k o hk _ => (h.block k (Array.getElem?_eq_some_iff.1 hk).1).trans hk⟩

/-- Blocks' bytes, in rows that are never written again. -/
def Dts (w : World) (col : Col) (B : Nat) (vs : List Value) (bl : List (List UInt8)) : Prop := vs.length = bl.length ∧ ∀ (i : Nat) (v : Value) (b : List UInt8), vs[i]? = some v → bl[i]? = some b → Row w col B 1 5 1 v 256 (bvl b)
theorem Dts.keep {w w' : World} {a b : Col} {B lo hi : Nat} {vs : List Value} {bl : List (List UInt8)} (h : Dts w a B vs bl) (ht : Tch lo hi a b w w') (hr : 2 ≤ lo ∨ hi ≤ 1) : Dts w' b B vs bl := ⟨h.1, fun i v x h1 h2 => (h.2 i v x h1 h2).keep ht (by omega)⟩
theorem Dts.snoc {w : World} {a : Col} {B : Nat} {vs : List Value} {bl : List (List UInt8)} {v : Value} {b : List UInt8} (h : Dts w a B vs bl) (hd : Row w a B 1 5 1 v 256 (bvl b)) : Dts w a B (vs ++ [v]) (bl ++ [b]) := by
  refine ⟨by simp [h.1], fun i u y h1 h2 => ?_⟩
  rcases Nat.lt_or_ge i vs.length with hi | hi
  · rw [List.getElem?_append_left hi] at h1
    rw [List.getElem?_append_left (by rw [← h.1]; exact hi)] at h2
    exact h.2 i u y h1 h2
  · rw [List.getElem?_append_right hi] at h1
    rw [List.getElem?_append_right (by rw [← h.1]; exact hi)] at h2
    have h0 : i - vs.length = 0 := by
      have := (List.getElem?_eq_some_iff.1 h1).1
      simp at this; omega
    rw [h0] at h1
    rw [show i - bl.length = 0 by rw [← h.1]; exact h0] at h2
    injection h1 with h1
    injection h2 with h2
    subst h1 h2
    exact hd
theorem Dts.nil (w : World) (col : Col) (B : Nat) : Dts w col B [] [] := ⟨rfl, fun i v b h => by cases h⟩
/-- What Lay has laid: a box with the blocks' row, a box with all their bytes. -/
structure LayAt (w : World) (col : Col) (B o a : Nat) (bl : List (List UInt8)) : Prop where
  ex : ∃ vo va vs, Bk w col B 18 o 25 #[vo] ∧ Bk w col B 18 a 31 #[va] ∧ Row w col B 16 31 1 vo bl.length vs ∧ Row w col B 17 5 1 va (bl.length * 256) (bvl bl.flatten) ∧ Dts w col B vs bl
  ne : o ≠ a
  len : ∀ b ∈ bl, b.length = 256
theorem LayAt.keep {w w' : World} {ca cb : Col} {B o a lo hi : Nat} {bl : List (List UInt8)} (h : LayAt w ca B o a bl) (ht : Tch lo hi ca cb w w') (hlo : 2 ≤ lo ∨ hi ≤ 1) (hr : 19 ≤ lo ∨ hi ≤ 16) : LayAt w' cb B o a bl := by
  obtain ⟨vo, va, vs, h1, h2, h3, h4, h5⟩ := h.ex
  exact ⟨⟨vo, va, vs, h1.keep ht (by omega), h2.keep ht (by omega), h3.keep ht (by omega), h4.keep ht (by omega), h5.keep ht hlo⟩, h.ne, h.len⟩
theorem flat_len {bl : List (List UInt8)} (h : ∀ b ∈ bl, b.length = 256) : bl.flatten.length = bl.length * 256 := by
  induction bl with
  | nil => rfl
  | cons b bl ih =>
    rw [List.flatten_cons, List.length_append, ih (fun x hx => h x (List.mem_cons_of_mem _ hx)), h b (List.mem_cons_self ..), List.length_cons]
    omega
theorem infoRows : (Try.prog.info? 31).map (fun i => (i.zero, i.size, i.bytes)) = some (some (.slice none 0 0), 1, 24) := by kernel_rfl
theorem infoByte : (Try.prog.info? 5).map (fun i => (i.zero, i.size, i.bytes)) = some (some (.int .u8 0), 1, 1) := by kernel_rfl
def LayC (w : World) (col : Col) (B o a : Nat) (bl : List (List UInt8)) (e : Ending) (w' : World) : Prop := ∃ col', e = .returned (.tuple #[]) ∧ Tch 16 19 col col' w w' ∧ LayAt w' col' B o a bl ∧ KeepsOthers w w'
theorem layC_any (w : World) (col : Col) (B o a cap : Nat) (A : Option Addr) (bl : List (List UInt8)) (b : List UInt8) (h : LayAt w col B o a bl) (hd : Row w col B 1 5 1 (.slice A 256 cap) 256 (bvl b)) (few : bl.length ≤ 100000) (hB : B ≤ w.heap.size) :
    Calls Try.prog 15 #[.slice A 256 cap, .pointer (some ⟨o, 0, none⟩), .pointer (some ⟨a, 0, none⟩)] w fun e w' => LayC w col B o a (bl ++ [b]) e w' := by
  obtain ⟨vo, va, vs, h1, h2, h3, h4, h5⟩ := h.ex
  have hne := h.ne
  have hbl : b.length = 256 := by have := hd.own.1; simpa [bvl] using this
  have hlen : ∀ x ∈ bl ++ [b], x.length = 256 := fun x hx => by
    rcases List.mem_append.1 hx with hx | hx
    · exact h.len x hx
    · rw [List.mem_singleton.1 hx]; exact hbl
  obtain ⟨gd, cc, _, hA, _⟩ := own_form hd.own (by omega)
  injection hA with hA _ hcc
  subst hA
  subst hcc
  have o0 : w.cell? ⟨o, 0, none⟩ = some vo := h1.blk.cell 0
  obtain ⟨w1, hw1⟩ : ∃ w1, w.alloc (.cells #[.slice (some ⟨gd, 0, none⟩) 256 cap] 31) = w1 := ⟨_, rfl⟩
  have t1 : Tch 16 16 col col w w1 := by rw [← hw1]; exact (Tch.refl _ _ _ _).alloc _
  have X1 := Lib.hid (show RowAt w1 (some ⟨w.heap.size, 0, none⟩) (1 * 1) [.slice (some ⟨gd, 0, none⟩) 256 cap] by rw [← hw1]; exact lit_rowN w 31 [.slice (some ⟨gd, 0, none⟩) 256 cap] (1 * 1) w.heap.size rfl rfl)
  have R1 := Lib.hid (h3.keep t1 (by omega))
  have K1 := Lib.hid (show KeepsOthers w w1 by rw [← hw1]; exact KeepsOthers.alloc _ _)
  have T1 := Lib.hid t1
  have O1 := Lib.hid (h1.keep t1 (by omega))
  have A1 := Lib.hid (h2.keep t1 (by omega))
  have F1 := Lib.hid (h4.keep t1 (by omega))
  have D1 := Lib.hid (h5.keep t1 (by omega))
  have E1 := Lib.hid (hd.keep t1 (by omega))
  have HW1 := Lib.hid hw1
  have hB1 : B ≤ w1.heap.size := Nat.le_trans hB t1.size
  have HL := Lib.hid hlen
  have HFL := Lib.hid (flat_len h.len)
  clear h h1 h2 h3 h4 h5 hd t1 hw1 hlen
  go_enter Try.func15, Try.ntmps15
  go_upto_region 1 with (first
    | (at_builtin
       first
       | (rw [HW1.out]
          refine app_walk rfl fun K hK => ?_
          refine app_op w1 25 31 (.slice none 0 0) 1 24 Try.underlying25 infoRows rfl (by decide) (.tmp 4) (.tmp 6) rfl col B 16 16 17 vo bl.length vs rfl R1.out ⟨by omega, by omega⟩ ⟨w.heap.size, 0, none⟩ 1 1 [.slice (some ⟨gd, 0, none⟩) 256 cap] rfl X1.out (by intro u hu; simp at hu; subst hu; rfl) (by unfold maxLen; omega) (by omega) hB1 ?_
          intro v2 w2 col2 r2 t2 k2
          obtain ⟨g2, c2, _, rfl, _⟩ := own_form r2.own (by omega)
          have R2 := Lib.hid r2
          have O2 := Lib.hid (O1.out.keep t2 (by omega))
          have A2 := Lib.hid (A1.out.keep t2 (by omega))
          have F2 := Lib.hid (F1.out.keep t2 (by omega))
          have D2 := Lib.hid ((D1.out.snoc E1.out).keep t2 (by omega))
          have E2 := Lib.hid (E1.out.keep t2 (by omega))
          have K2 := Lib.hid (K1.out.trans k2)
          have T2 := Lib.hid ((T1.out.any (lo' := 16) (hi' := 19) (Nat.le_refl _)).trans (t2.mono (by omega) (by omega)))
          have o2 : w2.cell? ⟨o, 0, none⟩ = some vo := O2.out.blk.cell 0
          have z2 : w2.frozen? ⟨o, 0, none⟩ = false := O2.out.blk.frozen 0
          obtain ⟨w3, hw3⟩ : ∃ w3, w2.setCell ⟨o, 0, none⟩ (.slice (some ⟨g2, 0, none⟩) (bl.length + 1) c2) = w3 := ⟨_, rfl⟩
          have t3 : Tch 18 19 col2 col2 w2 w3 := by rw [← hw3]; exact (Tch.refl _ _ _ _).setCell (p := ⟨o, 0, none⟩) (by have := O2.out.c; show 18 ≤ col2 o ∧ col2 o < 19; omega) _
          have O3 := Lib.hid (show Bk w3 col2 B 18 o 25 #[.slice (some ⟨g2, 0, none⟩) (bl.length + 1) c2] by rw [← hw3]; exact O2.out.set 0 _)
          have A3 := Lib.hid (show Bk w3 col2 B 18 a 31 #[va] from ⟨by rw [← hw3]; exact A2.out.blk.far (p := ⟨o, 0, none⟩) (fun e => hne e.symm) _, A2.out.c, A2.out.b⟩)
          have R3 := Lib.hid (R2.out.keep t3 (by omega))
          have F3 := Lib.hid (F2.out.keep t3 (by omega))
          have D3 := Lib.hid (D2.out.keep t3 (by omega))
          have X3 := Lib.hid (show RowAt w3 (some ⟨gd, 0, none⟩) (256 * 1) (bvl b) from rowAt_ownN (E2.out.keep t3 (by omega)).own)
          have K3 := Lib.hid (show KeepsOthers w w3 by rw [← hw3]; exact K2.out.trans (KeepsOthers.setCell _ _ _))
          have T3 := Lib.hid (T2.out.trans (t3.mono (by omega) (by omega)))
          have a3 : w3.cell? ⟨a, 0, none⟩ = some va := A3.out.blk.cell 0
          have hB3 : B ≤ w3.heap.size := Nat.le_trans hB T3.out.size
          have HW3 := Lib.hid hw3
          have hcc2 : c2 ≤ c2 := Nat.le_refl _
          refine hK _ _ ?_
          clear r2 t2 k2 hw3 t3 K1 R1 X1 T1 O1 A1 F1 D1 E1 hK K))
    | fail)
  rw [HW3.out]
  go_wp2_with (first
    | (at_builtin
       first
       | (refine app_walk rfl fun K hK => ?_
          refine app_op w3 31 5 (.int .u8 0) 1 1 Try.underlying31 infoByte rfl (by decide) (.tmp 8) (.tmp 9) rfl col2 B 17 17 18 va (bl.length * 256) (bvl bl.flatten) rfl F3.out ⟨by omega, by omega⟩ ⟨gd, 0, none⟩ 256 cap (bvl b) rfl X3.out (fun u hu => by obtain ⟨x, _, rfl⟩ := List.mem_map.1 hu; rfl) (by unfold maxLen; omega) (by omega) hB3 ?_
          intro v4 w4 col4 r4 t4 k4
          obtain ⟨g4, c4, _, rfl, _⟩ := own_form r4.own (by omega)
          have O4 := Lib.hid (O3.out.keep t4 (by omega))
          have A4 := Lib.hid (A3.out.keep t4 (by omega))
          have R4 := Lib.hid (R3.out.keep t4 (by omega))
          have F4 := Lib.hid (show Row w4 col4 B 17 5 1 (.slice (some ⟨g4, 0, none⟩) (bl.length * 256 + 256) c4) ((bl ++ [b]).length * 256) (bvl (bl ++ [b]).flatten) by
            rw [List.flatten_append, List.length_append, show (bl.length + [b].length) * 256 = bl.length * 256 + 256 by simp; omega, show [b].flatten = b by simp, bvl, List.map_append]
            exact r4)
          have D4 := Lib.hid (D3.out.keep t4 (by omega))
          have K4 := Lib.hid (K3.out.trans k4)
          have T4 := Lib.hid (T3.out.trans (t4.mono (by omega) (by omega)))
          have a4 : w4.cell? ⟨a, 0, none⟩ = some va := A4.out.blk.cell 0
          have z4 : w4.frozen? ⟨a, 0, none⟩ = false := A4.out.blk.frozen 0
          refine hK _ _ ?_
          clear r4 t4 k4 hK K))
    | fail)
  go_end0
  have tF : Tch 18 19 col4 col4 w4 (w4.setCell ⟨a, 0, none⟩ (.slice (some ⟨g4, 0, none⟩) (bl.length * 256 + 256) c4)) := (Tch.refl _ _ _ _).setCell (p := ⟨a, 0, none⟩) (by have := A4.out.c; show 18 ≤ col4 a ∧ col4 a < 19; omega) _
  refine ⟨col4, rfl, T4.out.trans (tF.mono (by omega) (by omega)), ⟨⟨_, _, _, ⟨O4.out.blk.far (p := ⟨a, 0, none⟩) hne _, O4.out.c, O4.out.b⟩, A4.out.set 0 _, ?_, F4.out.keep tF (by omega), D4.out.keep tF (by omega)⟩, hne, HL.out⟩, K4.out.trans (KeepsOthers.setCell _ _ _)⟩
  have := R4.out.keep tF (by omega)
  rw [List.length_append]
  exact this
end Go.Proofs.Ytifamhmiibhohaa.Mem

namespace Go.Proofs.Ytifamhmiibhohaa.Mem
open Go.RowKit Go.Proofs.Ytifamhmiibhohaa Go.Proofs.Ytifamhmiibhohaa.Wire Go.Shelf
set_option maxHeartbeats 8000000
set_option maxRecDepth 100000
set_option linter.unusedVariables false
set_option linter.unusedSimpArgs false
attribute [local go_sem] Oper.semAt_some

/-- How many parts of k places there are of n. -/
def nch (k n : Nat) : Nat := (n + k - 1) / k
theorem nch_iff {k n j : Nat} (hk : 1 ≤ k) : j < nch k n ↔ j * k < n := by
  unfold nch
  rw [Nat.lt_iff_add_one_le, Nat.le_div_iff_mul_le (by omega), Nat.add_mul]
  omega
/-- What a round must keep: the iterator's two boxes. -/
def KBox (bs bn : Nat) (A B : World) : Prop := B.heap[bs]? = A.heap[bs]? ∧ B.heap[bn]? = A.heap[bn]?
theorem KBox.trans {bs bn : Nat} {A B C : World} (h : KBox bs bn A B) (k : KBox bs bn B C) : KBox bs bn A C := ⟨k.1.trans h.1, k.2.trans h.2⟩
theorem KBox.put {bs bn : Nat} {w : World} (h1 : bs < w.heap.size) (h2 : bn < w.heap.size) (W : World) (l : Nat) (o o' : Obj) (hl : w.heap.size ≤ l) (h : W.heap[l]? = some o) (_ : o.isCells = false) (_ : o.isWalk = false) : KBox bs bn W (W.putObj l o') :=
  ⟨(grownBy_putObj' W l o').block bs (by have := (Array.getElem?_eq_some_iff.1 h).1; omega) (fun e => by injection e with e; omega), (grownBy_putObj' W l o').block bn (by have := (Array.getElem?_eq_some_iff.1 h).1; omega) (fun e => by injection e with e; omega)⟩
abbrev Part (N : Nat) := { j : Nat // j < N }
def subs (N j : Nat) : List (Part N) := (List.range j).filterMap fun i => if h : i < N then some ⟨i, h⟩ else none
theorem subs_succ {N j : Nat} (h : j < N) : subs N (j + 1) = subs N j ++ [⟨j, h⟩] := by
  unfold subs
  rw [List.range_succ, List.filterMap_append]
  simp [h]
theorem subs_len {N : Nat} : ∀ {j : Nat}, j ≤ N → (subs N j).length = j
  | 0, _ => rfl
  | j + 1, h => by rw [subs_succ (by omega), List.length_append, subs_len (by omega)]; rfl
/-- The j-th part of a slice. -/
def chunkV (A : Option Addr) (len k size j : Nat) : Value := .slice (A.map fun a => a.add (j * k * size)) (min k (len - j * k)) (min k (len - j * k))
theorem chunkW_any (w : World) (A : Option Addr) (len cap k : Nat) (hk : 1 ≤ k) :
    Calls Try.prog 16 #[.slice A len cap, .int .i64 k] w fun e w' => e = .returned (.func (.func 32) #[] #[.pointer (some ⟨w.heap.size, 0, none⟩), .pointer (some ⟨w.heap.size + 1, 0, none⟩)]) ∧ w' = (w.alloc (.cells #[.slice A len cap] 22)).alloc (.cells #[.int .i64 k] 3) := by
  have hk2 : ¬ (k : Int) < 1 := by omega
  go_enter Try.func16, Try.ntmps16
  go_wp2_with fail
  go_ret
  exact ⟨rfl, rfl⟩
theorem chunkW_stops (n : Nat) (A : Option Addr) (len cap k bs bn : Nat) (w : World) (hk : 1 ≤ k) (hk2 : k ≤ 1000) (hl : len ≤ 4096) (hlc : len ≤ cap) (hcm : cap ≤ 9223372036854775807) (hA : 0 < len → A ≠ none)
    (h1 : w.cell? ⟨bs, 0, none⟩ = some (.slice A len cap)) (h2 : w.cell? ⟨bn, 0, none⟩ = some (.int .i64 k)) (b1 : bs < w.heap.size) (b2 : bn < w.heap.size) :
    SeqStopsK Fence.wide n Try.prog 32 #[.pointer (some ⟨bs, 0, none⟩), .pointer (some ⟨bn, 0, none⟩)] (fun x : Part (nch k len) => #[chunkV A len k 2 x.1]) (KBox bs bn) (fun xs => xs = subs (nch k len) (nch k len)) (fun _ => True) (nch k len) w := fun l J Jx W hW hAJ _ hY h0 => by
  have d1 := (hW.cell (p := ⟨bs, 0, none⟩) b1).trans h1
  have d2 := (hW.cell (p := ⟨bn, 0, none⟩) b2).trans h2
  have HY := Lib.hid hY
  clear hY h1 h2
  refine callsIn_of_wp Try.func32 rfl trivial ?_ rfl
  simp only [Try.ntmps32, List.size_toArray, List.length_cons, List.length_nil, Nat.reduceAdd, Nat.reduceSub, Array.replicate_succ, Array.replicate_zero, List.push_toArray, List.append_toArray, List.nil_append, List.cons_append]
  gi_wp2
  gi_loopw [4, 5] (fun ii _ wr => ∃ j : Nat, j ≤ nch k len ∧ ii = .int .i64 ((j * k : Nat) : Int) ∧ J (subs (nch k len) j) wr ∧ KBox bs bn W wr) (fun ii _ _ => len + k - (intOf ii).toNat)
  case atStart => exact ⟨0, Nat.zero_le _, by simp, h0, rfl, rfl⟩
  case round =>
    obtain ⟨j, hj, rfl, hJ, hb⟩ := hrel
    have e1 : wr.cell? ⟨bs, 0, none⟩ = some (.slice A len cap) := (World.cell?_of_block (a := ⟨bs, 0, none⟩) hb.1).trans d1
    have e2 : wr.cell? ⟨bn, 0, none⟩ = some (.int .i64 k) := (World.cell?_of_block (a := ⟨bn, 0, none⟩) hb.2).trans d2
    by_cases hlt : j < nch k len
    · have hjk : j * k < len := (nch_iff hk).1 hlt
      obtain ⟨a, rfl⟩ : ∃ a, A = some a := Option.ne_none_iff_exists'.1 (hA (by omega))
      obtain ⟨i, hi⟩ : ∃ i, j * k = i := ⟨_, rfl⟩
      obtain ⟨e, he⟩ : ∃ e, min k (len - i) = e := ⟨_, rfl⟩
      have he1 : 1 ≤ e := by omega
      have he2 : i + e ≤ len := by omega
      obtain ⟨wv, hwv⟩ : ∃ wv, wr.drew = wv := ⟨_, rfl⟩
      have hJv : J (subs (nch k len) j) wv := hAJ _ wr wv none hJ (by rw [← hwv]; exact ⟨rfl, rfl, rfl, Nat.le_refl _, fun _ _ _ => rfl⟩) (fun r e => by cases e)
      have hbv : KBox bs bn W wv := by rw [← hwv]; exact hb
      obtain ⟨fn, tmps, assign, body, hy, hR⟩ := HY.out _ ⟨j, hlt⟩ wv hJv (by rw [subs_len hj]; exact hlt)
      simp only [chunkV, Option.map_some, hi, he, Nat.mul_one] at hy
      rw [hi] at hjk ⊢
      have i1 : (i : Int) < (len : Int) := by omega
      have i2 : IntKind.i64.wrap ((i : Int) + (e : Int)) = ((i + e : Nat) : Int) := by rw [IntKind.wrap_i64]; omega
      have i3 : ((i : Nat) : Int).toNat = i := by omega
      have i4 : (((i + e : Nat) : Int)).toNat = i + e := by omega
      have i5 : (i : Int) ≤ (len : Int) := by omega
      have i6 : ((i + e : Nat) : Int) ≤ (cap : Int) := by omega
      have i7 : (i : Int) ≤ ((i + e : Nat) : Int) := by omega
      have i8 : (0 : Int) ≤ (i : Int) := by omega
      have i9 : i + e - i = e := by omega
      have i10 : IntKind.i64.wrap ((i : Int) + (k : Int)) = ((i + k : Nat) : Int) := by rw [IntKind.wrap_i64]; omega
      have hci : ¬ cap = i := by omega
      gi_wp2
      have v1 : wv.cell? ⟨bs, 0, none⟩ = some (.slice (some a) len cap) := by rw [← hwv]; exact e1
      have v2 : wv.cell? ⟨bn, 0, none⟩ = some (.int .i64 k) := by rw [← hwv]; exact e2
      have HR := Lib.hid hR
      have HYY := Lib.hid hy
      have HWV := Lib.hid hwv
      have hmn : ((len - i : Nat) : Int) = (len : Int) - (i : Int) := by omega
      have hmin : min (k : Int) ((len : Int) - (i : Int)) = (e : Int) := by omega
      have hmin2 : min (k : Int) (((len - i : Nat)) : Int) = (e : Int) := by omega
      clear hJ hR hy hwv
      refine wpIn_wide.2 ?_
      have hNS : wv.cell? ⟨bs, 0, none⟩ = some (.slice (some a) len cap) ∧ wv.cell? ⟨bn, 0, none⟩ = some (.int .i64 k) := ⟨v1, v2⟩
      refine region_need_at (v := wv) (fun w' => w'.cell? ⟨bs, 0, none⟩ = some (.slice (some a) len cap) ∧ w'.cell? ⟨bn, 0, none⟩ = some (.int .i64 k)) (fun _ => true) HWV.out (by kernel_rfl) ?_
      refine nw_take (i := 0) (v := ?_) rfl (by kernel_rfl) (by kernel_rfl) (fun _ _ d _ _ h => by cases d <;> exact h) (by exact hNS) (by kernel_rfl) ?_ (fun K hK => ?_); rotate_left; (· (intro w' hSw; (try dsimp only at hSw); go_simp; with_reducible rfl)); simp only [Act.put, List.setIfInBounds_toArray, List.set_cons_zero, List.set_cons_succ]; refine hK _ ?_; clear hK K
      refine nw_take (i := 1) (v := ?_) rfl (by kernel_rfl) (by kernel_rfl) (fun _ _ d _ _ h => by cases d <;> exact h) (by exact hNS) (by kernel_rfl) ?_ (fun K hK => ?_); rotate_left; (· (intro w' hSw; (try dsimp only at hSw); go_simp; with_reducible rfl)); simp only [Act.put, List.setIfInBounds_toArray, List.set_cons_zero, List.set_cons_succ]; refine hK _ ?_; clear hK K
      refine nw_take (i := 2) (v := ?_) rfl (by kernel_rfl) (by kernel_rfl) (fun _ _ d _ _ h => by cases d <;> exact h) (by exact hNS) (by kernel_rfl) ?_ (fun K hK => ?_); rotate_left; (· (intro w' hSw; (try dsimp only at hSw); go_simp; with_reducible rfl)); simp only [Act.put, List.setIfInBounds_toArray, List.set_cons_zero, List.set_cons_succ]; refine hK _ ?_; clear hK K
      refine nw_take (i := 3) (v := ?_) rfl (by kernel_rfl) (by kernel_rfl) (fun _ _ d _ _ h => by cases d <;> exact h) (by exact hNS) (by kernel_rfl) ?_ (fun K hK => ?_); rotate_left; (· (intro w' hSw; (try dsimp only at hSw); go_simp; with_reducible rfl)); simp only [Act.put, List.setIfInBounds_toArray, List.set_cons_zero, List.set_cons_succ]; refine hK _ ?_; clear hK K
      refine nw_take (i := 4) (v := ?_) rfl (by kernel_rfl) (by kernel_rfl) (fun _ _ d _ _ h => by cases d <;> exact h) (by exact hNS) (by kernel_rfl) ?_ (fun K hK => ?_); rotate_left; (· (intro w' hSw; (try dsimp only at hSw); go_simp; with_reducible rfl)); simp only [Act.put, List.setIfInBounds_toArray, List.set_cons_zero, List.set_cons_succ]; refine hK _ ?_; clear hK K
      clear hNS
      refine nw_one (i := 5) (E := False) rfl (by kernel_rfl) (fun K hK => ?_) (by kernel_rfl)
      go_simp
      refine hK.out _ _ ((fun _ => ⟨v1, v2⟩)) ?_
      clear hK K
      try simp only [Act.put, List.setIfInBounds_toArray, List.set_cons_zero, List.set_cons_succ]
      refine nw_one (i := 6) (E := False) rfl (by kernel_rfl) (fun K hK => ?_) (by kernel_rfl)
      go_simp
      refine hK.out _ _ ((fun _ => ⟨v1, v2⟩)) ?_
      clear hK K
      try simp only [Act.put, List.setIfInBounds_toArray, List.set_cons_zero, List.set_cons_succ]
      refine nw_end (by kernel_rfl) ?_
      have hya := HYY.out
      have HBV := Lib.hid hbv
      clear hbv hJv v1 v2 e1 e2 hb
      have v1 : wv.cell? ⟨bs, 0, none⟩ = some (.slice (some a) len cap) := (World.cell?_of_block (a := ⟨bs, 0, none⟩) HBV.out.1).trans d1
      have v2 : wv.cell? ⟨bn, 0, none⟩ = some (.int .i64 k) := (World.cell?_of_block (a := ⟨bn, 0, none⟩) HBV.out.2).trans d2
      gi_wp2
      refine ⟨fun e => (by cases e), ?_⟩
      refine HR.out.mono ?_
      rintro e' W3 (⟨rfl, hJ3, hk3⟩ | ⟨rfl, hJx3⟩)
      · have e1 : W3.cell? ⟨bs, 0, none⟩ = some (.slice (some a) len cap) := (World.cell?_of_block (a := ⟨bs, 0, none⟩) hk3.1).trans v1
        have e2 : W3.cell? ⟨bn, 0, none⟩ = some (.int .i64 k) := (World.cell?_of_block (a := ⟨bn, 0, none⟩) hk3.2).trans v2
        have hik : ((i + k : Nat) : Int) = (((j + 1) * k : Nat) : Int) := by rw [Nat.add_mul, hi, Nat.one_mul]
        have hik2 : ((j : Int) + 1) * (k : Int) = (i : Int) + (k : Int) := by have := hik; push_cast at this; omega
        gi_wp2
        go_roundw
        case rel => exact ⟨j + 1, by omega, by first | (rw [i10, hik]) | (simp [hik2]) | go_num, by rw [subs_succ hlt]; exact hJ3, HBV.out.trans hk3⟩
        case measure => simp [intOf, hik2]; omega
      · gi_wp2
        refine bodyPost_ret (results_none rfl _ _ _) rfl ?_
        exact ⟨⟨_, rfl⟩, .inr (by first | exact ⟨_, trivial, hJx3⟩ | exact ⟨_, hJx3⟩)⟩
    · have hjk : ¬ j * k < len := fun h => hlt ((nch_iff hk).2 h)
      obtain rfl : j = nch k len := by omega
      have i1 : ¬ ((nch k len * k : Nat) : Int) < (len : Int) := by omega
      gi_wp2
      go_end0
      exact ⟨⟨_, rfl⟩, .inl (by first | exact hJ | exact ⟨_, rfl, hJ⟩)⟩
end Go.Proofs.Ytifamhmiibhohaa.Mem

namespace Go.Proofs.Ytifamhmiibhohaa.Mem
open Go.RowKit Go.Proofs.Ytifamhmiibhohaa Go.Proofs.Ytifamhmiibhohaa.Wire Go.Shelf
set_option maxHeartbeats 8000000
set_option maxRecDepth 100000
set_option linter.unusedVariables false
set_option linter.unusedSimpArgs false
attribute [local go_sem] Oper.semAt_some

theorem chunkI_any (w : World) (A : Option Addr) (len cap k : Nat) (hk : 1 ≤ k) :
    Calls Try.prog 17 #[.slice A len cap, .int .i64 k] w fun e w' => e = .returned (.func (.func 33) #[] #[.pointer (some ⟨w.heap.size, 0, none⟩), .pointer (some ⟨w.heap.size + 1, 0, none⟩)]) ∧ w' = (w.alloc (.cells #[.slice A len cap] 23)).alloc (.cells #[.int .i64 k] 3) := by
  have hk2 : ¬ (k : Int) < 1 := by omega
  go_enter Try.func17, Try.ntmps17
  go_wp2_with fail
  go_ret
  exact ⟨rfl, rfl⟩
theorem chunkI_stops (n : Nat) (A : Option Addr) (len cap k bs bn : Nat) (w : World) (hk : 1 ≤ k) (hk2 : k ≤ 1000) (hl : len ≤ 4096) (hlc : len ≤ cap) (hcm : cap ≤ 9223372036854775807) (hA : 0 < len → A ≠ none)
    (h1 : w.cell? ⟨bs, 0, none⟩ = some (.slice A len cap)) (h2 : w.cell? ⟨bn, 0, none⟩ = some (.int .i64 k)) (b1 : bs < w.heap.size) (b2 : bn < w.heap.size) :
    SeqStopsK Fence.wide n Try.prog 33 #[.pointer (some ⟨bs, 0, none⟩), .pointer (some ⟨bn, 0, none⟩)] (fun x : Part (nch k len) => #[chunkV A len k 1 x.1]) (KBox bs bn) (fun xs => xs = subs (nch k len) (nch k len)) (fun _ => True) (nch k len) w := fun l J Jx W hW hAJ _ hY h0 => by
  have d1 := (hW.cell (p := ⟨bs, 0, none⟩) b1).trans h1
  have d2 := (hW.cell (p := ⟨bn, 0, none⟩) b2).trans h2
  have HY := Lib.hid hY
  clear hY h1 h2
  refine callsIn_of_wp Try.func33 rfl trivial ?_ rfl
  simp only [Try.ntmps33, List.size_toArray, List.length_cons, List.length_nil, Nat.reduceAdd, Nat.reduceSub, Array.replicate_succ, Array.replicate_zero, List.push_toArray, List.append_toArray, List.nil_append, List.cons_append]
  gi_wp2
  gi_loopw [4, 5] (fun ii _ wr => ∃ j : Nat, j ≤ nch k len ∧ ii = .int .i64 ((j * k : Nat) : Int) ∧ J (subs (nch k len) j) wr ∧ KBox bs bn W wr) (fun ii _ _ => len + k - (intOf ii).toNat)
  case atStart => exact ⟨0, Nat.zero_le _, by simp, h0, rfl, rfl⟩
  case round =>
    obtain ⟨j, hj, rfl, hJ, hb⟩ := hrel
    have e1 : wr.cell? ⟨bs, 0, none⟩ = some (.slice A len cap) := (World.cell?_of_block (a := ⟨bs, 0, none⟩) hb.1).trans d1
    have e2 : wr.cell? ⟨bn, 0, none⟩ = some (.int .i64 k) := (World.cell?_of_block (a := ⟨bn, 0, none⟩) hb.2).trans d2
    by_cases hlt : j < nch k len
    · have hjk : j * k < len := (nch_iff hk).1 hlt
      obtain ⟨a, rfl⟩ : ∃ a, A = some a := Option.ne_none_iff_exists'.1 (hA (by omega))
      obtain ⟨i, hi⟩ : ∃ i, j * k = i := ⟨_, rfl⟩
      obtain ⟨e, he⟩ : ∃ e, min k (len - i) = e := ⟨_, rfl⟩
      have he1 : 1 ≤ e := by omega
      have he2 : i + e ≤ len := by omega
      obtain ⟨wv, hwv⟩ : ∃ wv, wr.drew = wv := ⟨_, rfl⟩
      have hJv : J (subs (nch k len) j) wv := hAJ _ wr wv none hJ (by rw [← hwv]; exact ⟨rfl, rfl, rfl, Nat.le_refl _, fun _ _ _ => rfl⟩) (fun r e => by cases e)
      have hbv : KBox bs bn W wv := by rw [← hwv]; exact hb
      obtain ⟨fn, tmps, assign, body, hy, hR⟩ := HY.out _ ⟨j, hlt⟩ wv hJv (by rw [subs_len hj]; exact hlt)
      simp only [chunkV, Option.map_some, hi, he, Nat.mul_one] at hy
      rw [hi] at hjk ⊢
      have i1 : (i : Int) < (len : Int) := by omega
      have i2 : IntKind.i64.wrap ((i : Int) + (e : Int)) = ((i + e : Nat) : Int) := by rw [IntKind.wrap_i64]; omega
      have i3 : ((i : Nat) : Int).toNat = i := by omega
      have i4 : (((i + e : Nat) : Int)).toNat = i + e := by omega
      have i5 : (i : Int) ≤ (len : Int) := by omega
      have i6 : ((i + e : Nat) : Int) ≤ (cap : Int) := by omega
      have i7 : (i : Int) ≤ ((i + e : Nat) : Int) := by omega
      have i8 : (0 : Int) ≤ (i : Int) := by omega
      have i9 : i + e - i = e := by omega
      have i10 : IntKind.i64.wrap ((i : Int) + (k : Int)) = ((i + k : Nat) : Int) := by rw [IntKind.wrap_i64]; omega
      have hci : ¬ cap = i := by omega
      gi_wp2
      have v1 : wv.cell? ⟨bs, 0, none⟩ = some (.slice (some a) len cap) := by rw [← hwv]; exact e1
      have v2 : wv.cell? ⟨bn, 0, none⟩ = some (.int .i64 k) := by rw [← hwv]; exact e2
      have HR := Lib.hid hR
      have HYY := Lib.hid hy
      have HWV := Lib.hid hwv
      have hmn : ((len - i : Nat) : Int) = (len : Int) - (i : Int) := by omega
      have hmin : min (k : Int) ((len : Int) - (i : Int)) = (e : Int) := by omega
      have hmin2 : min (k : Int) (((len - i : Nat)) : Int) = (e : Int) := by omega
      clear hJ hR hy hwv
      refine wpIn_wide.2 ?_
      have hNS : wv.cell? ⟨bs, 0, none⟩ = some (.slice (some a) len cap) ∧ wv.cell? ⟨bn, 0, none⟩ = some (.int .i64 k) := ⟨v1, v2⟩
      refine region_need_at (v := wv) (fun w' => w'.cell? ⟨bs, 0, none⟩ = some (.slice (some a) len cap) ∧ w'.cell? ⟨bn, 0, none⟩ = some (.int .i64 k)) (fun _ => true) HWV.out (by kernel_rfl) ?_
      refine nw_take (i := 0) (v := ?_) rfl (by kernel_rfl) (by kernel_rfl) (fun _ _ d _ _ h => by cases d <;> exact h) (by exact hNS) (by kernel_rfl) ?_ (fun K hK => ?_); rotate_left; (· (intro w' hSw; (try dsimp only at hSw); go_simp; with_reducible rfl)); simp only [Act.put, List.setIfInBounds_toArray, List.set_cons_zero, List.set_cons_succ]; refine hK _ ?_; clear hK K
      refine nw_take (i := 1) (v := ?_) rfl (by kernel_rfl) (by kernel_rfl) (fun _ _ d _ _ h => by cases d <;> exact h) (by exact hNS) (by kernel_rfl) ?_ (fun K hK => ?_); rotate_left; (· (intro w' hSw; (try dsimp only at hSw); go_simp; with_reducible rfl)); simp only [Act.put, List.setIfInBounds_toArray, List.set_cons_zero, List.set_cons_succ]; refine hK _ ?_; clear hK K
      refine nw_take (i := 2) (v := ?_) rfl (by kernel_rfl) (by kernel_rfl) (fun _ _ d _ _ h => by cases d <;> exact h) (by exact hNS) (by kernel_rfl) ?_ (fun K hK => ?_); rotate_left; (· (intro w' hSw; (try dsimp only at hSw); go_simp; with_reducible rfl)); simp only [Act.put, List.setIfInBounds_toArray, List.set_cons_zero, List.set_cons_succ]; refine hK _ ?_; clear hK K
      refine nw_take (i := 3) (v := ?_) rfl (by kernel_rfl) (by kernel_rfl) (fun _ _ d _ _ h => by cases d <;> exact h) (by exact hNS) (by kernel_rfl) ?_ (fun K hK => ?_); rotate_left; (· (intro w' hSw; (try dsimp only at hSw); go_simp; with_reducible rfl)); simp only [Act.put, List.setIfInBounds_toArray, List.set_cons_zero, List.set_cons_succ]; refine hK _ ?_; clear hK K
      refine nw_take (i := 4) (v := ?_) rfl (by kernel_rfl) (by kernel_rfl) (fun _ _ d _ _ h => by cases d <;> exact h) (by exact hNS) (by kernel_rfl) ?_ (fun K hK => ?_); rotate_left; (· (intro w' hSw; (try dsimp only at hSw); go_simp; with_reducible rfl)); simp only [Act.put, List.setIfInBounds_toArray, List.set_cons_zero, List.set_cons_succ]; refine hK _ ?_; clear hK K
      clear hNS
      refine nw_one (i := 5) (E := False) rfl (by kernel_rfl) (fun K hK => ?_) (by kernel_rfl)
      go_simp
      refine hK.out _ _ ((fun _ => ⟨v1, v2⟩)) ?_
      clear hK K
      try simp only [Act.put, List.setIfInBounds_toArray, List.set_cons_zero, List.set_cons_succ]
      refine nw_one (i := 6) (E := False) rfl (by kernel_rfl) (fun K hK => ?_) (by kernel_rfl)
      go_simp
      refine hK.out _ _ ((fun _ => ⟨v1, v2⟩)) ?_
      clear hK K
      try simp only [Act.put, List.setIfInBounds_toArray, List.set_cons_zero, List.set_cons_succ]
      refine nw_end (by kernel_rfl) ?_
      have hya := HYY.out
      have HBV := Lib.hid hbv
      clear hbv hJv v1 v2 e1 e2 hb
      have v1 : wv.cell? ⟨bs, 0, none⟩ = some (.slice (some a) len cap) := (World.cell?_of_block (a := ⟨bs, 0, none⟩) HBV.out.1).trans d1
      have v2 : wv.cell? ⟨bn, 0, none⟩ = some (.int .i64 k) := (World.cell?_of_block (a := ⟨bn, 0, none⟩) HBV.out.2).trans d2
      gi_wp2
      refine ⟨fun e => (by cases e), ?_⟩
      refine HR.out.mono ?_
      rintro e' W3 (⟨rfl, hJ3, hk3⟩ | ⟨rfl, hJx3⟩)
      · have e1 : W3.cell? ⟨bs, 0, none⟩ = some (.slice (some a) len cap) := (World.cell?_of_block (a := ⟨bs, 0, none⟩) hk3.1).trans v1
        have e2 : W3.cell? ⟨bn, 0, none⟩ = some (.int .i64 k) := (World.cell?_of_block (a := ⟨bn, 0, none⟩) hk3.2).trans v2
        have hik : ((i + k : Nat) : Int) = (((j + 1) * k : Nat) : Int) := by rw [Nat.add_mul, hi, Nat.one_mul]
        have hik2 : ((j : Int) + 1) * (k : Int) = (i : Int) + (k : Int) := by have := hik; push_cast at this; omega
        gi_wp2
        go_roundw
        case rel => exact ⟨j + 1, by omega, by first | (rw [i10, hik]) | (simp [hik2]) | go_num, by rw [subs_succ hlt]; exact hJ3, HBV.out.trans hk3⟩
        case measure => simp [intOf, hik2]; omega
      · gi_wp2
        refine bodyPost_ret (results_none rfl _ _ _) rfl ?_
        exact ⟨⟨_, rfl⟩, .inr (by first | exact ⟨_, trivial, hJx3⟩ | exact ⟨_, hJx3⟩)⟩
    · have hjk : ¬ j * k < len := fun h => hlt ((nch_iff hk).2 h)
      obtain rfl : j = nch k len := by omega
      have i1 : ¬ ((nch k len * k : Nat) : Int) < (len : Int) := by omega
      gi_wp2
      go_end0
      exact ⟨⟨_, rfl⟩, .inl (by first | exact hJ | exact ⟨_, rfl, hJ⟩)⟩
end Go.Proofs.Ytifamhmiibhohaa.Mem

namespace Go.Proofs.Ytifamhmiibhohaa.Mem
open Go.RowKit Go.Proofs.Ytifamhmiibhohaa Go.Proofs.Ytifamhmiibhohaa.Wire Go.Proofs.Ytifamhmiibhohaa.Log
set_option maxHeartbeats 8000000
set_option maxRecDepth 100000
set_option linter.unusedVariables false
set_option linter.unusedSimpArgs false

/-- A step that turns no cells that lay. -/
def Turn (w w' : World) : Prop := ∃ row, w.grownBy w' row ∧ ∀ q, row = some q → ∃ o : Obj, w.heap[q]? = some o ∧ o.isCells = false
theorem Row.turn {w w' : World} {col : Col} {B r size n : Nat} {e : TypeId} {v : Value} {xs : List Value} (h : Row w col B r e size v n xs) (ht : Turn w w') : Row w' col B r e size v n xs := by
  obtain ⟨row, hg, hr⟩ := ht
  cases row with
  | none => exact h.keep (lo := 1) (hi := 1) (Tch.of_below (below_of_only hg (fun g e => by cases e))) (by omega)
  | some q =>
    obtain ⟨o, ho, hc⟩ := hr q rfl
    refine ⟨own_grownN h.own hg (fun e => ?_), h.c⟩
    obtain ⟨_, hh⟩ := h.own
    rcases hh with ⟨hv, _⟩ | ⟨g, cap, cur, hv, _, hbk, _⟩
    · rw [hv] at e; cases e
    · rw [hv] at e
      injection e with e
      subst e
      have e2 : w.heap[g]? = some (.cells cur _) := hbk
      rw [ho] at e2
      injection e2 with e2
      rw [e2] at hc
      cases hc
theorem Bk.turn {w w' : World} {col : Col} {B r g : Nat} {t : TypeId} {cs : Array Value} (h : Bk w col B r g t cs) (ht : Turn w w') : Bk w' col B r g t cs := by
  obtain ⟨row, hg, hr⟩ := ht
  refine ⟨h.blk.grown hg (fun e => ?_), h.c, h.b⟩
  obtain ⟨o, ho, hc⟩ := hr g e.symm
  have e2 : w.heap[g]? = some (.cells cs t (0, 0)) := h.blk
  rw [ho] at e2
  injection e2 with e2
  rw [e2] at hc
  cases hc
theorem Dts.turn {w w' : World} {a : Col} {B : Nat} {vs : List Value} {bl : List (List UInt8)} (h : Dts w a B vs bl) (ht : Turn w w') : Dts w' a B vs bl := ⟨h.1, fun i v x h1 h2 => (h.2 i v x h1 h2).turn ht⟩
theorem LayAt.turn {w w' : World} {ca : Col} {B o a : Nat} {bl : List (List UInt8)} (h : LayAt w ca B o a bl) (ht : Turn w w') : LayAt w' ca B o a bl := by
  obtain ⟨vo, va, vs, h1, h2, h3, h4, h5⟩ := h.ex
  exact ⟨⟨vo, va, vs, h1.turn ht, h2.turn ht, h3.turn ht, h4.turn ht, h5.turn ht⟩, h.ne, h.len⟩
theorem Tch.new2 {lo hi : Nat} {a b : Col} {u v v' : World} (h : Tch lo hi a b u v) {r : Nat} (hg : v.grownBy v' (some r)) (hr : u.heap.size ≤ r) : Tch lo hi a b u v' :=
  ⟨hg.os.trans h.os, hg.tape.trans h.tape, hg.output.trans h.output, Nat.le_trans h.size hg.size, h.hue, h.stay, fun i hi hn => (hg.block i (Nat.lt_of_lt_of_le hi h.size) (fun e => by injection e with e; omega)).trans (h.block i hi hn), fun ht b hb => h.tidy ht b (Nat.le_trans hg.size hb), h.neu⟩
theorem Tch.turn {lo hi : Nat} {a b : Col} {u v v' : World} (h : Tch lo hi a b u v) {row : Option Nat} (hg : v.grownBy v' row) (hr : ∀ q, row = some q → u.heap.size ≤ q) : Tch lo hi a b u v' := by
  cases row with
  | none => exact h.trans (Tch.of_below (below_of_only hg (fun g e => by cases e)))
  | some q => exact h.new2 hg (hr q rfl)

/-! ### a transaction's parts -/
abbrev Wt := Int × List UInt8
def wEnts (p : List Wt) : List Ent := p.map fun w => (w.1, escIs w.2)
def okW (s : Int) (p : List Wt) : Bool := p.all (fun w => w.2.length == 256) && rMay 1 s (wEnts p) 0 0
def layW (s : Int) (p : List Wt) : List (List UInt8) := rB 1 s (wEnts p) 0 0 :: p.map fun w => escB w.2
def rEnts (p : List Int) : List Ent := p.map fun n => (n, false)
def okR (s : Int) (p : List Int) : Bool := rMay 3 s (rEnts p) 0 0
def layR (s : Int) (p : List Int) : List (List UInt8) := [rB 3 s (rEnts p) 0 0]
def cutAt {α : Type} (k : Nat) (l : List α) (j : Nat) : List α := (l.drop (j * k)).take k
theorem cutAt_len {α : Type} (k : Nat) (l : List α) (j : Nat) : (cutAt k l j).length = min k (l.length - j * k) := by simp [cutAt]
theorem cutAt_at {α : Type} {k : Nat} {l : List α} {j i : Nat} {x : α} (h : (cutAt k l j)[i]? = some x) : i < k ∧ l[j * k + i]? = some x := by
  unfold cutAt at h
  rw [List.getElem?_take] at h
  split at h
  · rename_i hi; rw [List.getElem?_drop] at h; exact ⟨hi, h⟩
  · cases h
theorem layW_len {s : Int} {p : List Wt} (h : okW s p = true) : ∀ b ∈ layW s p, b.length = 256 := fun b hb => by
  unfold okW at h
  rw [Bool.and_eq_true, List.all_eq_true] at h
  rcases List.mem_cons.1 hb with rfl | hb
  · exact rB_len h.2 (by omega)
  · obtain ⟨w, hw, rfl⟩ := List.mem_map.1 hb
    rw [escB_length]
    simpa using h.1 w hw
theorem layR_len {s : Int} {p : List Int} (h : okR s p = true) : ∀ b ∈ layR s p, b.length = 256 := fun b hb => by
  rw [List.mem_singleton.1 hb]
  exact rB_len h (by omega)
/-- Writes that came in. -/
def WsIn (w : World) (A : Option Addr) (ws : List Wt) : Prop := ∀ (i : Nat) (n : Int) (b : List UInt8), ws[i]? = some (n, b) →
  ∃ a A2 n2 c2, A = some a ∧ w.cell? (a.add (i * 2)) = some (.int .i64 n) ∧ w.cell? ⟨(a.add (i * 2)).block, (a.add (i * 2)).off + 1, none⟩ = some (.slice A2 n2 c2) ∧ BytesAt w A2 n2 b ∧ n2 ≤ c2 ∧ c2 ≤ 140737488351232 ∧ (A2 = none → n2 = 0 ∧ c2 = 0)
theorem WsIn.below {w w' : World} {A : Option Addr} {ws : List Wt} (h : WsIn w A ws) (hb : Below w.heap.size w w') : WsIn w' A ws := fun i n b hi => by
  obtain ⟨a, A2, n2, c2, e1, e2, e3, e4, e5⟩ := h i n b hi
  exact ⟨a, A2, n2, c2, e1, (hb.cell (World.block_lt_of_cell? _ _ e2)).trans e2, (hb.cell (World.block_lt_of_cell? w _ e3)).trans e3, e4.below hb, e5⟩
theorem add_add_ (a : Addr) (i j : Nat) : (a.add i).add j = a.add (i + j) := by by_cases hi : i = 0 <;> by_cases hj : j = 0 <;> simp [Addr.add, hi, hj, Nat.add_assoc]
theorem WsIn.cut {w : World} {a : Addr} {ws : List Wt} (h : WsIn w (some a) ws) (k j : Nat) : WsIn w (some (a.add (j * k * 2))) (cutAt k ws j) := fun i n b hi => by
  obtain ⟨_, hi2⟩ := cutAt_at hi
  obtain ⟨a', A2, n2, c2, e1, e2, e3, e4⟩ := h (j * k + i) n b hi2
  injection e1 with e1
  subst e1
  have he : (a.add (j * k * 2)).add (i * 2) = a.add ((j * k + i) * 2) := by rw [add_add_, Nat.add_mul]
  exact ⟨_, A2, n2, c2, rfl, by rw [he]; exact e2, by rw [he]; exact e3, e4⟩
/-! ### a whole transaction, plain -/
def tHead (s : Int) (ws : List Wt) (rs : List Int) : List (List UInt8) := ((List.range (nch 48 ws.length)).flatMap fun j => layW s (cutAt 48 ws j)) ++ ((List.range (nch 60 rs.length)).flatMap fun j => layR s (cutAt 60 rs j))
def tSum (s : Int) (l : List (List UInt8)) : Nat := (crc (rS s) l.flatten).toNat
def tOk (s : Int) (ws : List Wt) (rs : List Int) : Bool := decide (ws.length ≤ 4096) && (decide (rs.length ≤ 4096) && (((List.range (nch 48 ws.length)).all fun j => okW s (cutAt 48 ws j)) && (((List.range (nch 60 rs.length)).all fun j => okR s (cutAt 60 rs j)) && rMay 2 s [] 0 0)))
def tB (s : Int) (ws : List Wt) (rs : List Int) : List (List UInt8) := tHead s ws rs ++ [rB 2 s [] (tSum s (tHead s ws rs)) 0]
theorem tOk_long {s : Int} {ws : List Wt} {rs : List Int} (h : 4096 < ws.length ∨ 4096 < rs.length) : tOk s ws rs = false := by
  unfold tOk
  rcases h with h | h
  · rw [decide_eq_false (by omega)]; rfl
  · rw [decide_eq_false (p := rs.length ≤ 4096) (by omega)]; simp
theorem tOk_w {s : Int} {ws : List Wt} {rs : List Int} {j : Nat} (hj : j < nch 48 ws.length) (h : okW s (cutAt 48 ws j) = false) : tOk s ws rs = false := by
  have : ((List.range (nch 48 ws.length)).all fun j => okW s (cutAt 48 ws j)) = false := List.all_eq_false.2 ⟨j, List.mem_range.2 hj, by simp [h]⟩
  unfold tOk
  rw [this]; simp
theorem tOk_r {s : Int} {ws : List Wt} {rs : List Int} {j : Nat} (hj : j < nch 60 rs.length) (h : okR s (cutAt 60 rs j) = false) : tOk s ws rs = false := by
  have : ((List.range (nch 60 rs.length)).all fun j => okR s (cutAt 60 rs j)) = false := List.all_eq_false.2 ⟨j, List.mem_range.2 hj, by simp [h]⟩
  unfold tOk
  rw [this]; simp
theorem tOk_s {s : Int} {ws : List Wt} {rs : List Int} (h : rMay 2 s [] 0 0 = false) : tOk s ws rs = false := by
  unfold tOk
  rw [h]; simp
theorem tOk_yes {s : Int} {ws : List Wt} {rs : List Int} (h1 : ws.length ≤ 4096) (h2 : rs.length ≤ 4096) (h3 : ∀ j, j < nch 48 ws.length → okW s (cutAt 48 ws j) = true) (h4 : ∀ j, j < nch 60 rs.length → okR s (cutAt 60 rs j) = true) (h5 : rMay 2 s [] 0 0 = true) : tOk s ws rs = true := by
  unfold tOk
  rw [decide_eq_true h1, decide_eq_true h2, h5, List.all_eq_true.2 (fun j hj => h3 j (List.mem_range.1 hj)), List.all_eq_true.2 (fun j hj => h4 j (List.mem_range.1 hj))]
  rfl
theorem rMay2 (s : Int) (sum : Nat) : rMay 2 s [] sum 0 = rMay 2 s [] 0 0 := by
  simp [rMay, tail?]
theorem subs_all {β : Type} (N : Nat) (f : Nat → List β) : (subs N N).flatMap (fun x => f x.1) = (List.range N).flatMap f := by
  have h : ∀ j, j ≤ N → (subs N j).flatMap (fun x => f x.1) = (List.range j).flatMap f := fun j => by
    induction j with
    | zero => intro _; rfl
    | succ j ih => intro hj; rw [subs_succ (by omega), List.range_succ, List.flatMap_append, List.flatMap_append, ih (by omega)]; simp
  exact h N (Nat.le_refl _)
theorem subs_mem {N j : Nat} (h : j < N) : (⟨j, h⟩ : Part N) ∈ subs N N := by
  unfold subs
  exact List.mem_filterMap.2 ⟨j, List.mem_range.2 h, by simp [h]⟩
/-- A row of blocks, in memory. -/
def Rows (w : World) (col : Col) (B r : Nat) (v : Value) (bl : List (List UInt8)) : Prop := ∃ vs, Row w col B r 31 1 v bl.length vs ∧ Dts w col B vs bl
/-- What Lay answers. -/
def Laid (w : World) (s : Int) (ws : List Wt) (rs : List Int) (e : Ending) (w' : World) : Prop :=
  (tOk s ws rs = false ∧ e = .returned (.tuple #[.slice none 0 0, .int .i64 22]) ∧ Below w.heap.size w w') ∨
  (tOk s ws rs = true ∧ ∃ v col, e = .returned (.tuple #[v, .int .i64 0]) ∧ Below w.heap.size w w' ∧ Rows w' col w.heap.size 16 v (tB s ws rs))
end Go.Proofs.Ytifamhmiibhohaa.Mem

namespace Go.Proofs.Ytifamhmiibhohaa.Mem
open Go.RowKit Go.Proofs.Ytifamhmiibhohaa Go.Proofs.Ytifamhmiibhohaa.Wire Go.Proofs.Ytifamhmiibhohaa.Log Go.Shelf
set_option maxHeartbeats 16000000
set_option maxRecDepth 100000
set_option linter.unusedVariables false
set_option linter.unusedSimpArgs false
attribute [local go_sem] Oper.semAt_some
theorem run_store_func (P : Program) (w : World) (a : Addr) (f : Fn) (x y : Array Value) (m : Mode) : (store a (.func f x y) m).run P w = stored P w a (.func f x y) m := run_store P w a _ m rfl
attribute [local go_sem] run_store_func

theorem infoEntL : (Try.prog.info? 46).map (fun i => (i.zero, i.size, i.bytes)) = some (some (.agg #[.int .i64 0, .bool false]), 2, 16) := by kernel_rfl
/-- Lay's own boxes. -/
structure LayB (w W : World) (col : Col) (b : Nat) (s : Int) (fv : Value) : Prop where
  t : Tch 16 24 (fun _ => 0) col w W
  q0 : Bk W col b 19 b 3 #[.int .i64 s]
  q1 : Bk W col b 19 (b + 1) 25 #[.slice none 0 0]
  q2 : Bk W col b 19 (b + 2) 26 #[.int .i64 0]
  q5 : Bk W col b 19 (b + 5) 47 #[fv]
  n6 : col (b + 6) = 0 ∧ col (b + 7) = 0 ∧ b + 8 ≤ W.heap.size
theorem LayB.turn {w W W' : World} {col : Col} {b : Nat} {s : Int} {fv : Value} (h : LayB w W col b s fv) {row : Option Nat} (hg : W.grownBy W' row) (hr : ∀ q, row = some q → w.heap.size ≤ q ∧ ∃ o : Obj, W.heap[q]? = some o ∧ o.isCells = false) : LayB w W' col b s fv := by
  have ht : Turn W W' := ⟨row, hg, fun q e => (hr q e).2⟩
  exact ⟨h.t.turn hg (fun q e => (hr q e).1), h.q0.turn ht, h.q1.turn ht, h.q2.turn ht, h.q5.turn ht, h.n6.1, h.n6.2.1, Nat.le_trans h.n6.2.2 hg.size⟩
theorem LayB.keep {w W W' : World} {ca cb : Col} {b lo hi : Nat} {s : Int} {fv : Value} (h : LayB w W ca b s fv) (ht : Tch lo hi ca cb W W') (h1 : 16 ≤ lo) (h2 : hi ≤ 24) (hr : 20 ≤ lo ∨ hi ≤ 19) : LayB w W' cb b s fv :=
  ⟨h.t.trans (ht.mono h1 h2), h.q0.keep ht (by omega), h.q1.keep ht (by omega), h.q2.keep ht (by omega), h.q5.keep ht (by omega), by rw [ht.hue _ (by have := h.n6.2.2; omega) (by rw [h.n6.1]; omega)]; exact h.n6.1, by rw [ht.hue _ (by have := h.n6.2.2; omega) (by rw [h.n6.2.1]; omega)]; exact h.n6.2.1, Nat.le_trans h.n6.2.2 ht.size⟩
theorem LayB.box {w W W' : World} {ca cb : Col} {b lo hi : Nat} {s : Int} {fv : Value} (h : LayB w W ca b s fv) (ht : Tch lo hi ca cb W W') (h1 : 16 ≤ lo) : KBox (b + 6) (b + 7) W W' :=
  ⟨ht.block _ (by have := h.n6.2.2; omega) (by rw [h.n6.1]; omega), ht.block _ (by have := h.n6.2.2; omega) (by rw [h.n6.2.1]; omega)⟩
/-- The second range's invariant. -/
structure LayK (w W : World) (col : Col) (b : Nat) (s : Int) (fv : Value) (bl : List (List UInt8)) (q D : Nat) : Prop where
  lb : LayB w W col b s fv
  la : LayAt W col b (b + 3) (b + 4) bl
  nq : col q = 0 ∧ col (q + 1) = 0 ∧ q + 2 ≤ W.heap.size
  md : W.heap[D]? = some (.deferred (some []))
def LayI2 (w : World) (b : Nat) (s : Int) (fv : Value) (rs : List Int) (m : Nat) (bl : List (List UInt8)) (q D : Nat) (pre : List (Part (nch 60 m))) (W : World) : Prop := ∃ col, LayK w W col b s fv (bl ++ pre.flatMap fun x => layR s (cutAt 60 rs x.1)) q D ∧ ∀ x ∈ pre, okR s (cutAt 60 rs x.1) = true
/-- Lay has given up: what it answers. -/
def LayX (w W : World) (b : Nat) : Prop := ∃ col, Tch 16 24 (fun _ => 0) col w W ∧ Bk W col b 19 (b + 1) 25 #[.slice none 0 0] ∧ Bk W col b 19 (b + 2) 26 #[.int .i64 22]
theorem LayX.turn {w W W' : World} {b : Nat} (h : LayX w W b) {row : Option Nat} (hg : W.grownBy W' row) (hr : ∀ q, row = some q → w.heap.size ≤ q ∧ ∃ o : Obj, W.heap[q]? = some o ∧ o.isCells = false) : LayX w W' b := by
  have ht : Turn W W' := ⟨row, hg, fun q e => (hr q e).2⟩
  obtain ⟨col, h1, h2, h3⟩ := h
  exact ⟨col, h1.turn hg (fun q e => (hr q e).1), h2.turn ht, h3.turn ht⟩
def LayI (w : World) (b : Nat) (s : Int) (fv : Value) (ws : List Wt) (n : Nat) (pre : List (Part (nch 48 n))) (W : World) : Prop := ∃ col, LayB w W col b s fv ∧ LayAt W col b (b + 3) (b + 4) (pre.flatMap fun x => layW s (cutAt 48 ws x.1)) ∧ ∀ x ∈ pre, okW s (cutAt 48 ws x.1) = true
def LayJ2 (w : World) (b : Nat) (s : Int) (rs : List Int) (m D : Nat) (cd : Code) (pre : List (Part (nch 60 m))) (W : World) : Prop := (cd = .ret ∧ (∃ j, j < nch 60 m ∧ okR s (cutAt 60 rs j) = false) ∧ W.heap[D]? = some (.deferred (some []))) ∧ LayX w W b
def LayJ (w : World) (b : Nat) (s : Int) (ws : List Wt) (n : Nat) (cd : Code) (pre : List (Part (nch 48 n))) (W : World) : Prop := (cd = .ret ∧ ∃ j, j < nch 48 n ∧ okW s (cutAt 48 ws j) = false) ∧ LayX w W b
theorem row_bytes {w : World} {col : Col} {B r n : Nat} {v : Value} {x : List UInt8} (h : Row w col B r 5 1 v n (bvl x)) : ∃ (A : Option Addr) (c : Nat), v = .slice A n c ∧ BytesAt w A n x := by
  have ho := h.own
  obtain ⟨_, hh⟩ := h.own
  rcases hh with ⟨hv, hn⟩ | ⟨g, cap, cur, hv, _⟩
  · exact ⟨none, 0, by rw [hv, hn], by rw [hv, ← hn] at ho; exact BytesAt.of_own ho⟩
  · exact ⟨_, cap, hv, by rw [hv] at ho; exact BytesAt.of_own ho⟩
theorem flatW_len {N : Nat} (s : Int) (ws : List Wt) (l : List (Part N)) : (l.flatMap fun x => layW s (cutAt 48 ws x.1)).length ≤ l.length * 49 := by
  induction l with
  | nil => simp
  | cons y l ih =>
    rw [List.flatMap_cons, List.length_append, List.length_cons]
    have : (layW s (cutAt 48 ws y.1)).length ≤ 49 := by
      unfold layW
      rw [List.length_cons, List.length_map, cutAt_len]; omega
    omega
theorem flatR_len {N : Nat} (s : Int) (rs : List Int) (l : List (Part N)) : (l.flatMap fun x => layR s (cutAt 60 rs x.1)).length = l.length := by
  induction l with
  | nil => rfl
  | cons y l ih => rw [List.flatMap_cons, List.length_append, ih, List.length_cons]; simp [layR]; omega
theorem nch_few {n : Nat} (hn : n ≤ 4096) : nch 48 n ≤ 100 := by
  unfold nch
  have := Nat.div_le_div_right (c := 48) (show n + 48 - 1 ≤ 4143 by omega)
  omega
theorem lay_main (s : Int) (A R : Option Addr) (n c m d : Nat) (ws : List Wt) (rs : List Int) (w : World) (hn : n ≤ 4096) (hm : m ≤ 4096) (hw : WsIn w A ws) (hwl : ws.length = n) (hnc : n ≤ c) (hcm : c ≤ 9223372036854775807) (hA : 0 < n → A ≠ none)
    (hr : RowAt w R m (ints rs)) (hmd : m ≤ d) (hdm : d ≤ 9223372036854775807) (hR : 0 < m → R ≠ none) :
    Calls Try.prog 6 #[.int .i64 s, .slice A n c, .slice R m d] w fun e w' => Laid w s ws rs e w' := by
  have hn2 : ¬ (4096 : Int) < (n : Int) := by omega
  have hm2 : ¬ (4096 : Int) < (m : Int) := by omega
  obtain ⟨b, hb⟩ : ∃ b, w.heap.size = b := ⟨_, rfl⟩
  have HW := Lib.hid hw
  have HR := Lib.hid hr
  clear hw hr
  refine (callsIn_wide (n := 9)).1 ?_
  refine callsIn_of_wp_marks Try.func6 rfl trivial ?_ rfl
  simp only [Try.ntmps6, List.size_toArray, List.length_cons, List.length_nil, Nat.reduceAdd, Nat.reduceSub, Array.replicate_succ, Array.replicate_zero, List.push_toArray, List.append_toArray, List.nil_append, List.cons_append]
  obtain ⟨v1, e1⟩ : ∃ v, w.alloc (.cells #[.int .i64 s] 3) = v := ⟨_, rfl⟩
  obtain ⟨v2, e2⟩ : ∃ v, v1.alloc (.cells #[.slice none 0 0] 25) = v := ⟨_, rfl⟩
  obtain ⟨v3, e3⟩ : ∃ v, v2.alloc (.cells #[.int .i64 0] 26) = v := ⟨_, rfl⟩
  obtain ⟨v4, e4⟩ : ∃ v, v3.alloc (.cells #[.slice none 0 0] 25) = v := ⟨_, rfl⟩
  obtain ⟨v5, e5⟩ : ∃ v, v4.alloc (.cells #[.slice none 0 0] 31) = v := ⟨_, rfl⟩
  obtain ⟨v6, e6⟩ : ∃ v, v5.alloc (.cells #[.nilFunc] 47) = v := ⟨_, rfl⟩
  have s1 : v1.heap.size = b + 1 := by rw [← e1]; simp [hb]
  have s2 : v2.heap.size = b + 2 := by rw [← e2]; simp [s1]
  have s3 : v3.heap.size = b + 3 := by rw [← e3]; simp [s2]
  have s4 : v4.heap.size = b + 4 := by rw [← e4]; simp [s3]
  have s5 : v5.heap.size = b + 5 := by rw [← e5]; simp [s4]
  have s6 : v6.heap.size = b + 6 := by rw [← e6]; simp [s5]
  have a56 : Below v5.heap.size v5 v6 := e6 ▸ (Below.refl v5.heap.size v5).alloc (Nat.le_refl _) _
  have a45 : Below v4.heap.size v4 v5 := e5 ▸ (Below.refl v4.heap.size v4).alloc (Nat.le_refl _) _
  have a34 : Below v3.heap.size v3 v4 := e4 ▸ (Below.refl v3.heap.size v3).alloc (Nat.le_refl _) _
  have a23 : Below v2.heap.size v2 v3 := e3 ▸ (Below.refl v2.heap.size v2).alloc (Nat.le_refl _) _
  have a12 : Below v1.heap.size v1 v2 := e2 ▸ (Below.refl v1.heap.size v1).alloc (Nat.le_refl _) _
  have a01 : Below w.heap.size w v1 := e1 ▸ (Below.refl w.heap.size w).alloc (Nat.le_refl _) _
  have a46 := below_all a45 a45.size a56
  have a36 := below_all a34 a34.size a46
  have a26 := below_all a23 a23.size a36
  have a16 := below_all a12 a12.size a26
  have a06 := below_all a01 a01.size a16
  have k0 : Blk v6 b 3 #[.int .i64 s] := (show Blk v1 b 3 #[.int .i64 s] by rw [← e1, ← hb]; exact Blk.new _ _ _).belowAll a16
  have k1 : Blk v6 (b + 1) 25 #[.slice none 0 0] := (show Blk v2 (b + 1) 25 #[.slice none 0 0] by rw [← e2, ← s1]; exact Blk.new _ _ _).belowAll a26
  have k2 : Blk v6 (b + 2) 26 #[.int .i64 0] := (show Blk v3 (b + 2) 26 #[.int .i64 0] by rw [← e3, ← s2]; exact Blk.new _ _ _).belowAll a36
  have k3 : Blk v6 (b + 3) 25 #[.slice none 0 0] := (show Blk v4 (b + 3) 25 #[.slice none 0 0] by rw [← e4, ← s3]; exact Blk.new _ _ _).belowAll a46
  have k4 : Blk v6 (b + 4) 31 #[.slice none 0 0] := (show Blk v5 (b + 4) 31 #[.slice none 0 0] by rw [← e5, ← s4]; exact Blk.new _ _ _).belowAll a56
  have k5 : Blk v6 (b + 5) 47 #[.nilFunc] := by rw [← e6, ← s5]; exact Blk.new _ _ _
  obtain ⟨fv, hfv⟩ : ∃ fv : Value, fv = .func (.func 15) #[] #[.pointer (some ⟨b + 3, 0, none⟩), .pointer (some ⟨b + 4, 0, none⟩)] := ⟨_, rfl⟩
  obtain ⟨v7, e7⟩ : ∃ v, v6.setCell ⟨b + 5, 0, none⟩ fv = v := ⟨_, rfl⟩
  obtain ⟨v8, e8⟩ : ∃ v, v7.alloc (.cells #[.slice A n c] 22) = v := ⟨_, rfl⟩
  obtain ⟨v9, e9⟩ : ∃ v, v8.alloc (.cells #[.int .i64 48] 3) = v := ⟨_, rfl⟩
  have s7 : v7.heap.size = b + 6 := by rw [← e7]; simp [World.setCell, s6]
  have s8 : v8.heap.size = b + 7 := by rw [← e8]; simp [s7]
  have s9 : v9.heap.size = b + 8 := by rw [← e9]; simp [s8]
  have a78 : Below v7.heap.size v7 v8 := e8 ▸ (Below.refl v7.heap.size v7).alloc (Nat.le_refl _) _
  have a89 : Below v8.heap.size v8 v9 := e9 ▸ (Below.refl v8.heap.size v8).alloc (Nat.le_refl _) _
  have a79 := below_all a78 a78.size a89
  have a09 : Below w.heap.size w v9 := below_all (show Below w.heap.size w v7 by rw [← e7]; exact a06.setCell (p := ⟨b + 5, 0, none⟩) (by show w.heap.size ≤ b + 5; omega) _) (by omega) a79
  have m0 : Blk v9 b 3 #[.int .i64 s] := (show Blk v7 b 3 #[.int .i64 s] by rw [← e7]; exact k0.far (p := ⟨b + 5, 0, none⟩) (by show b ≠ b + 5; omega) _).belowAll a79
  have m1 : Blk v9 (b + 1) 25 #[.slice none 0 0] := (show Blk v7 (b + 1) 25 #[.slice none 0 0] by rw [← e7]; exact k1.far (p := ⟨b + 5, 0, none⟩) (by show b + 1 ≠ b + 5; omega) _).belowAll a79
  have m2 : Blk v9 (b + 2) 26 #[.int .i64 0] := (show Blk v7 (b + 2) 26 #[.int .i64 0] by rw [← e7]; exact k2.far (p := ⟨b + 5, 0, none⟩) (by show b + 2 ≠ b + 5; omega) _).belowAll a79
  have m3 : Blk v9 (b + 3) 25 #[.slice none 0 0] := (show Blk v7 (b + 3) 25 #[.slice none 0 0] by rw [← e7]; exact k3.far (p := ⟨b + 5, 0, none⟩) (by show b + 3 ≠ b + 5; omega) _).belowAll a79
  have m4 : Blk v9 (b + 4) 31 #[.slice none 0 0] := (show Blk v7 (b + 4) 31 #[.slice none 0 0] by rw [← e7]; exact k4.far (p := ⟨b + 5, 0, none⟩) (by show b + 4 ≠ b + 5; omega) _).belowAll a79
  have m5 : Blk v9 (b + 5) 47 #[fv] := (show Blk v7 (b + 5) 47 #[fv] by rw [← e7]; exact k5.set_ 0 _).belowAll a79
  have m6 : Blk v9 (b + 6) 22 #[.slice A n c] := (show Blk v8 (b + 6) 22 #[.slice A n c] by rw [← e8, ← s7]; exact Blk.new _ _ _).belowAll a89
  have m7 : Blk v9 (b + 7) 3 #[.int .i64 48] := by rw [← e9, ← s8]; exact Blk.new _ _ _
  have f5 : v6.cell? ⟨b + 5, 0, none⟩ = some .nilFunc := k5.cell 0
  have g5 : v6.frozen? ⟨b + 5, 0, none⟩ = false := k5.frozen 0
  have E6 := Lib.hid (show (((((w.alloc (.cells #[.int .i64 s] 3)).alloc (.cells #[.slice none 0 0] 25)).alloc (.cells #[.int .i64 0] 26)).alloc (.cells #[.slice none 0 0] 25)).alloc (.cells #[.slice none 0 0] 31)).alloc (.cells #[.nilFunc] 47) = v6 by rw [e1, e2, e3, e4, e5, e6])
  have E7 := Lib.hid (show v6.setCell ⟨b + 5, 0, none⟩ (.func (.func 15) #[] #[.pointer (some ⟨b + 3, 0, none⟩), .pointer (some ⟨b + 4, 0, none⟩)]) = v7 by rw [← hfv]; exact e7)
  have E9 := Lib.hid (show (v7.alloc (.cells #[.slice A n c] 22)).alloc (.cells #[.int .i64 48] 3) = v9 by rw [e8, e9])
  have HCW := Lib.hid (chunkW_any v7 A n c 48 (by omega))
  rw [show ((48 : Nat) : Int) = 48 from rfl] at HCW
  have S7 := Lib.hid s7
  have M := Lib.hid (And.intro m0 (And.intro m1 (And.intro m2 (And.intro m3 (And.intro m4 (And.intro m5 (And.intro m6 m7)))))))
  have S9 := Lib.hid s9
  have A09 := Lib.hid a09
  have HFV := Lib.hid hfv
  clear e1 e2 e3 e4 e5 e6 e7 e8 e9 s1 s2 s3 s4 s5 s6 s7 s8 s9 a56 a45 a34 a23 a12 a01 a46 a36 a26 a16 a06 k0 k1 k2 k3 k4 k5 a78 a89 a79 a09 m0 m1 m2 m3 m4 m5 m6 m7 hfv
  gi_wp2_with (first | (rw [E6.out]; simp only [Nat.add_assoc, Nat.reduceAdd]) | fail)
  go_simp
  rw [E7.out]
  clear f5 g5
  gi_wp2
  refine ⟨trivial, ?_⟩
  refine CallsIn.mono (callsIn_wide.2 HCW.out) ?_
  rintro e w' ⟨rfl, rfl⟩
  rw [E9.out, S7.out]
  gi_wp2
  obtain ⟨m0, m1, m2, m3, m4, m5, m6, m7⟩ := M.out
  have s9 := S9.out
  have a09 := A09.out
  obtain ⟨col0, hcol0⟩ : ∃ col0 : Col, col0 = fun g => if g = b + 3 ∨ g = b + 4 then 18 else if g = b ∨ g = b + 1 ∨ g = b + 2 ∨ g = b + 5 then 19 else 0 := ⟨_, rfl⟩
  have c3 : col0 (b + 3) = 18 := by rw [hcol0]; simp
  have c4 : col0 (b + 4) = 18 := by rw [hcol0]; simp
  have c0 : col0 b = 19 := by rw [hcol0]; simp
  have c1 : col0 (b + 1) = 19 := by rw [hcol0]; simp
  have c2 : col0 (b + 2) = 19 := by rw [hcol0]; simp
  have c5 : col0 (b + 5) = 19 := by rw [hcol0]; simp
  have cz : ∀ g, g < b ∨ b + 6 ≤ g → col0 g = 0 := fun g hg => by rw [hcol0]; simp only; rw [if_neg (by omega), if_neg (by omega)]
  have cl : ∀ g, col0 g = 0 ∨ (16 ≤ col0 g ∧ col0 g < 24) := fun g => by
    rw [hcol0]; simp only
    split
    · exact .inr (by omega)
    · split
      · exact .inr (by omega)
      · exact .inl rfl
  have T9 : Tch 16 24 (fun _ => 0) col0 w v9 := ⟨a09.os, a09.tape, a09.output, a09.size, fun g hg _ => cz g (by omega), fun g _ h => by omega, fun g hg _ => a09.block g hg, fun _ g hg => cz g (by omega), fun g _ => by
    rcases cl g with h | h
    · exact .inl (by omega)
    · exact .inr (.inl h)⟩
  have LB := Lib.hid (show LayB w v9 col0 b s fv from ⟨T9, ⟨m0, c0, Nat.le_refl _⟩, ⟨m1, c1, by omega⟩, ⟨m2, c2, by omega⟩, ⟨m5, c5, by omega⟩, cz _ (by omega), cz _ (by omega), by omega⟩)
  have LA := Lib.hid (show LayAt v9 col0 b (b + 3) (b + 4) [] from ⟨⟨_, _, [], ⟨m3, c3, by omega⟩, ⟨m4, c4, by omega⟩, Row.nil _ _ _ _ _ _, Row.nil _ _ _ _ _ _, Dts.nil _ _ _⟩, by omega, fun x h => by cases h⟩)
  have hws9 : w.heap.size ≤ v9.heap.size := by omega
  clear m0 m1 m2 m3 m4 m5 a09 T9 hcol0 c0 c1 c2 c3 c4 c5 cz cl M S9 E6 E7 E9 S7 HCW
  refine wpIn_rangeFunc_ownG (w := v9) (F := Fence.wide) (n := 9) rfl (by omega) (gf := 32) (lb := #[.pointer (some ⟨b + 6, 0, none⟩), .pointer (some ⟨b + 6 + 1, 0, none⟩)]) rfl trivial (enters_of Try.func32 (by kernel_rfl) rfl)
    (chunkW_stops (9 - 1) A n c 48 (b + 6) (b + 6 + 1) v9 (by omega) (by omega) hn hnc hcm hA (m6.cell 0) (m7.cell 0) (by omega) (by omega)) KBox.trans (KBox.put (by omega) (by omega)) (Below.refl _ _) (fun _ => rfl)
    (LayI w b s fv ws n) (LayJ w b s ws n)
    (fun pre W W' row hs hg hr => by
      obtain ⟨col, h1, h2, h3⟩ := hs
      exact ⟨col, h1.turn hg (fun q e => ⟨Nat.le_trans hws9 (hr q e).1, (hr q e).2⟩), h2.turn ⟨row, hg, fun q e => (hr q e).2⟩, h3⟩)
    (fun cd pre W W' row hs hg hr => ⟨hs.1, hs.2.turn hg (fun q e => ⟨Nat.le_trans hws9 (hr q e).1, (hr q e).2⟩)⟩)
    ⟨col0, LB.out, LA.out, fun x h => by cases h⟩ ?a1 ?assign ?body ?done ?stop
  case assign =>
    intro l x W K hK
    simp only [chunkV]
    gi_wp2
    exact hK
  case body =>
    rintro l pre x W ⟨col, h1, h2, h3⟩ hlen
    obtain ⟨j, hj⟩ : ∃ j, x.1 = j := ⟨_, rfl⟩
    have hjn : j < nch 48 n := by rw [← hj]; exact x.2
    have hjk : j * 48 < n := (nch_iff (by omega)).1 hjn
    obtain ⟨a, rfl⟩ : ∃ a, A = some a := Option.ne_none_iff_exists'.1 (hA (by omega))
    obtain ⟨A', hA'⟩ : ∃ A', a.add (j * 48 * 2) = A' := ⟨_, rfl⟩
    obtain ⟨e, he⟩ : ∃ e, min 48 (n - j * 48) = e := ⟨_, rfl⟩
    obtain ⟨p, hp⟩ : ∃ p, cutAt 48 ws j = p := ⟨_, rfl⟩
    have hpl : p.length = e := by rw [← hp, cutAt_len, hwl, he]
    have he1 : 1 ≤ e ∧ e ≤ 48 := by omega
    have HP := Lib.hid (show WsIn w (some A') p from by
      have := (HW.out.cut 48 j)
      rw [hA', hp] at this
      exact this)
    obtain ⟨bl, hbl⟩ : ∃ bl, (pre.flatMap fun x => layW s (cutAt 48 ws x.1)) = bl := ⟨_, rfl⟩
    have hbll : bl.length ≤ 5000 := by
      have h5 := flatW_len s ws pre
      rw [hbl] at h5
      have := nch_few hn
      omega
    rw [hbl] at h2
    have HBL := Lib.hid hbl
    have HPP := Lib.hid hp
    have H3 := Lib.hid h3
    have hj2 := hj
    rw [hj, Option.map_some, hA', he]
    obtain ⟨r0, hr0⟩ : ∃ r0, W.heap.size = r0 := ⟨_, rfl⟩
    obtain ⟨y1, ey1⟩ : ∃ y, W.alloc (.cells #[.int .i64 1, .int .i64 s, .slice none 0 0, .int .u32 0, .int .i64 0] 36) = y := ⟨_, rfl⟩
    obtain ⟨cy, ecy⟩ : ∃ cy, paint col r0 22 = cy := ⟨_, rfl⟩
    have ty : Tch 22 23 col cy W y1 := by
      have t0 : Tch 22 23 col col W y1 := by rw [← ey1]; exact (Tch.refl _ _ _ _).alloc _
      rw [← ecy]
      exact t0.paint (by omega) (by rw [← ey1]; simp; omega) (by omega)
    have LB1 := Lib.hid (h1.keep ty (by omega) (by omega) (by omega))
    have LA1 := Lib.hid (h2.keep ty (by omega) (by omega))
    have KR1 := Lib.hid (show Bk y1 cy b 22 r0 36 #[.int .i64 1, .int .i64 s, .slice none 0 0, .int .u32 0, .int .i64 0] from ⟨by rw [← ey1, ← hr0]; exact Blk.new _ _ _, by rw [← ecy, paint_self], by have := h1.t.size; omega⟩)
    have TY := Lib.hid (show Tch 16 24 col cy W y1 from ty.mono (by omega) (by omega))
    have KO1 := Lib.hid (show KeepsOthers W y1 by rw [← ey1]; exact KeepsOthers.alloc _ _)
    have HB0 := Lib.hid h1
    have EY := Lib.hid ey1
    have ER := Lib.hid hr0
    have w0 : W.cell? ⟨b, 0, none⟩ = some (.int .i64 s) := h1.q0.blk.cell 0
    clear h1 h2 h3 ty ey1 hr0 ecy hbl hp hA' he hj
    gi_wp2_with (first | rw [EY.out, ER.out] | fail)
    gi_loopw [13, 46] (fun dd ii wr => ∃ (i : Nat) (cr : Col) (vd ve : Value) (ds : List Value), vd = dd ∧ ii = .int .i64 i ∧ i ≤ e ∧ LayB w wr cr b s fv ∧ LayAt wr cr b (b + 3) (b + 4) bl ∧ Bk wr cr b 22 r0 36 #[.int .i64 1, .int .i64 s, ve, .int .u32 0, .int .i64 0] ∧ Row wr cr b 20 31 1 vd i ds ∧ Dts wr cr b ds ((p.take i).map fun w => escB w.2) ∧ Row wr cr b 21 46 2 ve i (ecells (wEnts (p.take i))) ∧ KeepsOthers W wr ∧ Tch 16 24 col cr W wr ∧ (∀ y ∈ p.take i, y.2.length = 256)) (fun _ ii _ => e - (intOf ii).toNat)
    case atStart => exact ⟨0, cy, _, _, [], rfl, rfl, by omega, LB1.out, LA1.out, KR1.out, Row.nil _ _ _ _ _ _, Dts.nil _ _ _, Row.nil _ _ _ _ _ _, KO1.out, TY.out, fun y h => by simp at h⟩
    case round =>
      obtain ⟨i, cr, vd, ve, ds, rfl, rfl, hi, g1, g2, g3, g4, g5, g6, g7, g8, g9⟩ := hrel
      have hwsz : w.heap.size ≤ wr.heap.size := g1.t.size
      have hbsz : b ≤ wr.heap.size := by omega
      have hdl : ds.length = i := by have := g4.own.1; omega
      by_cases hlt : i < e
      · have hii : (i : Int) < (e : Int) := by omega
        have hi0 : (0 : Int) ≤ (i : Int) := by omega
        have hin : ((i : Int)).toNat = i := by omega
        obtain ⟨⟨nn, bb⟩, hx⟩ : ∃ y, p[i]? = some y := ⟨_, List.getElem?_eq_getElem (by omega)⟩
        have htk : p.take (i + 1) = p.take i ++ [(nn, bb)] := by rw [List.take_add_one, hx]; rfl
        obtain ⟨a', A2, n2, c2, ea', k0, k1, hby, q1, q2, q3⟩ := (HP.out.below (g1.t.below (Nat.le_refl _) (fun i _ => by omega))) i nn bb hx
        injection ea' with ea'
        subst ea'
        have HX := Lib.hid hx
        have HTK := Lib.hid htk
        obtain ⟨r1, hr1⟩ : ∃ r1, wr.heap.size = r1 := ⟨_, rfl⟩
        obtain ⟨y2, ey2⟩ : ∃ y, wr.alloc (.cells #[.int .i64 nn, .slice A2 n2 c2] 52) = y := ⟨_, rfl⟩
        have b2 : Below wr.heap.size wr y2 := ey2 ▸ (Below.refl wr.heap.size wr).alloc (Nat.le_refl _) _
        have t2 : Tch 16 16 cr cr wr y2 := Tch.of_below b2
        have hc1 : cr r1 = 0 := g1.t.tidy (fun _ _ => rfl) r1 (by omega)
        have K1 := Lib.hid (show Bk y2 cr b 0 r1 52 #[.int .i64 nn, .slice A2 n2 c2] from ⟨by rw [← ey2, ← hr1]; exact Blk.new _ _ _, hc1, by omega⟩)
        have G1 := Lib.hid (g1.keep t2 (by omega) (by omega) (by omega))
        have G2 := Lib.hid (g2.keep t2 (by omega) (by omega))
        have G3 := Lib.hid (g3.keep t2 (by omega))
        have G4 := Lib.hid (g4.keep t2 (by omega))
        have G5 := Lib.hid (g5.keep t2 (by omega))
        have G6 := Lib.hid (g6.keep t2 (by omega))
        have G7 := Lib.hid (g7.trans (KeepsOthers.below b2))
        have G8 := Lib.hid (g8.trans (t2.any (Nat.le_refl _)))
        have G9 := Lib.hid g9
        have HBY := Lib.hid (hby.below b2)
        have EY2 := Lib.hid ey2
        have ER1 := Lib.hid hr1
        have x1 : y2.cell? ⟨r1, 1, none⟩ = some (.slice A2 n2 c2) := K1.out.blk.cell 1
        have hb2 : b ≤ y2.heap.size := by have := b2.size; omega
        clear g1 g2 g3 g4 g5 g6 g7 g8 g9 hx htk hby b2 t2 ey2 hr1 hc1
        by_cases hl : n2 = 256
        · subst hl
          have hd : (((256 : Nat) : Int) != 256) = false := by decide
          have hbl : bb.length = 256 := by have := HBY.out.len; simpa using this
          have HE := Lib.hid (escape_any A2 256 c2 bb y2 q1 (by omega) (by omega) q3 HBY.out)
          gi_wp2_with (first | rw [EY2.out, ER1.out] | fail)
          first
          | refine ⟨trivial, ?_⟩
          | skip
          refine CallsIn.mono (CallsIn.inRound l (callsIn_wide.2 HE.out)) ?_
          rintro e' y4 ⟨v4, rfl, b4, o4⟩
          obtain ⟨g4, cp4, _, rfl, hg4, _⟩ := own_form o4 (by omega)
          obtain ⟨isE, hisE⟩ : ∃ isE, escIs bb = isE := ⟨_, rfl⟩
          obtain ⟨cr4, ecr4⟩ : ∃ cr4, paint cr g4 1 = cr4 := ⟨_, rfl⟩
          have t4 : Tch 16 16 cr cr4 y2 y4 := by rw [← ecr4]; exact (Tch.of_below b4).paint hg4 (o4.lt _ rfl).2 (by omega)
          have D4 := Lib.hid (show Row y4 cr4 b 1 5 1 (.slice (some ⟨g4, 0, none⟩) 256 cp4) 256 (bvl (escB bb)) from ⟨own_mono o4 hb2, fun g e => by injection e with e; subst e; rw [← ecr4, paint_self]⟩)
          obtain ⟨y5, ey5⟩ : ∃ y, y4.alloc (.cells #[.slice (some ⟨g4, 0, none⟩) 256 cp4] 31) = y := ⟨_, rfl⟩
          have t5 : Tch 16 16 cr4 cr4 y4 y5 := by rw [← ey5]; exact (Tch.refl _ _ _ _).alloc _
          have X5 := Lib.hid (show RowAt y5 (some ⟨y4.heap.size, 0, none⟩) (1 * 1) [.slice (some ⟨g4, 0, none⟩) 256 cp4] by rw [← ey5]; exact lit_rowN y4 31 [.slice (some ⟨g4, 0, none⟩) 256 cp4] (1 * 1) y4.heap.size rfl rfl)
          have t45 := t4.trans t5
          have M1 := Lib.hid (G1.out.keep t45 (by omega) (by omega) (by omega))
          have M2 := Lib.hid (G2.out.keep t45 (by omega) (by omega))
          have M3 := Lib.hid (G3.out.keep t45 (by omega))
          have M4 := Lib.hid (G4.out.keep t45 (by omega))
          have M5 := Lib.hid ((G5.out.keep t45 (by omega)).snoc (D4.out.keep t5 (by omega)))
          have M6 := Lib.hid (G6.out.keep t45 (by omega))
          have M7 := Lib.hid (show KeepsOthers W y5 by rw [← ey5]; exact (G7.out.trans (KeepsOthers.below b4)).trans (KeepsOthers.alloc _ _))
          have M8 := Lib.hid (G8.out.trans (t45.any (Nat.le_refl _)))
          have K5 := Lib.hid (K1.out.keep t45 (by omega))
          have EY5 := Lib.hid ey5
          have hb5 : b ≤ y5.heap.size := Nat.le_trans hb2 t45.size
          rw [hisE]
          clear b4 o4 ecr4 t4 ey5 t5 t45 D4 HE G1 G2 G3 G4 G5 G6 G7 G8 K1 x1
          gi_wp2_with (first
            | (gi_at_builtin
               first
               | (rw [EY5.out]
                  refine app_round rfl (by intro c h; cases h) fun K hK => ?_
                  refine app_op y5 25 31 (.slice none 0 0) 1 24 Try.underlying25 infoRows rfl (by decide) (.tmp 60) (.tmp 62) rfl cr4 b 20 20 21 vd i ds rfl M4.out ⟨by omega, by omega⟩ ⟨y4.heap.size, 0, none⟩ 1 1 [.slice (some ⟨g4, 0, none⟩) 256 cp4] rfl X5.out (by intro u hu; simp at hu; subst hu; rfl) (by unfold maxLen; omega) (by omega) hb5 ?_
                  intro vd6 y6 cr6 r6 t6 k6
                  obtain ⟨g6, cp6, _, rfl, _⟩ := own_form r6.own (by omega)
                  have N1 := Lib.hid (M1.out.keep t6 (by omega) (by omega) (by omega))
                  have N2 := Lib.hid (M2.out.keep t6 (by omega) (by omega))
                  have N3 := Lib.hid (M3.out.keep t6 (by omega))
                  have N4 := Lib.hid r6
                  have N5 := Lib.hid (M5.out.keep t6 (by omega))
                  have N6 := Lib.hid (M6.out.keep t6 (by omega))
                  have N7 := Lib.hid (M7.out.trans k6)
                  have N8 := Lib.hid (M8.out.trans (t6.mono (by omega) (by omega)))
                  have K6 := Lib.hid (K5.out.keep t6 (by omega))
                  have x2 : y6.cell? ⟨r0, 2, none⟩ = some ve := N3.out.blk.cell 2
                  have x3 : y6.cell? ⟨r1, 0, none⟩ = some (.int .i64 nn) := K6.out.blk.cell 0
                  obtain ⟨y7, ey7⟩ : ∃ y, y6.alloc (.cells #[.int .i64 nn, .bool isE] 46) = y := ⟨_, rfl⟩
                  have t7 : Tch 16 16 cr6 cr6 y6 y7 := by rw [← ey7]; exact (Tch.refl _ _ _ _).alloc _
                  have X7 := Lib.hid (show RowAt y7 (some ⟨y6.heap.size, 0, none⟩) (1 * 2) [.int .i64 nn, .bool isE] by rw [← ey7]; exact lit_rowN y6 46 [.int .i64 nn, .bool isE] (1 * 2) y6.heap.size rfl rfl)
                  have O1 := Lib.hid (N1.out.keep t7 (by omega) (by omega) (by omega))
                  have O2 := Lib.hid (N2.out.keep t7 (by omega) (by omega))
                  have O3 := Lib.hid (N3.out.keep t7 (by omega))
                  have O4 := Lib.hid (N4.out.keep t7 (by omega))
                  have O5 := Lib.hid (N5.out.keep t7 (by omega))
                  have O6 := Lib.hid (N6.out.keep t7 (by omega))
                  have O7 := Lib.hid (show KeepsOthers W y7 by rw [← ey7]; exact N7.out.trans (KeepsOthers.alloc _ _))
                  have O8 := Lib.hid (N8.out.trans (t7.any (Nat.le_refl _)))
                  have EY7 := Lib.hid ey7
                  have hb7 : b ≤ y7.heap.size := by have := O1.out.t.size; omega
                  refine hK _ _ ?_
                  clear r6 t6 k6 ey7 t7 hK K M1 M2 M3 M4 M5 M6 M7 M8 X5 K5 N1 N2 N3 N4 N5 N6 N7 N8)
               | (rw [EY7.out]
                  refine app_round rfl (by intro c h; cases h) fun K hK => ?_
                  refine app_op y7 33 46 (.agg #[.int .i64 0, .bool false]) 2 16 Try.underlying33 infoEntL rfl (by decide) (.tmp 65) (.tmp 70) rfl cr6 b 21 21 22 ve i (ecells (wEnts (p.take i))) rfl O6.out ⟨by omega, by omega⟩ ⟨y6.heap.size, 0, none⟩ 1 1 [.int .i64 nn, .bool isE] rfl X7.out (by intro u hu; simp at hu; rcases hu with rfl | rfl <;> rfl) (by unfold maxLen; omega) (by omega) hb7 ?_
                  intro ve8 y8 cr8 r8 t8 k8
                  obtain ⟨g8, cp8, _, rfl, _⟩ := own_formN r8.own (by omega)
                  have P1 := Lib.hid (O1.out.keep t8 (by omega) (by omega) (by omega))
                  have P2 := Lib.hid (O2.out.keep t8 (by omega) (by omega))
                  have P3 := Lib.hid (O3.out.keep t8 (by omega))
                  have P4 := Lib.hid (O4.out.keep t8 (by omega))
                  have P5 := Lib.hid (O5.out.keep t8 (by omega))
                  have P6 := Lib.hid (show Row y8 cr8 b 21 46 2 (.slice (some ⟨g8, 0, none⟩) (i + 1) cp8) (i + 1) (ecells (wEnts (p.take (i + 1)))) by
                    rw [HTK.out, wEnts, List.map_append, ecells, List.flatMap_append]
                    show Row y8 cr8 b 21 46 2 (.slice (some ⟨g8, 0, none⟩) (i + 1) cp8) (i + 1) (_ ++ [.int .i64 nn, .bool (escIs bb)])
                    rw [hisE]; exact r8)
                  have P7 := Lib.hid (O7.out.trans k8)
                  have P8 := Lib.hid (O8.out.trans (t8.mono (by omega) (by omega)))
                  have x4 : y8.cell? ⟨r0, 2, none⟩ = some ve := P3.out.blk.cell 2
                  have x5 : y8.frozen? ⟨r0, 2, none⟩ = false := P3.out.blk.frozen 2
                  obtain ⟨y9, ey9⟩ : ∃ y, y8.setCell ⟨r0, 2, none⟩ (.slice (some ⟨g8, 0, none⟩) (i + 1) cp8) = y := ⟨_, rfl⟩
                  have t9 : Tch 22 23 cr8 cr8 y8 y9 := by rw [← ey9]; exact (Tch.refl _ _ _ _).setCell (p := ⟨r0, 2, none⟩) (by have := P3.out.c; show 22 ≤ cr8 r0 ∧ cr8 r0 < 23; omega) _
                  have R1 := Lib.hid (P1.out.keep t9 (by omega) (by omega) (by omega))
                  have R2 := Lib.hid (P2.out.keep t9 (by omega) (by omega))
                  have R3 := Lib.hid (show Bk y9 cr8 b 22 r0 36 #[.int .i64 1, .int .i64 s, .slice (some ⟨g8, 0, none⟩) (i + 1) cp8, .int .u32 0, .int .i64 0] by rw [← ey9]; exact P3.out.set 2 _)
                  have R4 := Lib.hid (P4.out.keep t9 (by omega))
                  have R5 := Lib.hid (show Dts y9 cr8 b (ds ++ [.slice (some ⟨g4, 0, none⟩) 256 cp4]) ((p.take (i + 1)).map fun w => escB w.2) by
                    rw [HTK.out, List.map_append]
                    exact P5.out.keep t9 (by omega))
                  have R6 := Lib.hid (P6.out.keep t9 (by omega))
                  have R7 := Lib.hid (show KeepsOthers W y9 by rw [← ey9]; exact P7.out.trans (KeepsOthers.setCell _ _ _))
                  have R8 := Lib.hid (P8.out.trans (t9.mono (by omega) (by omega)))
                  have R9 := Lib.hid (show ∀ y ∈ p.take (i + 1), y.2.length = 256 from fun y hy => by
                    rw [HTK.out] at hy
                    rcases List.mem_append.1 hy with hy | hy
                    · exact G9.out y hy
                    · rw [List.mem_singleton.1 hy]; exact hbl)
                  have EY9 := Lib.hid ey9
                  refine hK _ _ ?_
                  clear r8 t8 k8 ey9 t9 hK K O1 O2 O3 O4 O5 O6 O7 O8 X7 P1 P2 P3 P4 P5 P6 P7 P8))
            | rw [EY9.out]
            | fail)
          go_roundw
          case rel => first | exact ⟨i + 1, cr8, _, _, _, rfl, by go_num, by omega, R1.out, R2.out, R3.out, R4.out, R5.out, R6.out, R7.out, R8.out, R9.out⟩ | ((repeat apply Exists.intro); refine ⟨?_, rfl⟩; exact ⟨i + 1, cr8, _, _, _, rfl, by go_num, by omega, R1.out, R2.out, R3.out, R4.out, R5.out, R6.out, R7.out, R8.out, R9.out⟩)
          case measure => simp [intOf]; omega
        · have hd : ((n2 : Int) != 256) = true := by simp; omega
          have z1 : y2.cell? ⟨b + 1, 0, none⟩ = some (.slice none 0 0) := G1.out.q1.blk.cell 0
          have z2 : y2.frozen? ⟨b + 1, 0, none⟩ = false := G1.out.q1.blk.frozen 0
          obtain ⟨y3, ey3⟩ : ∃ y, y2.setCell ⟨b + 1, 0, none⟩ (.slice none 0 0) = y := ⟨_, rfl⟩
          have t3 : Tch 19 20 cr cr y2 y3 := by rw [← ey3]; exact (Tch.refl _ _ _ _).setCell (p := ⟨b + 1, 0, none⟩) (by have := G1.out.q1.c; show 19 ≤ cr (b + 1) ∧ cr (b + 1) < 20; omega) _
          have Q1 := Lib.hid (show Bk y3 cr b 19 (b + 1) 25 #[.slice none 0 0] by rw [← ey3]; exact G1.out.q1.set 0 _)
          have Q2 := Lib.hid (show Bk y3 cr b 19 (b + 2) 26 #[.int .i64 0] from ⟨by rw [← ey3]; exact G1.out.q2.blk.far (p := ⟨b + 1, 0, none⟩) (by show b + 2 ≠ b + 1; omega) _, G1.out.q2.c, G1.out.q2.b⟩)
          have z3 : y3.cell? ⟨b + 2, 0, none⟩ = some (.int .i64 0) := Q2.out.blk.cell 0
          have z4 : y3.frozen? ⟨b + 2, 0, none⟩ = false := Q2.out.blk.frozen 0
          obtain ⟨y4, ey4⟩ : ∃ y, y3.setCell ⟨b + 2, 0, none⟩ (.int .i64 22) = y := ⟨_, rfl⟩
          have t4 : Tch 19 20 cr cr y3 y4 := by rw [← ey4]; exact (Tch.refl _ _ _ _).setCell (p := ⟨b + 2, 0, none⟩) (by have := Q2.out.c; show 19 ≤ cr (b + 2) ∧ cr (b + 2) < 20; omega) _
          have FX := Lib.hid (show LayX w y4 b from ⟨cr, (G1.out.t.trans (t3.mono (by omega) (by omega))).trans (t4.mono (by omega) (by omega)), ⟨by rw [← ey4]; exact Q1.out.blk.far (p := ⟨b + 2, 0, none⟩) (by show b + 1 ≠ b + 2; omega) _, Q1.out.c, Q1.out.b⟩, by rw [← ey4]; exact Q2.out.set 0 _⟩)
          have FK := Lib.hid (show KeepsOthers W y4 by rw [← ey4, ← ey3]; exact (G7.out.trans (KeepsOthers.setCell _ _ _)).trans (KeepsOthers.setCell _ _ _))
          have FB := Lib.hid (show okW s (cutAt 48 ws j) = false from by
            rw [HPP.out]
            have : (p.all fun w => w.2.length == 256) = false := by
              refine List.all_eq_false.2 ⟨(nn, bb), List.mem_of_getElem? HX.out, ?_⟩
              have hbl : bb.length = n2 := by have := HBY.out.len; exact this
              simp [hbl, hl]
            unfold okW
            rw [this]; rfl)
          have EY3 := Lib.hid ey3
          have EY4 := Lib.hid ey4
          clear ey3 ey4 t3 t4
          gi_wp2_with (first | rw [EY2.out, ER1.out] | rw [EY3.out] | rw [EY4.out] | fail)
          first
          | exact ⟨FK.out.from _, ⟨rfl, j, hjn, FB.out⟩, FX.out⟩
          | (rw [EY3.out, EY4.out]; exact ⟨FK.out.from _, ⟨rfl, j, hjn, FB.out⟩, FX.out⟩)
      · obtain rfl : i = e := by omega
        have hpt : p.take i = p := List.take_of_length_le (by omega)
        rw [hpt] at g5 g6 g9
        obtain ⟨gd, cd, _, rfl, hgd1, _, hcd1, hcd2, _⟩ := own_form g4.own (by omega)
        obtain ⟨ge, ce, _, rfl, _, _, hce1, hce2, _⟩ := own_formN g6.own (by omega)
        have hel : (wEnts p).length = i := by rw [wEnts, List.length_map]; exact hpl
        have HPK := Lib.hid (logPack_any 1 s (some ⟨ge, 0, none⟩) i ce 0 0 (wEnts p) wr (by omega) (by omega) (rowAt_ownN g6.own))
        have l0 : wr.cell? ⟨r0, 0, none⟩ = some (.int .i64 1) := g3.blk.cell 0
        have l1 : wr.cell? ⟨r0, 1, none⟩ = some (.int .i64 s) := g3.blk.cell 1
        have l2 : wr.cell? ⟨r0, 2, none⟩ = some (.slice (some ⟨ge, 0, none⟩) i ce) := g3.blk.cell 2
        have l3 : wr.cell? ⟨r0, 3, none⟩ = some (.int .u32 0) := g3.blk.cell 3
        have l4 : wr.cell? ⟨r0, 4, none⟩ = some (.int .i64 0) := g3.blk.cell 4
        have hni : ¬ (i : Int) < (i : Int) := by omega
        have G1 := Lib.hid g1
        have G2 := Lib.hid g2
        have G4 := Lib.hid g4
        have G5 := Lib.hid g5
        have G7 := Lib.hid g7
        have G8 := Lib.hid g8
        have G9 := Lib.hid g9
        rw [show ((0 : Nat) : Int) = 0 from rfl] at HPK
        clear g1 g2 g3 g4 g5 g6 g7 g8 g9 hpt
        cases hmy : rMay 1 s (wEnts p) 0 0 with
        | false =>
          rw [show rE 1 s (wEnts p) 0 0 = 22 by simp [rE, hmy]] at HPK
          have FB := Lib.hid (show okW s (cutAt 48 ws j) = false from by rw [HPP.out, okW, hmy, Bool.and_false])
          clear hmy
          gi_wp2
          first
          | refine ⟨trivial, ?_⟩
          | skip
          refine CallsIn.mono (CallsIn.inRound l (callsIn_wide.2 HPK.out)) ?_
          rintro e' y2 ⟨v2, rfl, b2, o2⟩
          have t2 : Tch 16 16 cr cr wr y2 := Tch.of_below b2
          have M1 := Lib.hid (G1.out.keep t2 (by omega) (by omega) (by omega))
          have M7 := Lib.hid (G7.out.trans (KeepsOthers.below b2))
          clear b2 o2 t2 l0 l1 l2 l3 l4 G1 G7
          have z1 : y2.cell? ⟨b + 1, 0, none⟩ = some (.slice none 0 0) := M1.out.q1.blk.cell 0
          have z2 : y2.frozen? ⟨b + 1, 0, none⟩ = false := M1.out.q1.blk.frozen 0
          obtain ⟨y3, ey3⟩ : ∃ y, y2.setCell ⟨b + 1, 0, none⟩ (.slice none 0 0) = y := ⟨_, rfl⟩
          have t3 : Tch 19 20 cr cr y2 y3 := by rw [← ey3]; exact (Tch.refl _ _ _ _).setCell (p := ⟨b + 1, 0, none⟩) (by have := M1.out.q1.c; show 19 ≤ cr (b + 1) ∧ cr (b + 1) < 20; omega) _
          have Q1 := Lib.hid (show Bk y3 cr b 19 (b + 1) 25 #[.slice none 0 0] by rw [← ey3]; exact M1.out.q1.set 0 _)
          have Q2 := Lib.hid (show Bk y3 cr b 19 (b + 2) 26 #[.int .i64 0] from ⟨by rw [← ey3]; exact M1.out.q2.blk.far (p := ⟨b + 1, 0, none⟩) (by show b + 2 ≠ b + 1; omega) _, M1.out.q2.c, M1.out.q2.b⟩)
          have z3 : y3.cell? ⟨b + 2, 0, none⟩ = some (.int .i64 0) := Q2.out.blk.cell 0
          have z4 : y3.frozen? ⟨b + 2, 0, none⟩ = false := Q2.out.blk.frozen 0
          obtain ⟨y4, ey4⟩ : ∃ y, y3.setCell ⟨b + 2, 0, none⟩ (.int .i64 22) = y := ⟨_, rfl⟩
          have t4 : Tch 19 20 cr cr y3 y4 := by rw [← ey4]; exact (Tch.refl _ _ _ _).setCell (p := ⟨b + 2, 0, none⟩) (by have := Q2.out.c; show 19 ≤ cr (b + 2) ∧ cr (b + 2) < 20; omega) _
          have FX := Lib.hid (show LayX w y4 b from ⟨cr, (M1.out.t.trans (t3.mono (by omega) (by omega))).trans (t4.mono (by omega) (by omega)), ⟨by rw [← ey4]; exact Q1.out.blk.far (p := ⟨b + 2, 0, none⟩) (by show b + 1 ≠ b + 2; omega) _, Q1.out.c, Q1.out.b⟩, by rw [← ey4]; exact Q2.out.set 0 _⟩)
          have FK := Lib.hid (show KeepsOthers W y4 by rw [← ey4, ← ey3]; exact (M7.out.trans (KeepsOthers.setCell _ _ _)).trans (KeepsOthers.setCell _ _ _))
          have EY3 := Lib.hid ey3
          have EY4 := Lib.hid ey4
          clear ey3 ey4 t3 t4
          gi_wp2_with (first | rw [EY3.out] | rw [EY4.out] | fail)
          first
          | exact ⟨FK.out.from _, ⟨rfl, j, hjn, FB.out⟩, FX.out⟩
          | (rw [EY3.out, EY4.out]; exact ⟨FK.out.from _, ⟨rfl, j, hjn, FB.out⟩, FX.out⟩)
        | true =>
          rw [show rE 1 s (wEnts p) 0 0 = 0 by simp [rE, hmy]] at HPK
          have hrl := rB_len hmy (show 0 < 4294967296 by omega)
          have HOK := Lib.hid (show okW s (cutAt 48 ws j) = true from by
            rw [HPP.out, okW, hmy, Bool.and_true]
            exact List.all_eq_true.2 fun y hy => by simpa using G9.out y hy)
          rw [hrl] at HPK
          clear hmy hrl
          gi_wp2
          first
          | refine ⟨trivial, ?_⟩
          | skip
          refine CallsIn.mono (CallsIn.inRound l (callsIn_wide.2 HPK.out)) ?_
          rintro e' y2 ⟨v2, rfl, b2, o2⟩
          obtain ⟨g2, cp2, _, rfl, hg2, _⟩ := own_form o2 (by omega)
          obtain ⟨cr2, ecr2⟩ : ∃ cr2, paint cr g2 1 = cr2 := ⟨_, rfl⟩
          have t2 : Tch 16 16 cr cr2 wr y2 := by rw [← ecr2]; exact (Tch.of_below b2).paint hg2 (o2.lt _ rfl).2 (by omega)
          have D2 := Lib.hid (show Row y2 cr2 b 1 5 1 (.slice (some ⟨g2, 0, none⟩) 256 cp2) 256 (bvl (rB 1 s (wEnts p) 0 0)) from ⟨own_mono o2 hbsz, fun g e => by injection e with e; subst e; rw [← ecr2, paint_self]⟩)
          have M1 := Lib.hid (G1.out.keep t2 (by omega) (by omega) (by omega))
          have M2 := Lib.hid (G2.out.keep t2 (by omega) (by omega))
          have M4 := Lib.hid (G4.out.keep t2 (by omega))
          have M5 := Lib.hid (G5.out.keep t2 (by omega))
          have M7 := Lib.hid (G7.out.trans (KeepsOthers.below b2))
          have M8 := Lib.hid (G8.out.trans (t2.any (Nat.le_refl _)))
          have hb2 : b ≤ y2.heap.size := Nat.le_trans hbsz t2.size
          have f5 : y2.cell? ⟨b + 5, 0, none⟩ = some (.func (.func 15) #[] #[.pointer (some ⟨b + 3, 0, none⟩), .pointer (some ⟨b + 4, 0, none⟩)]) := by rw [← HFV.out]; exact M1.out.q5.blk.cell 0
          have HLC := Lib.hid (layC_any y2 cr2 b (b + 3) (b + 4) cp2 (some ⟨g2, 0, none⟩) bl (rB 1 s (wEnts p) 0 0) M2.out D2.out (by omega) hb2)
          clear b2 o2 ecr2 t2 l0 l1 l2 l3 l4 G1 G2 G4 G5 G7 G8 HPK
          gi_wp2
          refine ⟨trivial, ?_⟩
          refine CallsIn.mono (CallsIn.inRound l (callsIn_wide.2 HLC.out)) ?_
          rintro e' y3 ⟨cr3, rfl, t3, la3, k3⟩
          have L1 := Lib.hid (M1.out.keep t3 (by omega) (by omega) (by omega))
          have L2 := Lib.hid la3
          have L4 := Lib.hid (M4.out.keep t3 (by omega))
          have L5 := Lib.hid (M5.out.keep t3 (by omega))
          have L7 := Lib.hid (M7.out.trans k3)
          have L8 := Lib.hid (M8.out.trans (t3.mono (by omega) (by omega)))
          clear t3 la3 k3 f5 M1 M2 M4 M5 M7 M8 HLC
          obtain ⟨da, hda⟩ : ∃ da, (p.map fun w => escB w.2) = da := ⟨_, rfl⟩
          obtain ⟨rc, hrc⟩ : ∃ rc, rB 1 s (wEnts p) 0 0 = rc := ⟨_, rfl⟩
          have hdal : da.length = i := by rw [← hda, List.length_map]; exact hpl
          rw [hda] at L5
          rw [hrc] at L2
          have HDA := Lib.hid hda
          have HRC := Lib.hid hrc
          clear hda hrc
          gi_wp2
          gi_loopw [87] (fun kk wr => ∃ (k : Nat) (cr : Col), kk = .int .i64 k ∧ k ≤ i ∧ LayB w wr cr b s fv ∧ LayAt wr cr b (b + 3) (b + 4) (bl ++ [rc] ++ da.take k) ∧ Row wr cr b 20 31 1 (.slice (some ⟨gd, 0, none⟩) i cd) i ds ∧ Dts wr cr b ds da ∧ KeepsOthers W wr ∧ Tch 16 24 col cr W wr) (fun kk _ => i - (intOf kk).toNat)
          case atStart => exact ⟨0, cr3, rfl, by omega, L1.out, by rw [List.take_zero, List.append_nil]; exact L2.out, L4.out, L5.out, L7.out, L8.out⟩
          case round =>
            obtain ⟨k, ck, rfl, hk, g1, g2, g4, g5, g7, g8⟩ := hrel
            by_cases hlt : k < i
            · have hii : (k : Int) < (i : Int) := by omega
              have hi0 : (0 : Int) ≤ (k : Int) := by omega
              have hin : ((k : Int)).toNat = k := by omega
              obtain ⟨dv, hdv⟩ : ∃ dv, ds[k]? = some dv := ⟨_, List.getElem?_eq_getElem (by omega)⟩
              obtain ⟨db, hdb⟩ : ∃ db, da[k]? = some db := ⟨_, List.getElem?_eq_getElem (by omega)⟩
              have hrow := g5.2 k dv db hdv hdb
              obtain ⟨gk, ck2, _, rfl, _⟩ := own_form hrow.own (by omega)
              have hwsz : w.heap.size ≤ wr.heap.size := g1.t.size
              have hbsz : b ≤ wr.heap.size := by omega
              have hcell : wr.cell? ((⟨gd, 0, none⟩ : Addr).add (k * 1)) = some (.slice (some ⟨gk, 0, none⟩) 256 ck2) := by
                obtain ⟨a', e', hc⟩ := (rowAt_ownN g4.own).2 (by omega)
                injection e' with e'
                subst e'
                rw [Nat.mul_one]
                exact hc k _ hdv
              have f5 : wr.cell? ⟨b + 5, 0, none⟩ = some (.func (.func 15) #[] #[.pointer (some ⟨b + 3, 0, none⟩), .pointer (some ⟨b + 4, 0, none⟩)]) := by rw [← HFV.out]; exact g1.q5.blk.cell 0
              have htk : da.take (k + 1) = da.take k ++ [db] := by rw [List.take_add_one, hdb]; rfl
              have HLC := Lib.hid (layC_any wr ck b (b + 3) (b + 4) ck2 (some ⟨gk, 0, none⟩) (bl ++ [rc] ++ da.take k) db g2 hrow (by simp; omega) hbsz)
              have G1 := Lib.hid g1
              have G4 := Lib.hid g4
              have G5 := Lib.hid g5
              have G7 := Lib.hid g7
              have G8 := Lib.hid g8
              have HTK := Lib.hid htk
              clear g1 g2 g4 g5 g7 g8 hrow hdv hdb htk
              rw [Nat.mul_one, show (⟨gd, 0, none⟩ : Addr).add k = ⟨gd, k, none⟩ from by simp [Addr.add]; omega] at hcell
              gi_wp2
              refine ⟨trivial, ?_⟩
              refine CallsIn.mono (CallsIn.inRound l (callsIn_wide.2 HLC.out)) ?_
              rintro e' y4 ⟨cr4, rfl, t4, la4, k4⟩
              have N1 := Lib.hid (G1.out.keep t4 (by omega) (by omega) (by omega))
              have N2 := Lib.hid (show LayAt y4 cr4 b (b + 3) (b + 4) (bl ++ [rc] ++ da.take (k + 1)) by rw [HTK.out, ← List.append_assoc]; exact la4)
              have N4 := Lib.hid (G4.out.keep t4 (by omega))
              have N5 := Lib.hid (G5.out.keep t4 (by omega))
              have N7 := Lib.hid (G7.out.trans k4)
              have N8 := Lib.hid (G8.out.trans (t4.mono (by omega) (by omega)))
              clear t4 la4 k4 f5 G1 G4 G5 G7 G8 HLC hcell
              gi_wp2
              go_roundw
              case rel => exact ⟨k + 1, cr4, by go_num, by omega, N1.out, N2.out, N4.out, N5.out, N7.out, N8.out⟩
              case measure => simp [intOf]; omega
            · obtain rfl : k = i := by omega
              have hni : ¬ (k : Int) < (k : Int) := by omega
              rw [List.take_of_length_le (by omega)] at g2
              have hbl2 : bl ++ [rc] ++ da = (pre ++ [x]).flatMap fun x => layW s (cutAt 48 ws x.1) := by
                rw [List.flatMap_append, HBL.out, ← HDA.out, ← HRC.out, List.append_assoc]
                simp [List.flatMap_cons, hj2, HPP.out, layW]
              rw [hbl2] at g2
              have G1 := Lib.hid g1
              have G2 := Lib.hid g2
              have G7 := Lib.hid g7
              have G8 := Lib.hid g8
              clear g1 g2 g4 g5 g7 g8
              gi_wp2
              exact ⟨G7.out.from _, LayB.box HB0.out G8.out (Nat.le_refl _), ⟨ck, G1.out, G2.out, fun y hy => by
                rcases List.mem_append.1 hy with hy | hy
                · exact H3.out y hy
                · rw [List.mem_singleton.1 hy, hj2]; exact HOK.out⟩⟩
  case stop =>
    rintro D c pre W hD hsp ⟨⟨rfl, j, hj, hok⟩, col, h1, h2, h3⟩ hDd
    have r1 : W.cell? ⟨b + 1, 0, none⟩ = some (.slice none 0 0) := h2.blk.cell 0
    have r2 : W.cell? ⟨b + 2, 0, none⟩ = some (.int .i64 22) := h3.blk.cell 0
    gi_wp2
    refine ⟨by simp, .inl ⟨_, _, rfl, run_takeDeferred hDd, ?_⟩⟩
    have hq := grownBy_putObj' W D (.deferred none)
    have q1 := cell_kept r1 hq (fun r e => by cases e; exact ⟨_, hDd, rfl⟩)
    have q2 := cell_kept r2 hq (fun r e => by cases e; exact ⟨_, hDd, rfl⟩)
    have hb := h1.turn hq (fun q e => by cases e; omega)
    refine ⟨.tuple #[.slice none 0 0, .int .i64 22], by simp [results, Try.f6, go_sem, q1, q2], .inl ⟨tOk_w (by rw [hwl]; exact hj) hok, rfl, hb.below (Nat.le_refl _) (fun i _ => by omega)⟩⟩
  case done =>
    rintro D xs W hD rfl ⟨col, h1, h2, h3⟩ hDd
    obtain ⟨bl, hbl⟩ : ∃ bl, ((subs (nch 48 n) (nch 48 n)).flatMap fun x => layW s (cutAt 48 ws x.1)) = bl := ⟨_, rfl⟩
    rw [hbl] at h2
    have HBL := Lib.hid hbl
    have HBLL := Lib.hid (show bl.length ≤ 5000 by
      rw [← hbl]
      have h1 := flatW_len s ws (subs (nch 48 n) (nch 48 n))
      rw [subs_len (Nat.le_refl _)] at h1
      have := nch_few hn
      omega)
    have H3 := Lib.hid h3
    have hwsz : w.heap.size ≤ W.heap.size := h1.t.size
    obtain ⟨q, hq⟩ : ∃ q, W.heap.size = q := ⟨_, rfl⟩
    obtain ⟨u2, eu2⟩ : ∃ u, (W.alloc (.cells #[.slice R m d] 23)).alloc (.cells #[.int .i64 60] 3) = u := ⟨_, rfl⟩
    have hDq : D < q := by rw [← hq]; exact (Array.getElem?_eq_some_iff.1 hDd).1
    have tu : Tch 16 16 col col W u2 := by rw [← eu2]; exact ((Tch.refl _ _ _ _).alloc _).alloc _
    have hsu : u2.heap.size = q + 2 := by rw [← eu2]; simp [hq]
    have qz : ∀ g, q ≤ g → col g = 0 := fun g hg => h1.t.tidy (fun _ _ => rfl) g (by omega)
    have bu : Below W.heap.size W u2 := by rw [← eu2]; exact ((Below.refl W.heap.size W).alloc (Nat.le_refl _) _).alloc (by simp) _
    have uD : u2.heap[D]? = some (.deferred (some [])) := (bu.block D (by omega)).trans hDd
    have K6 := Lib.hid (show Blk u2 q 23 #[.slice R m d] by rw [← eu2, ← hq]; exact (Blk.new W _ _).belowAll ((Below.refl _ _).alloc (Nat.le_refl _) _))
    have K7 := Lib.hid (show Blk u2 (q + 1) 3 #[.int .i64 60] by
      have := Blk.new (W.alloc (.cells #[.slice R m d] 23)) 3 #[.int .i64 60]
      rw [eu2] at this
      simp only [World.size_alloc, hq] at this
      exact this)
    have HK0 := Lib.hid (show LayK w u2 col b s fv bl q D from ⟨h1.keep tu (by omega) (by omega) (by omega), h2.keep tu (by omega) (by omega), ⟨qz _ (by omega), qz _ (by omega), by omega⟩, uD⟩)
    have HCI := Lib.hid (chunkI_any W R m d 60 (by omega))
    rw [show ((60 : Nat) : Int) = 60 from rfl, eu2, hq] at HCI
    have BU := Lib.hid bu
    clear h1 h2 h3 hbl tu eu2 bu qz uD
    gi_wp2
    refine ⟨trivial, ?_⟩
    refine CallsIn.mono (callsIn_wide.2 HCI.out) ?_
    rintro e w' ⟨rfl, rfl⟩
    gi_wp2
    have hwsu : w.heap.size ≤ w'.heap.size := by omega
    have d6 := K6.out.cell 0
    have d7 := K7.out.cell 0
    refine wpIn_rangeFunc_ownG (w := w') (F := Fence.wide) (n := 9) rfl (by omega) (gf := 33) (lb := #[.pointer (some ⟨q, 0, none⟩), .pointer (some ⟨q + 1, 0, none⟩)]) rfl trivial (enters_of Try.func33 (by kernel_rfl) rfl)
      (chunkI_stops (9 - 1) R m d 60 q (q + 1) w' (by omega) (by omega) hm hmd hdm hR d6 d7 (by omega) (by omega)) KBox.trans (KBox.put (by omega) (by omega)) (Below.refl _ _) (fun _ => rfl)
      (LayI2 w b s fv rs m bl q D) (LayJ2 w b s rs m D)
      (fun pre W W' row hs hg hr => by
        obtain ⟨col, ⟨h1, h2, h3, h4⟩, h5⟩ := hs
        refine ⟨col, ⟨h1.turn hg (fun q e => ⟨Nat.le_trans hwsu (hr q e).1, (hr q e).2⟩), h2.turn ⟨row, hg, fun q e => (hr q e).2⟩, ⟨h3.1, h3.2.1, Nat.le_trans h3.2.2 hg.size⟩, (hg.block D (Array.getElem?_eq_some_iff.1 h4).1 (fun e => ?_)).trans h4⟩, h5⟩
        have := (hr D e.symm).1
        omega)
      (fun cd pre W W' row hs hg hr => ⟨⟨hs.1.1, hs.1.2.1, (hg.block D (Array.getElem?_eq_some_iff.1 hs.1.2.2).1 (fun e => by
        have := (hr D e.symm).1
        omega)).trans hs.1.2.2⟩, hs.2.turn hg (fun q e => ⟨Nat.le_trans hwsu (hr q e).1, (hr q e).2⟩)⟩)
      ⟨col, by simpa using HK0.out, fun x h => by cases h⟩ ?a2 ?assign2 ?body2 ?done2 ?stop2
    case assign2 =>
      intro l x W K hK
      simp only [chunkV]
      gi_wp2
      exact hK
    case stop2 =>
      rintro D2 c pre W2 hD2 hsp ⟨⟨rfl, ⟨j, hj, hok⟩, hDW⟩, col2, g1, g2, g3⟩ hDd2
      have r1 : W2.cell? ⟨b + 1, 0, none⟩ = some (.slice none 0 0) := g2.blk.cell 0
      have r2 : W2.cell? ⟨b + 2, 0, none⟩ = some (.int .i64 22) := g3.blk.cell 0
      gi_wp2
      refine ⟨by simp, .inl ⟨_, _, rfl, run_takeDeferred hDd2, ?_⟩⟩
      have hq := grownBy_putObj' W2 D2 (.deferred none)
      have q1 := cell_kept r1 hq (fun r e => by cases e; exact ⟨_, hDd2, rfl⟩)
      have q2 := cell_kept r2 hq (fun r e => by cases e; exact ⟨_, hDd2, rfl⟩)
      have hb1 := g1.turn hq (fun q e => by cases e; omega)
      have hDW2 : (W2.putObj D2 (.deferred none)).heap[D]? = some (.deferred (some [])) := (hq.block D (Array.getElem?_eq_some_iff.1 hDW).1 (fun e => by injection e with e; omega)).trans hDW
      refine ⟨by simp, .inl ⟨_, _, rfl, run_takeDeferred hDW2, ?_⟩⟩
      have hq2 := grownBy_putObj' (W2.putObj D2 (.deferred none)) D (.deferred none)
      have q3 := cell_kept q1 hq2 (fun r e => by cases e; exact ⟨_, hDW2, rfl⟩)
      have q4 := cell_kept q2 hq2 (fun r e => by cases e; exact ⟨_, hDW2, rfl⟩)
      have hbt := hb1.turn hq2 (fun q e => by cases e; omega)
      have hrl : rs.length = m := by have := HR.out.len; simpa [ints] using this
      refine ⟨.tuple #[.slice none 0 0, .int .i64 22], by simp [results, Try.f6, go_sem, q3, q4], .inl ⟨tOk_r (by rw [hrl]; exact hj) hok, rfl, hbt.below (Nat.le_refl _) (fun i _ => by omega)⟩⟩
    case done2 =>
      rintro D2 xs W2 hD2 rfl ⟨col2, ⟨h1, h2, h4, h6⟩, h5⟩ hDd2
      have hrl : rs.length = m := by have := HR.out.len; simpa [ints] using this
      have hth : (bl ++ (subs (nch 60 m) (nch 60 m)).flatMap fun x => layR s (cutAt 60 rs x.1)) = tHead s ws rs := by
        unfold tHead
        rw [← HBL.out, hwl, hrl, subs_all (nch 48 n) (fun j => layW s (cutAt 48 ws j)), subs_all (nch 60 m) (fun j => layR s (cutAt 60 rs j))]
      rw [hth] at h2
      have hhl : (tHead s ws rs).length ≤ 6000 := by
        rw [← hth, List.length_append, flatR_len, subs_len (Nat.le_refl _)]
        have := HBLL.out
        have : nch 60 m ≤ 100 := by
          unfold nch
          have := Nat.div_le_div_right (c := 60) (show m + 60 - 1 ≤ 4155 by omega)
          omega
        omega
      obtain ⟨th, eth⟩ : ∃ th, tHead s ws rs = th := ⟨_, rfl⟩
      rw [eth] at h2 hhl
      have ETH := Lib.hid eth
      have H5 := Lib.hid h5
      obtain ⟨vo, va, vs, g1, g2, g3, g4, g5⟩ := h2.ex
      have hwsz2 : w.heap.size ≤ W2.heap.size := h1.t.size
      have hb2 : b ≤ W2.heap.size := by omega
      obtain ⟨Aa, ca, rfl, hbytes⟩ := row_bytes g4
      obtain ⟨na, hna⟩ : ∃ na, th.length * 256 = na := ⟨_, rfl⟩
      have hna2 : na ≤ 9223372036854775807 := by omega
      rw [hna] at hbytes g2 g4
      have hdd : W2.drew.heap = W2.heap := rfl
      obtain ⟨wv, hwv⟩ : ∃ wv, W2.drew = wv := ⟨_, rfl⟩
      have td : Tch 16 16 col2 col2 W2 wv := by rw [← hwv]; exact Tch.of_below ⟨rfl, rfl, rfl, Nat.le_refl _, fun _ _ => rfl⟩
      have L1 := Lib.hid (h1.keep td (by omega) (by omega) (by omega))
      have L2 := Lib.hid (h2.keep td (by omega) (by omega))
      have M1 := Lib.hid (show wv.heap[D]? = some (.deferred (some [])) by rw [← hwv]; exact h6)
      have M2 := Lib.hid (show wv.heap[D2]? = some (.deferred (some [])) by rw [← hwv]; exact hDd2)
      have HBY := Lib.hid (show BytesAt wv Aa na th.flatten by rw [← hwv]; exact hbytes)
      have v1 : wv.cell? ⟨b, 0, none⟩ = some (.int .i64 s) := L1.out.q0.blk.cell 0
      have v2 : wv.cell? ⟨b + 4, 0, none⟩ = some (.slice Aa na ca) := (g2.keep td (by omega)).blk.cell 0
      have HWV := Lib.hid hwv
      clear h1 h2 h4 h6 h5 g1 g2 g3 g4 g5 td hwv hth eth hbytes
      gi_wp2
      refine wpIn_wide.2 ?_
      have hNS : wv.cell? ⟨b, 0, none⟩ = some (.int .i64 s) ∧ wv.cell? ⟨b + 4, 0, none⟩ = some (.slice Aa na ca) := ⟨v1, v2⟩
      have wsd : IntKind.u32.wrap s = ((rS s).toNat : Int) := by
        rw [rS, BitVec.toNat_ofInt, IntKind.wrap_u32]; omega
      refine Code.wp_mono calm_out ?_
      refine region_need_at (v := wv) (fun w' => w'.cell? ⟨b, 0, none⟩ = some (.int .i64 s) ∧ w'.cell? ⟨b + 4, 0, none⟩ = some (.slice Aa na ca)) (fun _ => true) HWV.out (by kernel_rfl) ?_
      refine nw_take (i := 0) (v := ?_) rfl (by kernel_rfl) (by kernel_rfl) (fun _ _ d _ _ h => by cases d <;> exact h) (by exact hNS) (by kernel_rfl) ?_ (fun K hK => ?_); rotate_left; (· (intro w' hSw; (try dsimp only at hSw); go_simp; with_reducible rfl)); simp only [Act.put, List.setIfInBounds_toArray, List.set_cons_zero, List.set_cons_succ]; refine hK _ ?_; clear hK K
      refine nw_take (i := 1) (v := ?_) rfl (by kernel_rfl) (by kernel_rfl) (fun _ _ d _ _ h => by cases d <;> exact h) (by exact hNS) (by kernel_rfl) ?_ (fun K hK => ?_); rotate_left; (· (intro w' hSw; (try dsimp only at hSw); go_simp; with_reducible rfl)); simp only [Act.put, List.setIfInBounds_toArray, List.set_cons_zero, List.set_cons_succ]; refine hK _ ?_; clear hK K
      refine nw_take (i := 2) (v := ?_) rfl (by kernel_rfl) (by kernel_rfl) (fun _ _ d _ _ h => by cases d <;> exact h) (by exact hNS) (by kernel_rfl) ?_ (fun K hK => ?_); rotate_left; (· (intro w' hSw; (try dsimp only at hSw); go_simp; with_reducible rfl)); simp only [Act.put, List.setIfInBounds_toArray, List.set_cons_zero, List.set_cons_succ]; refine hK _ ?_; clear hK K
      refine nw_take (i := 3) (v := ?_) rfl (by kernel_rfl) (by kernel_rfl) (fun _ _ d _ _ h => by cases d <;> exact h) (by exact hNS) (by kernel_rfl) ?_ (fun K hK => ?_); rotate_left; (· (intro w' hSw; (try dsimp only at hSw); go_simp; with_reducible rfl)); simp only [Act.put, List.setIfInBounds_toArray, List.set_cons_zero, List.set_cons_succ]; refine hK _ ?_; clear hK K
      refine nw_one (i := 4) (E := False) rfl (by kernel_rfl) (fun K hK => ?_) (by kernel_rfl)
      go_simp
      refine (crc_any (rS s) Aa na ca th.flatten wv hna2 HBY.out).mono ?_
      rintro e w' ⟨rfl, rfl⟩
      obtain ⟨sm, hsm⟩ : ∃ sm, tSum s th = sm := ⟨_, rfl⟩
      have hsm2 : sm < 4294967296 := by rw [← hsm]; exact (crc (rS s) th.flatten).isLt
      rw [show (crc (rS s) th.flatten).toNat = sm from hsm]
      refine hK.out _ _ ((fun _ => ⟨v1, v2⟩)) ?_
      clear hK K
      try simp only [Act.put, List.setIfInBounds_toArray, List.set_cons_zero, List.set_cons_succ]
      refine nw_one (i := 5) (E := False) rfl (by kernel_rfl) (fun K hK => ?_) (by kernel_rfl)
      go_simp
      refine hK.out _ _ ((fun _ => ⟨v1, v2⟩)) ?_
      clear hK K
      try simp only [Act.put, List.setIfInBounds_toArray, List.set_cons_zero, List.set_cons_succ]
      refine nw_one (i := 6) (E := False) rfl (by kernel_rfl) (fun K hK => ?_) (by kernel_rfl)
      go_simp
      have HPK := Lib.hid (logPack_any 2 s none 0 0 sm 0 [] wv (by omega) hsm2 (RowAt.nil_ wv none))
      obtain ⟨ee, hee, hre⟩ : ∃ ee, ((rMay 2 s [] 0 0 = false ∧ ee = 22) ∨ (rMay 2 s [] 0 0 = true ∧ ee = 0)) ∧ rE 2 s [] sm 0 = ee := by
        refine ⟨_, ?_, rfl⟩
        cases hmy : rMay 2 s [] 0 0 with
        | false => exact .inl ⟨rfl, by simp [rE, rMay2, hmy]⟩
        | true => exact .inr ⟨rfl, by simp [rE, rMay2, hmy]⟩
      rw [hre] at HPK
      clear hNS
      refine HPK.out.mono ?_
      rintro e y ⟨v, rfl, b2, o2⟩
      have t2 : Tch 16 16 col2 col2 wv y := Tch.of_below b2
      have hNS : y.cell? ⟨b, 0, none⟩ = some (.int .i64 s) ∧ y.cell? ⟨b + 4, 0, none⟩ = some (.slice Aa na ca) := ⟨(b2.cell (World.block_lt_of_cell? _ _ v1)).trans v1, (b2.cell (World.block_lt_of_cell? _ _ v2)).trans v2⟩
      have N1 := Lib.hid (L1.out.keep t2 (by omega) (by omega) (by omega))
      have N2 := Lib.hid (L2.out.keep t2 (by omega) (by omega))
      have N3 := Lib.hid ((b2.block D (Array.getElem?_eq_some_iff.1 M1.out).1).trans M1.out)
      have N4 := Lib.hid ((b2.block D2 (Array.getElem?_eq_some_iff.1 M2.out).1).trans M2.out)
      have HSM := Lib.hid hsm
      have HR2 := Lib.hid (rMay2 s sm)
      have O2 := Lib.hid o2
      have B2 := Lib.hid b2
      have hwvs : b ≤ wv.heap.size := by have := L1.out.t.size; omega
      clear b2 o2 t2 v1 v2 HPK HBY hsm
      refine hK.out _ _ ((fun _ => hNS)) ?_
      clear hK K
      try simp only [Act.put, List.setIfInBounds_toArray, List.set_cons_zero, List.set_cons_succ]
      refine nw_take (i := 7) (v := ?_) rfl (by kernel_rfl) (by kernel_rfl) (fun _ _ d _ _ h => by cases d <;> exact h) (by exact hNS) (by kernel_rfl) ?_ (fun K hK => ?_); rotate_left; (· (intro w' hSw; (try dsimp only at hSw); go_simp; with_reducible rfl)); simp only [Act.put, List.setIfInBounds_toArray, List.set_cons_zero, List.set_cons_succ]; refine hK _ ?_; clear hK K
      refine nw_take (i := 8) (v := ?_) rfl (by kernel_rfl) (by kernel_rfl) (fun _ _ d _ _ h => by cases d <;> exact h) (by exact hNS) (by kernel_rfl) ?_ (fun K hK => ?_); rotate_left; (· (intro w' hSw; (try dsimp only at hSw); go_simp; with_reducible rfl)); simp only [Act.put, List.setIfInBounds_toArray, List.set_cons_zero, List.set_cons_succ]; refine hK _ ?_; clear hK K
      refine nw_take (i := 9) (v := ?_) rfl (by kernel_rfl) (by kernel_rfl) (fun _ _ d _ _ h => by cases d <;> exact h) (by exact hNS) (by kernel_rfl) ?_ (fun K hK => ?_); rotate_left; (· (intro w' hSw; (try dsimp only at hSw); go_simp; with_reducible rfl)); simp only [Act.put, List.setIfInBounds_toArray, List.set_cons_zero, List.set_cons_succ]; refine hK _ ?_; clear hK K
      refine nw_take (i := 10) (v := ?_) rfl (by kernel_rfl) (by kernel_rfl) (fun _ _ d _ _ h => by cases d <;> exact h) (by exact hNS) (by kernel_rfl) ?_ (fun K hK => ?_); rotate_left; (· (intro w' hSw; (try dsimp only at hSw); go_simp; with_reducible rfl)); simp only [Act.put, List.setIfInBounds_toArray, List.set_cons_zero, List.set_cons_succ]; refine hK _ ?_; clear hK K
      refine nw_take (i := 11) (v := ?_) rfl (by kernel_rfl) (by kernel_rfl) (fun _ _ d _ _ h => by cases d <;> exact h) (by exact hNS) (by kernel_rfl) ?_ (fun K hK => ?_); rotate_left; (· (intro w' hSw; (try dsimp only at hSw); go_simp; with_reducible rfl)); simp only [Act.put, List.setIfInBounds_toArray, List.set_cons_zero, List.set_cons_succ]; refine hK _ ?_; clear hK K
      refine nw_end (by kernel_rfl) (calm_normal ?_)
      clear hNS
      have hb3 : b ≤ y.heap.size := by have := N1.out.t.size; omega
      rcases hee with ⟨hmy, rfl⟩ | ⟨hmy, rfl⟩
      · have z1 : y.cell? ⟨b + 1, 0, none⟩ = some (.slice none 0 0) := N1.out.q1.blk.cell 0
        have z2 : y.frozen? ⟨b + 1, 0, none⟩ = false := N1.out.q1.blk.frozen 0
        obtain ⟨y3, ey3⟩ : ∃ y', y.setCell ⟨b + 1, 0, none⟩ (.slice none 0 0) = y' := ⟨_, rfl⟩
        have t3 : Tch 19 20 col2 col2 y y3 := by rw [← ey3]; exact (Tch.refl _ _ _ _).setCell (p := ⟨b + 1, 0, none⟩) (by have := N1.out.q1.c; show 19 ≤ col2 (b + 1) ∧ col2 (b + 1) < 20; omega) _
        have Q1 := Lib.hid (show Bk y3 col2 b 19 (b + 1) 25 #[.slice none 0 0] by rw [← ey3]; exact N1.out.q1.set 0 _)
        have Q2 := Lib.hid (show Bk y3 col2 b 19 (b + 2) 26 #[.int .i64 0] from ⟨by rw [← ey3]; exact N1.out.q2.blk.far (p := ⟨b + 1, 0, none⟩) (by show b + 2 ≠ b + 1; omega) _, N1.out.q2.c, N1.out.q2.b⟩)
        have z3 : y3.cell? ⟨b + 2, 0, none⟩ = some (.int .i64 0) := Q2.out.blk.cell 0
        have z4 : y3.frozen? ⟨b + 2, 0, none⟩ = false := Q2.out.blk.frozen 0
        obtain ⟨y4, ey4⟩ : ∃ y', y3.setCell ⟨b + 2, 0, none⟩ (.int .i64 22) = y' := ⟨_, rfl⟩
        have t4 : Tch 19 20 col2 col2 y3 y4 := by rw [← ey4]; exact (Tch.refl _ _ _ _).setCell (p := ⟨b + 2, 0, none⟩) (by have := Q2.out.c; show 19 ≤ col2 (b + 2) ∧ col2 (b + 2) < 20; omega) _
        have g1 : Tch 16 24 (fun _ => 0) col2 w y4 := (N1.out.t.trans (t3.mono (by omega) (by omega))).trans (t4.mono (by omega) (by omega))
        have r1 : y4.cell? ⟨b + 1, 0, none⟩ = some (.slice none 0 0) := (show Blk y4 (b + 1) 25 #[.slice none 0 0] by rw [← ey4]; exact Q1.out.blk.far (p := ⟨b + 2, 0, none⟩) (by show b + 1 ≠ b + 2; omega) _).cell 0
        have r2 : y4.cell? ⟨b + 2, 0, none⟩ = some (.int .i64 22) := (show Blk y4 (b + 2) 26 #[.int .i64 22] by rw [← ey4]; exact Q2.out.blk.set_ 0 _).cell 0
        have FK := (show KeepsOthers y y4 by rw [← ey4, ← ey3]; exact (KeepsOthers.setCell _ _ _).trans (KeepsOthers.setCell _ _ _))
        have hDd2 := FK.same D2 _ N4.out rfl
        have hDW := FK.same D _ N3.out rfl
        have EY3 := Lib.hid ey3
        have EY4 := Lib.hid ey4
        clear ey3 ey4 t3 t4 FK Q1 Q2
        gi_wp2_with (first | rw [EY3.out] | rw [EY4.out] | fail)
        try rw [EY3.out, EY4.out]
        refine ⟨by simp, .inl ⟨_, _, rfl, run_takeDeferred hDd2, ?_⟩⟩
        have hq := grownBy_putObj' y4 D2 (.deferred none)
        have q1 := cell_kept r1 hq (fun r e => by cases e; exact ⟨_, hDd2, rfl⟩)
        have q2 := cell_kept r2 hq (fun r e => by cases e; exact ⟨_, hDd2, rfl⟩)
        have hb1 := g1.turn hq (fun q e => by cases e; omega)
        have hDW2 : (y4.putObj D2 (.deferred none)).heap[D]? = some (.deferred (some [])) := (hq.block D (Array.getElem?_eq_some_iff.1 hDW).1 (fun e => by injection e with e; omega)).trans hDW
        refine ⟨by simp, .inl ⟨_, _, rfl, run_takeDeferred hDW2, ?_⟩⟩
        have hq2 := grownBy_putObj' (y4.putObj D2 (.deferred none)) D (.deferred none)
        have q3 := cell_kept q1 hq2 (fun r e => by cases e; exact ⟨_, hDW2, rfl⟩)
        have q4 := cell_kept q2 hq2 (fun r e => by cases e; exact ⟨_, hDW2, rfl⟩)
        have hbt := hb1.turn hq2 (fun q e => by cases e; omega)
        refine ⟨.tuple #[.slice none 0 0, .int .i64 22], by simp [results, Try.f6, go_sem, q3, q4], .inl ⟨tOk_s hmy, rfl, hbt.below (Nat.le_refl _) (fun i _ => by omega)⟩⟩
      · obtain ⟨rb, hrb⟩ : ∃ rb, rB 2 s [] sm 0 = rb := ⟨_, rfl⟩
        have hrbl : rb.length = 256 := by rw [← hrb]; exact rB_len (by rw [HR2.out]; exact hmy) hsm2
        have o3 := O2.out
        rw [hrb, hrbl] at o3
        obtain ⟨g2, cp2, _, rfl, hg2, _⟩ := own_form o3 (by omega)
        obtain ⟨cr, ecr⟩ : ∃ cr, paint col2 g2 1 = cr := ⟨_, rfl⟩
        have tp : Tch 16 16 col2 cr wv y := by rw [← ecr]; exact (Tch.of_below B2.out).paint hg2 (o3.lt _ rfl).2 (by omega)
        have P1 := L1.out.keep tp (by omega) (by omega) (by omega)
        have P2 := L2.out.keep tp (by omega) (by omega)
        have D0 : Row y cr b 1 5 1 (.slice (some ⟨g2, 0, none⟩) 256 cp2) 256 (bvl rb) := ⟨own_mono o3 hwvs, fun g e => by injection e with e; subst e; rw [← ecr, paint_self]⟩
        obtain ⟨vo3, va3, vs3, g1, gx, g3, _, g5⟩ := P2.ex
        obtain ⟨y5, ey5⟩ : ∃ y', y.alloc (.cells #[.slice (some ⟨g2, 0, none⟩) 256 cp2] 31) = y' := ⟨_, rfl⟩
        have t5 : Tch 16 16 cr cr y y5 := by rw [← ey5]; exact (Tch.refl _ _ _ _).alloc _
        have X5 := Lib.hid (show RowAt y5 (some ⟨y.heap.size, 0, none⟩) (1 * 1) [.slice (some ⟨g2, 0, none⟩) 256 cp2] by rw [← ey5]; exact lit_rowN y 31 [.slice (some ⟨g2, 0, none⟩) 256 cp2] (1 * 1) y.heap.size rfl rfl)
        have k0 : y.cell? ⟨b + 3, 0, none⟩ = some vo3 := g1.blk.cell 0
        have V1 := Lib.hid (P1.keep t5 (by omega) (by omega) (by omega))
        have V3 := Lib.hid (g3.keep t5 (by omega))
        have V5 := Lib.hid ((g5.snoc D0).keep t5 (by omega))
        have V6 := Lib.hid (show KeepsOthers y y5 by rw [← ey5]; exact KeepsOthers.alloc _ _)
        have EY5 := Lib.hid ey5
        have HRB := Lib.hid hrb
        have HB5 : b ≤ y5.heap.size := by have := V1.out.t.size; omega
        clear tp P1 P2 D0 g1 gx g3 g5 ey5 t5 o3 ecr hrb
        gi_wp2_with (first
          | (gi_at_builtin
             first
             | (rw [EY5.out]
                refine app_wide rfl (by intro c h; cases h) fun K hK => ?_
                refine app_op y5 25 31 (.slice none 0 0) 1 24 Try.underlying25 infoRows rfl (by decide) (.tmp 138) (.tmp 140) rfl cr b 16 16 17 vo3 th.length vs3 rfl V3.out ⟨by omega, by omega⟩ ⟨y.heap.size, 0, none⟩ 1 1 [.slice (some ⟨g2, 0, none⟩) 256 cp2] rfl X5.out (by intro u hu; simp at hu; subst hu; rfl) (by unfold maxLen; omega) (by omega) HB5 ?_
                intro v6 y6 cr6 r6 t6 k6
                obtain ⟨g6, cp6, _, rfl, _⟩ := own_form r6.own (by omega)
                have N1' := Lib.hid (V1.out.keep t6 (by omega) (by omega) (by omega))
                have W3 := Lib.hid r6
                have W5 := Lib.hid (V5.out.keep t6 (by omega))
                have W6 := Lib.hid (V6.out.trans k6)
                have z1 : y6.cell? ⟨b + 1, 0, none⟩ = some (.slice none 0 0) := N1'.out.q1.blk.cell 0
                have z2 : y6.frozen? ⟨b + 1, 0, none⟩ = false := N1'.out.q1.blk.frozen 0
                obtain ⟨y3, ey3⟩ : ∃ y', y6.setCell ⟨b + 1, 0, none⟩ (.slice (some ⟨g6, 0, none⟩) (th.length + 1) cp6) = y' := ⟨_, rfl⟩
                have t3 : Tch 19 20 cr6 cr6 y6 y3 := by rw [← ey3]; exact (Tch.refl _ _ _ _).setCell (p := ⟨b + 1, 0, none⟩) (by have := N1'.out.q1.c; show 19 ≤ cr6 (b + 1) ∧ cr6 (b + 1) < 20; omega) _
                have Q1 := Lib.hid (show Bk y3 cr6 b 19 (b + 1) 25 #[.slice (some ⟨g6, 0, none⟩) (th.length + 1) cp6] by rw [← ey3]; exact N1'.out.q1.set 0 _)
                have Q2 := Lib.hid (show Bk y3 cr6 b 19 (b + 2) 26 #[.int .i64 0] from ⟨by rw [← ey3]; exact N1'.out.q2.blk.far (p := ⟨b + 1, 0, none⟩) (by show b + 2 ≠ b + 1; omega) _, N1'.out.q2.c, N1'.out.q2.b⟩)
                have z3 : y3.cell? ⟨b + 2, 0, none⟩ = some (.int .i64 0) := Q2.out.blk.cell 0
                have z4 : y3.frozen? ⟨b + 2, 0, none⟩ = false := Q2.out.blk.frozen 0
                obtain ⟨y4, ey4⟩ : ∃ y', y3.setCell ⟨b + 2, 0, none⟩ (.int .i64 0) = y' := ⟨_, rfl⟩
                have t4 : Tch 19 20 cr6 cr6 y3 y4 := by rw [← ey4]; exact (Tch.refl _ _ _ _).setCell (p := ⟨b + 2, 0, none⟩) (by have := Q2.out.c; show 19 ≤ cr6 (b + 2) ∧ cr6 (b + 2) < 20; omega) _
                have t34 := t3.trans t4
                have U1 := Lib.hid (show Tch 16 24 (fun _ => 0) cr6 w y4 from N1'.out.t.trans (t34.mono (by omega) (by omega)))
                have U3 := Lib.hid (W3.out.keep t34 (by omega))
                have U5 := Lib.hid (W5.out.keep t34 (by omega))
                have FK := Lib.hid (show KeepsOthers y y4 by rw [← ey4, ← ey3]; exact (W6.out.trans (KeepsOthers.setCell _ _ _)).trans (KeepsOthers.setCell _ _ _))
                have r1 : y4.cell? ⟨b + 1, 0, none⟩ = some (.slice (some ⟨g6, 0, none⟩) (th.length + 1) cp6) := (show Blk y4 (b + 1) 25 #[.slice (some ⟨g6, 0, none⟩) (th.length + 1) cp6] by rw [← ey4]; exact Q1.out.blk.far (p := ⟨b + 2, 0, none⟩) (by show b + 1 ≠ b + 2; omega) _).cell 0
                have r2 : y4.cell? ⟨b + 2, 0, none⟩ = some (.int .i64 0) := (show Blk y4 (b + 2) 26 #[.int .i64 0] by rw [← ey4]; exact Q2.out.blk.set_ 0 _).cell 0
                have EY3 := Lib.hid ey3
                have EY4 := Lib.hid ey4
                refine hK _ _ ?_
                clear r6 t6 k6 t3 t4 t34 ey3 ey4 hK K V1 V3 V5 V6 X5 N1' W3 W5 W6 Q1 Q2))
          | rw [EY3.out]
          | rw [EY4.out]
          | fail)
        try rw [EY3.out, EY4.out]
        have g1 := U1.out
        have hDd2 := FK.out.same D2 _ N4.out rfl
        have hDW := FK.out.same D _ N3.out rfl
        refine ⟨by simp, .inl ⟨_, _, rfl, run_takeDeferred hDd2, ?_⟩⟩
        have hq := grownBy_putObj' y4 D2 (.deferred none)
        have q1 := cell_kept r1 hq (fun r e => by cases e; exact ⟨_, hDd2, rfl⟩)
        have q2 := cell_kept r2 hq (fun r e => by cases e; exact ⟨_, hDd2, rfl⟩)
        have hb1 := g1.turn hq (fun q e => by cases e; omega)
        have tu1 : Turn y4 (y4.putObj D2 (.deferred none)) := ⟨_, hq, fun q e => by cases e; exact ⟨_, hDd2, rfl⟩⟩
        have hDW2 : (y4.putObj D2 (.deferred none)).heap[D]? = some (.deferred (some [])) := (hq.block D (Array.getElem?_eq_some_iff.1 hDW).1 (fun e => by injection e with e; omega)).trans hDW
        refine ⟨by simp, .inl ⟨_, _, rfl, run_takeDeferred hDW2, ?_⟩⟩
        have hq2 := grownBy_putObj' (y4.putObj D2 (.deferred none)) D (.deferred none)
        have q3 := cell_kept q1 hq2 (fun r e => by cases e; exact ⟨_, hDW2, rfl⟩)
        have q4 := cell_kept q2 hq2 (fun r e => by cases e; exact ⟨_, hDW2, rfl⟩)
        have tu2 : Turn (y4.putObj D2 (.deferred none)) ((y4.putObj D2 (.deferred none)).putObj D (.deferred none)) := ⟨_, hq2, fun q e => by cases e; exact ⟨_, hDW2, rfl⟩⟩
        have hbt := hb1.turn hq2 (fun q e => by cases e; omega)
        have htb : tB s ws rs = th ++ [rb] := by rw [tB, ETH.out, HSM.out, HRB.out]
        refine ⟨.tuple #[.slice (some ⟨g6, 0, none⟩) (th.length + 1) cp6, .int .i64 0], by simp [results, Try.f6, go_sem, q3, q4], .inr ⟨tOk_yes (by omega) (by omega) (fun j hj => H3.out ⟨j, by rw [← hwl]; exact hj⟩ (subs_mem _)) (fun j hj => H5.out ⟨j, by rw [← hrl]; exact hj⟩ (subs_mem _)) hmy, _, cr6, rfl, hbt.below (Nat.le_refl _) (fun i _ => by omega), ?_⟩⟩
        rw [htb, hb]
        exact ⟨_, by rw [List.length_append]; exact (U3.out.turn tu1).turn tu2, (U5.out.turn tu1).turn tu2⟩
    case body2 =>
      rintro l pre x W2 ⟨col2, ⟨h1, h2, h4, h6⟩, h3⟩ hlen
      obtain ⟨j, hj⟩ : ∃ j, x.1 = j := ⟨_, rfl⟩
      have hjn : j < nch 60 m := by rw [← hj]; exact x.2
      have hjk : j * 60 < m := (nch_iff (by omega)).1 hjn
      obtain ⟨a, rfl⟩ : ∃ a, R = some a := Option.ne_none_iff_exists'.1 (hR (by omega))
      obtain ⟨A', hA'⟩ : ∃ A', a.add (j * 60) = A' := ⟨_, rfl⟩
      obtain ⟨e, he⟩ : ∃ e, min 60 (m - j * 60) = e := ⟨_, rfl⟩
      obtain ⟨p, hp⟩ : ∃ p, cutAt 60 rs j = p := ⟨_, rfl⟩
      have hrl : rs.length = m := by have := HR.out.len; simpa [ints] using this
      have hpl : p.length = e := by rw [← hp, cutAt_len, hrl, he]
      have he1 : 1 ≤ e ∧ e ≤ 60 := by omega
      have HP := Lib.hid (show ∀ (i : Nat) (nn : Int), p[i]? = some nn → w.cell? (A'.add i) = some (.int .i64 nn) from fun i nn hi => by
        rw [← hp] at hi
        obtain ⟨_, hi2⟩ := cutAt_at hi
        obtain ⟨a', e', hc⟩ := HR.out.2 (by omega)
        injection e' with e'
        subst e'
        rw [← hA', add_add_]
        exact hc (j * 60 + i) _ (by simp [ints, hi2]))
      have hN2 : pre.length ≤ 100 := by
        have : nch 60 m ≤ 100 := by
          unfold nch
          have := Nat.div_le_div_right (c := 60) (show m + 60 - 1 ≤ 4155 by omega)
          omega
        omega
      obtain ⟨bl2, hbl2⟩ : ∃ bl2, (bl ++ pre.flatMap fun x => layR s (cutAt 60 rs x.1)) = bl2 := ⟨_, rfl⟩
      have hbll : bl2.length ≤ 6000 := by
        rw [← hbl2, List.length_append, flatR_len]
        have := HBLL.out
        omega
      rw [hbl2] at h2
      have HBL2 := Lib.hid hbl2
      have HPP := Lib.hid hp
      have H5 := Lib.hid h3
      have hj2 := hj
      rw [hj, Option.map_some, hA', he]
      obtain ⟨r0, hr0⟩ : ∃ r0, W2.heap.size = r0 := ⟨_, rfl⟩
      obtain ⟨y1, ey1⟩ : ∃ y, W2.alloc (.cells #[.int .i64 3, .int .i64 s, .slice none 0 0, .int .u32 0, .int .i64 0] 36) = y := ⟨_, rfl⟩
      obtain ⟨cy, ecy⟩ : ∃ cy, paint col2 r0 22 = cy := ⟨_, rfl⟩
      have ty : Tch 22 23 col2 cy W2 y1 := by
        have t0 : Tch 22 23 col2 col2 W2 y1 := by rw [← ey1]; exact (Tch.refl _ _ _ _).alloc _
        rw [← ecy]
        exact t0.paint (by omega) (by rw [← ey1]; simp; omega) (by omega)
      have LB1 := Lib.hid (h1.keep ty (by omega) (by omega) (by omega))
      have LA1 := Lib.hid (h2.keep ty (by omega) (by omega))
      have KR1 := Lib.hid (show Bk y1 cy b 22 r0 36 #[.int .i64 3, .int .i64 s, .slice none 0 0, .int .u32 0, .int .i64 0] from ⟨by rw [← ey1, ← hr0]; exact Blk.new _ _ _, by rw [← ecy, paint_self], by have := h1.t.size; omega⟩)
      have TY := Lib.hid (show Tch 16 24 col2 cy W2 y1 from ty.mono (by omega) (by omega))
      have KO1 := Lib.hid (show KeepsOthers W2 y1 by rw [← ey1]; exact KeepsOthers.alloc _ _)
      have HB0 := Lib.hid h1
      have HQ := Lib.hid h4
      have HM6 := Lib.hid h6
      have EY := Lib.hid ey1
      have ER := Lib.hid hr0
      have w0 : W2.cell? ⟨b, 0, none⟩ = some (.int .i64 s) := h1.q0.blk.cell 0
      clear h1 h2 h3 h4 h6 ty ey1 hr0 ecy hbl2 hp hA' he hj
      gi_wp2_with (first | rw [EY.out, ER.out] | fail)
      gi_loopw [102] (fun ii wr => ∃ (i : Nat) (cr : Col) (ve : Value), ii = .int .i64 i ∧ i ≤ e ∧ LayB w wr cr b s fv ∧ LayAt wr cr b (b + 3) (b + 4) bl2 ∧ Bk wr cr b 22 r0 36 #[.int .i64 3, .int .i64 s, ve, .int .u32 0, .int .i64 0] ∧ Row wr cr b 21 46 2 ve i (ecells (rEnts (p.take i))) ∧ KeepsOthers W2 wr ∧ Tch 16 24 col2 cr W2 wr) (fun ii _ => e - (intOf ii).toNat)
      case atStart => exact ⟨0, cy, _, rfl, by omega, LB1.out, LA1.out, KR1.out, Row.nil _ _ _ _ _ _, KO1.out, TY.out⟩
      case round =>
        obtain ⟨i, cr, ve, rfl, hi, g1, g2, g3, g6, g7, g8⟩ := hrel
        have hwsz : w.heap.size ≤ wr.heap.size := g1.t.size
        have hbsz : b ≤ wr.heap.size := by omega
        by_cases hlt : i < e
        · have hii : (i : Int) < (e : Int) := by omega
          have hi0 : (0 : Int) ≤ (i : Int) := by omega
          have hin : ((i : Int)).toNat = i := by omega
          obtain ⟨nn, hx⟩ : ∃ y, p[i]? = some y := ⟨_, List.getElem?_eq_getElem (by omega)⟩
          have htk : p.take (i + 1) = p.take i ++ [nn] := by rw [List.take_add_one, hx]; rfl
          have k0 : wr.cell? (A'.add i) = some (.int .i64 nn) := by
            have h := HP.out i nn hx
            exact ((g1.t.below (Nat.le_refl _) (fun i _ => by omega)).cell (World.block_lt_of_cell? _ _ h)).trans h
          have HTK := Lib.hid htk
          have x2 : wr.cell? ⟨r0, 2, none⟩ = some ve := g3.blk.cell 2
          obtain ⟨y7, ey7⟩ : ∃ y, wr.alloc (.cells #[.int .i64 nn, .bool false] 46) = y := ⟨_, rfl⟩
          have t7 : Tch 16 16 cr cr wr y7 := by rw [← ey7]; exact (Tch.refl _ _ _ _).alloc _
          have X7 := Lib.hid (show RowAt y7 (some ⟨wr.heap.size, 0, none⟩) (1 * 2) [.int .i64 nn, .bool false] by rw [← ey7]; exact lit_rowN wr 46 [.int .i64 nn, .bool false] (1 * 2) wr.heap.size rfl rfl)
          have O1 := Lib.hid (g1.keep t7 (by omega) (by omega) (by omega))
          have O2 := Lib.hid (g2.keep t7 (by omega) (by omega))
          have O3 := Lib.hid (g3.keep t7 (by omega))
          have O6 := Lib.hid (g6.keep t7 (by omega))
          have O7 := Lib.hid (show KeepsOthers W2 y7 by rw [← ey7]; exact g7.trans (KeepsOthers.alloc _ _))
          have O8 := Lib.hid (g8.trans (t7.any (Nat.le_refl _)))
          have EY7 := Lib.hid ey7
          have hb7 : b ≤ y7.heap.size := by have := O1.out.t.size; omega
          clear g1 g2 g3 g6 g7 g8 hx htk ey7 t7
          gi_wp2_with (first
            | (gi_at_builtin
               first
               | (rw [EY7.out]
                  refine app_round rfl (by intro c h; cases h) fun K hK => ?_
                  refine app_op y7 33 46 (.agg #[.int .i64 0, .bool false]) 2 16 Try.underlying33 infoEntL rfl (by decide) (.tmp 107) (.tmp 110) rfl cr b 21 21 22 ve i (ecells (rEnts (p.take i))) rfl O6.out ⟨by omega, by omega⟩ ⟨wr.heap.size, 0, none⟩ 1 1 [.int .i64 nn, .bool false] rfl X7.out (by intro u hu; simp at hu; rcases hu with rfl | rfl <;> rfl) (by unfold maxLen; omega) (by omega) hb7 ?_
                  intro ve8 y8 cr8 r8 t8 k8
                  obtain ⟨g8, cp8, _, rfl, _⟩ := own_formN r8.own (by omega)
                  have P1 := Lib.hid (O1.out.keep t8 (by omega) (by omega) (by omega))
                  have P2 := Lib.hid (O2.out.keep t8 (by omega) (by omega))
                  have P3 := Lib.hid (O3.out.keep t8 (by omega))
                  have P6 := Lib.hid (show Row y8 cr8 b 21 46 2 (.slice (some ⟨g8, 0, none⟩) (i + 1) cp8) (i + 1) (ecells (rEnts (p.take (i + 1)))) by
                    rw [HTK.out, rEnts, List.map_append, ecells, List.flatMap_append]
                    exact r8)
                  have P7 := Lib.hid (O7.out.trans k8)
                  have P8 := Lib.hid (O8.out.trans (t8.mono (by omega) (by omega)))
                  have x4 : y8.cell? ⟨r0, 2, none⟩ = some ve := P3.out.blk.cell 2
                  have x5 : y8.frozen? ⟨r0, 2, none⟩ = false := P3.out.blk.frozen 2
                  obtain ⟨y9, ey9⟩ : ∃ y, y8.setCell ⟨r0, 2, none⟩ (.slice (some ⟨g8, 0, none⟩) (i + 1) cp8) = y := ⟨_, rfl⟩
                  have t9 : Tch 22 23 cr8 cr8 y8 y9 := by rw [← ey9]; exact (Tch.refl _ _ _ _).setCell (p := ⟨r0, 2, none⟩) (by have := P3.out.c; show 22 ≤ cr8 r0 ∧ cr8 r0 < 23; omega) _
                  have R1 := Lib.hid (P1.out.keep t9 (by omega) (by omega) (by omega))
                  have R2 := Lib.hid (P2.out.keep t9 (by omega) (by omega))
                  have R3 := Lib.hid (show Bk y9 cr8 b 22 r0 36 #[.int .i64 3, .int .i64 s, .slice (some ⟨g8, 0, none⟩) (i + 1) cp8, .int .u32 0, .int .i64 0] by rw [← ey9]; exact P3.out.set 2 _)
                  have R6 := Lib.hid (P6.out.keep t9 (by omega))
                  have R7 := Lib.hid (show KeepsOthers W2 y9 by rw [← ey9]; exact P7.out.trans (KeepsOthers.setCell _ _ _))
                  have R8 := Lib.hid (P8.out.trans (t9.mono (by omega) (by omega)))
                  have EY9 := Lib.hid ey9
                  refine hK _ _ ?_
                  clear r8 t8 k8 ey9 t9 hK K O1 O2 O3 O6 O7 O8 X7 P1 P2 P3 P6 P7 P8))
            | rw [EY9.out]
            | fail)
          go_roundw
          case rel => first | exact ⟨i + 1, cr8, _, rfl, by omega, R1.out, R2.out, R3.out, R6.out, R7.out, R8.out⟩ | exact ⟨i + 1, cr8, _, by go_num, by omega, R1.out, R2.out, R3.out, R6.out, R7.out, R8.out⟩ | ((repeat apply Exists.intro); refine ⟨?_, rfl⟩; exact ⟨i + 1, cr8, _, by go_num, by omega, R1.out, R2.out, R3.out, R6.out, R7.out, R8.out⟩)
          case measure => simp [intOf]; omega
        · obtain rfl : i = e := by omega
          have hpt : p.take i = p := List.take_of_length_le (by omega)
          rw [hpt] at g6
          obtain ⟨ge, ce, _, rfl, _, _, hce1, hce2, _⟩ := own_formN g6.own (by omega)
          have hel : (rEnts p).length = i := by rw [rEnts, List.length_map]; exact hpl
          have HPK := Lib.hid (logPack_any 3 s (some ⟨ge, 0, none⟩) i ce 0 0 (rEnts p) wr (by omega) (by omega) (rowAt_ownN g6.own))
          have l0 : wr.cell? ⟨r0, 0, none⟩ = some (.int .i64 3) := g3.blk.cell 0
          have l1 : wr.cell? ⟨r0, 1, none⟩ = some (.int .i64 s) := g3.blk.cell 1
          have l2 : wr.cell? ⟨r0, 2, none⟩ = some (.slice (some ⟨ge, 0, none⟩) i ce) := g3.blk.cell 2
          have l3 : wr.cell? ⟨r0, 3, none⟩ = some (.int .u32 0) := g3.blk.cell 3
          have l4 : wr.cell? ⟨r0, 4, none⟩ = some (.int .i64 0) := g3.blk.cell 4
          have hni : ¬ (i : Int) < (i : Int) := by omega
          have G1 := Lib.hid g1
          have G2 := Lib.hid g2
          have G7 := Lib.hid g7
          have G8 := Lib.hid g8
          rw [show ((0 : Nat) : Int) = 0 from rfl] at HPK
          clear g1 g2 g3 g6 g7 g8 hpt
          cases hmy : rMay 3 s (rEnts p) 0 0 with
          | false =>
            rw [show rE 3 s (rEnts p) 0 0 = 22 by simp [rE, hmy]] at HPK
            have FB := Lib.hid (show okR s (cutAt 60 rs j) = false from by rw [HPP.out, okR, hmy])
            clear hmy
            gi_wp2
            first
            | refine ⟨trivial, ?_⟩
            | skip
            refine CallsIn.mono (CallsIn.inRound l (callsIn_wide.2 HPK.out)) ?_
            rintro e' y2 ⟨v2, rfl, b2, o2⟩
            have t2 : Tch 16 16 cr cr wr y2 := Tch.of_below b2
            have M1 := Lib.hid (G1.out.keep t2 (by omega) (by omega) (by omega))
            have M7 := Lib.hid (G7.out.trans (KeepsOthers.below b2))
            clear b2 o2 t2 l0 l1 l2 l3 l4 G1 G7
            have z1 : y2.cell? ⟨b + 1, 0, none⟩ = some (.slice none 0 0) := M1.out.q1.blk.cell 0
            have z2 : y2.frozen? ⟨b + 1, 0, none⟩ = false := M1.out.q1.blk.frozen 0
            obtain ⟨y3, ey3⟩ : ∃ y, y2.setCell ⟨b + 1, 0, none⟩ (.slice none 0 0) = y := ⟨_, rfl⟩
            have t3 : Tch 19 20 cr cr y2 y3 := by rw [← ey3]; exact (Tch.refl _ _ _ _).setCell (p := ⟨b + 1, 0, none⟩) (by have := M1.out.q1.c; show 19 ≤ cr (b + 1) ∧ cr (b + 1) < 20; omega) _
            have Q1 := Lib.hid (show Bk y3 cr b 19 (b + 1) 25 #[.slice none 0 0] by rw [← ey3]; exact M1.out.q1.set 0 _)
            have Q2 := Lib.hid (show Bk y3 cr b 19 (b + 2) 26 #[.int .i64 0] from ⟨by rw [← ey3]; exact M1.out.q2.blk.far (p := ⟨b + 1, 0, none⟩) (by show b + 2 ≠ b + 1; omega) _, M1.out.q2.c, M1.out.q2.b⟩)
            have z3 : y3.cell? ⟨b + 2, 0, none⟩ = some (.int .i64 0) := Q2.out.blk.cell 0
            have z4 : y3.frozen? ⟨b + 2, 0, none⟩ = false := Q2.out.blk.frozen 0
            obtain ⟨y4, ey4⟩ : ∃ y, y3.setCell ⟨b + 2, 0, none⟩ (.int .i64 22) = y := ⟨_, rfl⟩
            have t4 : Tch 19 20 cr cr y3 y4 := by rw [← ey4]; exact (Tch.refl _ _ _ _).setCell (p := ⟨b + 2, 0, none⟩) (by have := Q2.out.c; show 19 ≤ cr (b + 2) ∧ cr (b + 2) < 20; omega) _
            have FX := Lib.hid (show LayX w y4 b from ⟨cr, (M1.out.t.trans (t3.mono (by omega) (by omega))).trans (t4.mono (by omega) (by omega)), ⟨by rw [← ey4]; exact Q1.out.blk.far (p := ⟨b + 2, 0, none⟩) (by show b + 1 ≠ b + 2; omega) _, Q1.out.c, Q1.out.b⟩, by rw [← ey4]; exact Q2.out.set 0 _⟩)
            have FK := Lib.hid (show KeepsOthers W2 y4 by rw [← ey4, ← ey3]; exact (M7.out.trans (KeepsOthers.setCell _ _ _)).trans (KeepsOthers.setCell _ _ _))
            have EY3 := Lib.hid ey3
            have EY4 := Lib.hid ey4
            clear ey3 ey4 t3 t4
            gi_wp2_with (first | rw [EY3.out] | rw [EY4.out] | fail)
            first
            | exact ⟨FK.out.from _, ⟨rfl, ⟨j, hjn, FB.out⟩, FK.out.same D _ HM6.out rfl⟩, FX.out⟩
            | (rw [EY3.out, EY4.out]; exact ⟨FK.out.from _, ⟨rfl, ⟨j, hjn, FB.out⟩, FK.out.same D _ HM6.out rfl⟩, FX.out⟩)
          | true =>
            rw [show rE 3 s (rEnts p) 0 0 = 0 by simp [rE, hmy]] at HPK
            have hrl := rB_len hmy (show 0 < 4294967296 by omega)
            have HOK := Lib.hid (show okR s (cutAt 60 rs j) = true from by rw [HPP.out, okR, hmy])
            rw [hrl] at HPK
            clear hmy hrl
            gi_wp2
            first
            | refine ⟨trivial, ?_⟩
            | skip
            refine CallsIn.mono (CallsIn.inRound l (callsIn_wide.2 HPK.out)) ?_
            rintro e' y2 ⟨v2, rfl, b2, o2⟩
            obtain ⟨g2, cp2, _, rfl, hg2, _⟩ := own_form o2 (by omega)
            obtain ⟨cr2, ecr2⟩ : ∃ cr2, paint cr g2 1 = cr2 := ⟨_, rfl⟩
            have t2 : Tch 16 16 cr cr2 wr y2 := by rw [← ecr2]; exact (Tch.of_below b2).paint hg2 (o2.lt _ rfl).2 (by omega)
            have D2 := Lib.hid (show Row y2 cr2 b 1 5 1 (.slice (some ⟨g2, 0, none⟩) 256 cp2) 256 (bvl (rB 3 s (rEnts p) 0 0)) from ⟨own_mono o2 hbsz, fun g e => by injection e with e; subst e; rw [← ecr2, paint_self]⟩)
            have M1 := Lib.hid (G1.out.keep t2 (by omega) (by omega) (by omega))
            have M2 := Lib.hid (G2.out.keep t2 (by omega) (by omega))
            have M7 := Lib.hid (G7.out.trans (KeepsOthers.below b2))
            have M8 := Lib.hid (G8.out.trans (t2.any (Nat.le_refl _)))
            have hb2 : b ≤ y2.heap.size := Nat.le_trans hbsz t2.size
            have f5 : y2.cell? ⟨b + 5, 0, none⟩ = some (.func (.func 15) #[] #[.pointer (some ⟨b + 3, 0, none⟩), .pointer (some ⟨b + 4, 0, none⟩)]) := by rw [← HFV.out]; exact M1.out.q5.blk.cell 0
            have HLC := Lib.hid (layC_any y2 cr2 b (b + 3) (b + 4) cp2 (some ⟨g2, 0, none⟩) bl2 (rB 3 s (rEnts p) 0 0) M2.out D2.out (by omega) hb2)
            clear b2 o2 ecr2 t2 l0 l1 l2 l3 l4 G1 G2 G7 G8 HPK
            gi_wp2
            refine ⟨trivial, ?_⟩
            refine CallsIn.mono (CallsIn.inRound l (callsIn_wide.2 HLC.out)) ?_
            rintro e' y3 ⟨cr3, rfl, t3, la3, k3⟩
            have hbl2 : bl2 ++ [rB 3 s (rEnts p) 0 0] = bl ++ (pre ++ [x]).flatMap fun x => layR s (cutAt 60 rs x.1) := by
              rw [List.flatMap_append, ← List.append_assoc, HBL2.out]
              simp [List.flatMap_cons, hj2, HPP.out, layR]
            rw [hbl2] at la3
            have L1 := Lib.hid (M1.out.keep t3 (by omega) (by omega) (by omega))
            have L2 := Lib.hid la3
            have L7 := Lib.hid (M7.out.trans k3)
            have L8 := Lib.hid (M8.out.trans (t3.mono (by omega) (by omega)))
            clear t3 la3 k3 f5 M1 M2 M7 M8 HLC
            gi_wp2
            have hq1 := HQ.out
            have hwq : q < W2.heap.size ∧ q + 1 < W2.heap.size := by omega
            exact ⟨L7.out.from _, ⟨L8.out.block _ hwq.1 (by rw [hq1.1]; omega), L8.out.block _ hwq.2 (by rw [hq1.2.1]; omega)⟩, ⟨cr3, ⟨L1.out, L2.out, ⟨by rw [L8.out.hue _ hwq.1 (by rw [hq1.1]; omega)]; exact hq1.1, by rw [L8.out.hue _ hwq.2 (by rw [hq1.2.1]; omega)]; exact hq1.2.1, Nat.le_trans hq1.2.2 L8.out.size⟩, L7.out.same D _ HM6.out rfl⟩, fun y hy => by
              rcases List.mem_append.1 hy with hy | hy
              · exact H5.out y hy
              · rw [List.mem_singleton.1 hy, hj2]; exact HOK.out⟩⟩
end Go.Proofs.Ytifamhmiibhohaa.Mem
