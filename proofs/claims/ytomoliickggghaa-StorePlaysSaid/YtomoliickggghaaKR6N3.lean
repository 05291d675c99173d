
/-
  A LAW for regions that draw their order, walked in the text's order: some operations are taken first (their value is the same in every world that meets S), some are forced (none but they can come up) and are carried out, S being shown anew; where no more of the world turns, the rest is walked still. No program in sight.
  WORDS: slices of integers that came in, as bytes, ints, numbers. No program in sight.
  A LAW for regions that draw their order, walked step by step: operations are taken first where their value is the same in every world that meets S; S is asked anew only behind those operations that may come up while such a one is still to come ('need'); what is left branches over what may come up. No program in sight.
  THE WALK of slices.Clone of bytes.
  MEMORY WITH OWNERS: each block has a colour; a call touches blocks of some colours alone, and new ones.
  MEMORY WITH OWNERS: a map[int]T, told by a function.
  layer 2 (disk), as layer 6 uses it: what a disk is in memory; New, Blocks, has, Read, Write.
  layer 2 (disk), as layer 6 uses it: New, Write.
-/
import Derived.Deep.RegionHeld3
import Derived.StillTailTactics
import Derived.WalkKit
import Derived.Lib.Hide
import Derived.Test.YtomoliickggghaaKR6N1
import Derived.OpenShut
import Derived.Test.YtomoliickggghaaKR6N2
import Derived.WalkSpells
import Derived.Maps.OwnSet
import Derived.Maps.Ext
import Derived.Maps.RangeWalk
import Derived.Carry
namespace Go.Proofs.Ytomoliickggghaa
open Go.RowKit
section
variable {P : Program} {ops : Array Oper} {md : Region.Mode} {Q : Exit → Act → World → Prop} {S : World → Prop}

/-- In every world that meets S operation o leaves v in its temporary and does nothing else: by itself, or by a call that leaves the world as it was. -/
def YI (P : Program) (ops : Array Oper) (S : World → Prop) (o : Oper) (v : Value) (a : Act) : Prop :=
  (Region.wanted o (yielded ops a.tmps) = true ∧ ∀ w, S w → (execOp a.eval o).run P w = .ok (.value v) w ∨ ∃ f args, (execOp a.eval o).run P w = .ok (.enter f args) w ∧ Calls P f args w (fun e w' => e = .returned v ∧ w' = w)) ∨
  (Region.wanted o (yielded ops a.tmps) = false ∧ v = undef)
theorem YI.of_same {o : Oper} {v : Value} {a a' : Act} (hy : YI P ops S o v a) (he : execOp a'.eval o = execOp a.eval o) (hw : Region.wanted o (yielded ops a'.tmps) = Region.wanted o (yielded ops a.tmps)) : YI P ops S o v a' := by
  unfold YI at *
  rw [he, hw]
  exact hy
theorem YI.wpOp {i : Nat} {o : Oper} {v : Value} {a : Act} (hi : ops[i]? = some o) (hy : YI P ops S o v a) {K : Act → World → Prop} {w : World} (hS : S w) (h : K (a.put o.dst v) w) : wpOp P ops Q i K a w := by
  unfold Go.wpOp
  simp only [hi]
  rcases hy with ⟨hw, hv⟩ | ⟨hw, rfl⟩
  · rcases hv w hS with hr | ⟨f, args, hr, hc⟩
    · simp only [hw, if_true, Oper.wp, hr, Oper.upon]; exact .inl h
    · simp only [hw, if_true, Oper.wp, hr, Oper.upon]
      exact .inl (hc.mono fun e w' ⟨he, hw'⟩ => by subst he; subst hw'; exact h)
  · simp only [hw, Bool.false_eq_true, if_false]; exact h

/-- Two operations that are apart: a fact that the one keeps goes with it. -/
theorem wpOp_putY {j : Nat} {oi oj : Oper} {v : Value} (hj : ops[j]? = some oj) (hap : oi.apart ops oj = true) (hsj : ∀ cs b, oj.op ≠ .select cs b)
    (hQ : ∀ c a w, Q (.panic c) (a.put oi.dst v) w → Q (.panic c) a w) {Y : Act → Prop} (hYp : ∀ a, Y a → ∀ u, Y (a.put oj.dst u)) (hYd : ∀ (a : Act) d, Y a → Y { a with defers := d :: a.defers })
    {K : Act → World → Prop} {a : Act} {w : World} (hy : Y a) (h : wpOp P ops Q j K (a.put oi.dst v) w) : wpOp P ops Q j (fun a' w' => Y a' ∧ K (a'.put oi.dst v) w') a w := by
  obtain ⟨h1, h2, h3⟩ := Oper.apart_spec hap
  unfold wpOp at *
  simp only [hj] at *
  rw [wanted_put oj a oi.dst v h1] at h
  by_cases hw : Region.wanted oj (yielded ops a.tmps) = true
  · simp only [hw, if_true] at h ⊢
    rcases h with h | ⟨hasks, hlets⟩
    · refine .inl ?_
      unfold Oper.wp at *
      rw [execOp_put oj hsj a oi.dst v h1] at h
      generalize (execOp a.eval oj).run P w = r at *
      cases r with
      | halt x w' =>
        cases x <;> simp only [Oper.upon] at h ⊢
        case panic u => exact hQ _ _ _ h
      | ok n w' =>
        cases n <;> simp only [Oper.upon] at h ⊢
        case value u => exact ⟨hYp a hy u, by rw [← Act.put_comm a v u h2]; exact h⟩
        case skip => exact ⟨hYp a hy _, by rw [← Act.put_comm a v undef h2]; exact h⟩
        case defer d =>
          refine ⟨hYp _ (hYd a d hy) _, ?_⟩
          rw [← Act.put_comm _ v undef h2, ← Act.put_defers]
          exact h
        case enter f args =>
          refine Calls.mono h fun e w'' he => ?_
          cases e with
          | returned u => exact ⟨hYp a hy u, by rw [← Act.put_comm a v u h2]; exact he⟩
          | panicked c => exact hQ _ _ _ he
          | outgrown => exact he
        case row row args => exact Rows.mono h fun u w'' he => ⟨hYp a hy u, by rw [← Act.put_comm a v u h2]; exact he⟩
    · exact .inr ⟨by unfold Oper.asks at *; rw [execOp_put oj hsj a oi.dst v h1] at hasks; exact hasks, hlets⟩
  · simp only [hw] at h ⊢
    exact ⟨hYp a hy _, by rw [← Act.put_comm a v undef h2]; exact h⟩

theorem getD_falseT {listed : Array Bool} {i : Nat} (h : listed.getD i true = false) : listed.getD i false = false := by
  rcases Nat.lt_or_ge i listed.size with h' | h'
  · simp [h'] at h ⊢; exact h
  · simp [Array.getElem?_eq_none h'] at h
theorem wpAnyH_firstY {i : Nat} {oi : Oper} {v : Value} (hi : ops[i]? = some oi) (hsel : ∀ (j : Nat) (o : Oper) cs b, ops[j]? = some o → o.op ≠ .select cs b)
    (hQ : ∀ c a w, Q (.panic c) (a.put oi.dst v) w → Q (.panic c) a w) : ∀ (fuel : Nat) (listed : Array Bool) (a : Act) (w : World),
      (∀ j oj, ops[j]? = some oj → j ≠ i → listed.getD j true = false → (∀ e ∈ oj.after, Region.binds md e = true → e.on ≠ i) → oi.apart ops oj = true) →
      i ∈ Region.ready md ops listed → YI P ops S oi v a → S w →
      wpAnyH P md ops Q S fuel (listed.setIfInBounds i true) (a.put oi.dst v) w → wpAnyH P md ops Q S (fuel + 1) listed a w
  | fuel, listed, a, w, hfree, hr, hy, hS, H => by
    refine ⟨fun h => (by rw [h] at hr; cases hr), fun j hj => ?_⟩
    by_cases hji : j = i
    · subst hji; exact hy.wpOp hi hS ⟨hS, H⟩
    · obtain ⟨hjun, oj, hoj, hall⟩ := mem_ready.1 hj
      cases fuel with
      | zero =>
        have := ready_mono hj hji
        rw [H.1] at this
        cases this
      | succ fuel =>
        have h1 := H.2 j (ready_mono hj hji)
        have hnot : ∀ e ∈ oj.after, Region.binds md e = true → e.on ≠ i := fun e he hb heq => by
          have h1 := hall e he hb
          rw [heq, getD_falseT (mem_ready.1 hr).1] at h1
          cases h1
        have hap := hfree j oj hoj hji hjun hnot
        obtain ⟨a1, a2, a3⟩ := Oper.apart_spec hap
        have h2 := wpOp_putY (Y := fun a' => YI P ops S oi v a') hoj hap (fun cs b => hsel j oj cs b hoj) hQ
          (fun a hy u => hy.of_same (execOp_put oi (fun cs b => hsel i oi cs b hi) a oj.dst u a3) (wanted_put oi a oj.dst u a3)) (fun a d hy => hy.of_same rfl rfl) hy h1
        have hfree' : ∀ k ok, ops[k]? = some ok → k ≠ i → (listed.setIfInBounds j true).getD k true = false →
            (∀ e ∈ ok.after, Region.binds md e = true → e.on ≠ i) → oi.apart ops ok = true := fun k ok hk hki hun hno => by
          refine hfree k ok hk hki ?_ hno
          by_cases hjk : j = k
          · subst hjk; exact hjun
          · rw [getD_set_ne true hjk] at hun; exact hun
        refine wpOp_mono (fun a' w' h3 => ⟨h3.2.1, wpAnyH_firstY hi hsel hQ fuel (listed.setIfInBounds j true) a' w' hfree' (ready_mono hr (Ne.symm hji)) h3.1 h3.2.1 ?_⟩) h2
        rw [Array.setIfInBounds_comm _ _ hji]
        exact h3.2.2

/-- The flags: true: taken first; false: forced. Behind them: the rest may be walked still. -/
def lexMix (md : Region.Mode) (ops : Array Oper) : List Bool → Nat → Array Bool → Bool
  | [], k, listed => Region.lexFrom md ops (ops.size - k) k listed
  | true :: bs, k, listed => ((Region.ready md ops listed).contains k && Region.free md ops listed k) && lexMix md ops bs (k + 1) (listed.setIfInBounds k true)
  | false :: bs, k, listed => decide (Region.ready md ops listed = [k]) && lexMix md ops bs (k + 1) (listed.setIfInBounds k true)

def wpMix (P : Program) (ops : Array Oper) (Q : Exit → Act → World → Prop) (S : World → Prop) : List Bool → List Oper → Act → World → Prop
  | [], l, a, w => wpStill P ops w (fun a' => Q .normal a' w) l a
  | true :: bs, o :: l, a, w => ∃ v, YI P ops S o v a ∧ wpMix P ops Q S bs l (a.put o.dst v) w
  | false :: bs, o :: l, a, w => if Region.wanted o (yielded ops a.tmps) = true then o.wp P a w (fun a' w' => S w' ∧ wpMix P ops Q S bs l a' w') Q else wpMix P ops Q S bs l (a.put o.dst undef) w
  | _ :: _, [], _, _ => False

theorem wpAnyH_of_still {w : World} {Q' : Act → Prop} (hS : S w) (hQ : ∀ a, Q' a → Q .normal a w) : ∀ (fuel : Nat) (listed : Array Bool) (a : Act),
    wpAnyS P md ops w Q' fuel listed a → wpAnyH P md ops Q S fuel listed a w
  | 0, _, _, h => ⟨h.1, hQ _ h.2⟩
  | fuel + 1, _, _, h => ⟨fun h0 => hQ _ (h.1 h0), fun i hi => wpOp_of_stOp (fun a' h' => ⟨hS, wpAnyH_of_still hS hQ fuel _ a' h'⟩) (h.2 i hi)⟩

theorem wpAnyH_of_mix (hs : Region.noSelect ops = true) (hQ : ∀ c (a : Act) d v w, Q (.panic c) (a.put d v) w → Q (.panic c) a w) :
    ∀ (bs : List Bool) (l : List Oper) (k : Nat) (listed : Array Bool) (a : Act) (w : World), (∀ j, l[j]? = ops[k + j]?) → k + l.length = ops.size →
      lexMix md ops bs k listed = true → S w → wpMix P ops Q S bs l a w → wpAnyH P md ops Q S l.length listed a w
  | [], l, k, listed, a, w, hl, hk, hB, hS, h => by
    have hlen : ops.size - k = l.length := by omega
    rw [lexMix, hlen] at hB
    exact wpAnyH_of_still hS (fun _ h => h) _ _ _ (wpAnyS_lex hs l k listed a hl hB h)
  | true :: bs, [], _, _, _, _, _, _, _, _, h => by cases h
  | false :: bs, [], _, _, _, _, _, _, _, _, h => by cases h
  | true :: bs, o :: l, k, listed, a, w, hl, hk, hB, hS, h => by
    have h0 : ops[k]? = some o := by simpa using (hl 0).symm
    simp only [lexMix, Bool.and_eq_true] at hB
    obtain ⟨⟨hr, hf⟩, hB'⟩ := hB
    obtain ⟨v, hy, hK⟩ := h
    exact wpAnyH_firstY h0 (Region.noSelect_spec hs) (fun c a' w' => hQ c a' _ _ w') l.length listed a w (Region.free_spec h0 hf) (by simpa using hr) hy hS
      (wpAnyH_of_mix hs hQ bs l (k + 1) _ _ w (fun j => by have := hl (j + 1); simpa [Nat.add_assoc, Nat.add_comm 1 j] using this) (by simp only [List.length_cons] at hk; omega) hB' hS hK)
  | false :: bs, o :: l, k, listed, a, w, hl, hk, hB, hS, h => by
    have h0 : ops[k]? = some o := by simpa using (hl 0).symm
    simp only [lexMix, Bool.and_eq_true, decide_eq_true_eq] at hB
    obtain ⟨hr, hB'⟩ := hB
    have rec_ := fun a' w' (hS' : S w') (h' : wpMix P ops Q S bs l a' w') => wpAnyH_of_mix hs hQ bs l (k + 1) (listed.setIfInBounds k true) a' w'
      (fun j => by have := hl (j + 1); simpa [Nat.add_assoc, Nat.add_comm 1 j] using this) (by simp only [List.length_cons] at hk; omega) hB' hS' h'
    refine ⟨fun h1 => (by rw [hr] at h1; cases h1), fun i hi => ?_⟩
    rw [hr] at hi
    have hik : i = k := by simpa using hi
    subst hik
    unfold wpOp
    simp only [h0]
    simp only [wpMix] at h
    split
    · rename_i hw
      rw [if_pos hw] at h
      exact .inl (Oper.wp_mono (fun a' w' h' => ⟨h'.1, rec_ a' w' h'.1 h'.2⟩) h)
    · rename_i hw
      rw [if_neg hw] at h
      exact ⟨hS, rec_ _ w hS h⟩

theorem wp_region_mix {id : Nat} {l : List Oper} {a : Act} {w : World} (bs : List Bool) (hm : P.follows .mixedOrders = true)
    (hB : (Region.noSelect l.toArray && lexMix .any l.toArray bs 0 (Array.replicate l.toArray.size false)) = true)
    (hQ : ∀ c (a : Act) d v w, Q (.panic c) (a.put d v) w → Q (.panic c) a w) (hS : S w.drew) (h : wpMix P l.toArray Q S bs l a w.drew) : (Code.region id l.toArray true).wp P Q a w := by
  simp only [Bool.and_eq_true] at hB
  refine wp_region_held_drew hm hS (fun _ => ?_)
  have := wpAnyH_of_mix (md := .any) hB.1 hQ bs l 0 (Array.replicate l.toArray.size false) a w.drew (by simp) (by simp) hB.2 hS h
  simpa using this

/-- As wpMix and wpStill, closed to unfolding. -/
structure MW (P : Program) (ops : Array Oper) (Q : Exit → Act → World → Prop) (S : World → Prop) (bs : List Bool) (l : List Oper) (a : Act) (w : World) : Prop where
  out : wpMix P ops Q S bs l a w
structure SW (P : Program) (ops : Array Oper) (w : World) (R : Act → Prop) (l : List Oper) (a : Act) : Prop where
  out : wpStill P ops w R l a
theorem region_mix {id : Nat} {l : List Oper} {a : Act} {w : World} (bs : List Bool) (hm : P.follows .mixedOrders = true)
    (hB : (Region.noSelect l.toArray && lexMix .any l.toArray bs 0 (Array.replicate l.toArray.size false)) = true)
    (hQ : ∀ c (a : Act) d v w, Q (.panic c) (a.put d v) w → Q (.panic c) a w) (hS : S w.drew) (h : MW P l.toArray Q S bs l a w.drew) : (Code.region id l.toArray true).wp P Q a w :=
  wp_region_mix bs hm hB hQ hS h.out
theorem region_still {id : Nat} {l : List Oper} {a : Act} {w : World} (hm : P.follows .mixedOrders = true) (hB : Region.lexB .any l.toArray = true)
    (h : SW P l.toArray w.drew (fun a' => Q .normal a' w.drew) l a) : (Code.region id l.toArray true).wp P Q a w := wp_region_still_lit hm hB h.out
theorem mix_take {bs : List Bool} {o : Oper} {l : List Oper} {a : Act} {w : World} {v : Value} (hw : Region.wanted o (yielded ops a.tmps) = true) (hy : ∀ w', S w' → (execOp a.eval o).run P w' = .ok (.value v) w')
    (h : ∀ K : Act → Prop, (∀ a', MW P ops Q S bs l a' w → K a') → K (a.put o.dst v)) : MW P ops Q S (true :: bs) (o :: l) a w :=
  ⟨⟨v, .inl ⟨hw, fun w' hs => .inl (hy w' hs)⟩, (h (fun a' => MW P ops Q S bs l a' w) fun _ h => h).out⟩⟩
theorem mix_call {bs : List Bool} {o : Oper} {l : List Oper} {a : Act} {w : World} {v : Value} {f : FuncId} {args : Array Value} (hw : Region.wanted o (yielded ops a.tmps) = true) (hy : ∀ w', S w' → (execOp a.eval o).run P w' = .ok (.enter f args) w')
    (hc : ∀ w', S w' → Calls P f args w' fun e w'' => e = .returned v ∧ w'' = w') (h : ∀ K : Act → Prop, (∀ a', MW P ops Q S bs l a' w → K a') → K (a.put o.dst v)) : MW P ops Q S (true :: bs) (o :: l) a w :=
  ⟨⟨v, .inl ⟨hw, fun w' hs => .inr ⟨f, args, hy w' hs, hc w' hs⟩⟩, (h (fun a' => MW P ops Q S bs l a' w) fun _ h => h).out⟩⟩
theorem mix_skip {bs : List Bool} {o : Oper} {l : List Oper} {a : Act} {w : World} (hw : Region.wanted o (yielded ops a.tmps) = false)
    (h : ∀ K : Act → Prop, (∀ a', MW P ops Q S bs l a' w → K a') → K (a.put o.dst undef)) : MW P ops Q S (true :: bs) (o :: l) a w :=
  ⟨⟨undef, .inr ⟨hw, rfl⟩, (h (fun a' => MW P ops Q S bs l a' w) fun _ h => h).out⟩⟩
theorem mix_do {E : Prop} {bs : List Bool} {o : Oper} {l : List Oper} {a : Act} {w : World} (h : ∀ K : Act → World → Prop, Hid (∀ a' w', S w' → MW P ops Q S bs l a' w' → K a' w') →
    if Region.wanted o (yielded ops a.tmps) = true then o.wp P a w K Q else E) (hw : Region.wanted o (yielded ops a.tmps) = true) : MW P ops Q S (false :: bs) (o :: l) a w := by
  have := h (fun a' w' => S w' ∧ wpMix P ops Q S bs l a' w') (Lib.hid fun a' w' h1 h2 => ⟨h1, h2.out⟩)
  refine ⟨?_⟩
  simp only [wpMix]
  rw [if_pos hw] at this ⊢
  exact this
theorem mix_pass {bs : List Bool} {o : Oper} {l : List Oper} {a : Act} {w : World} (hw : Region.wanted o (yielded ops a.tmps) = false)
    (h : ∀ K : Act → Prop, (∀ a', MW P ops Q S bs l a' w → K a') → K (a.put o.dst undef)) : MW P ops Q S (false :: bs) (o :: l) a w := by
  have := h _ fun _ h => h
  refine ⟨?_⟩
  simp only [wpMix]
  rw [if_neg (by rw [hw]; decide)]
  exact this.out
theorem mix_still {l : List Oper} {a : Act} {w : World} (h : SW P ops w (fun a' => Q .normal a' w) l a) : MW P ops Q S [] l a w := ⟨h.out⟩
theorem mix_end {a : Act} {w : World} (h : Q .normal a w) : MW P ops Q S [] [] a w := ⟨h⟩
theorem still_end {R : Act → Prop} {a : Act} {w : World} (h : R a) : SW P ops w R [] a := ⟨h⟩
theorem still_take {R : Act → Prop} {o : Oper} {l : List Oper} {a : Act} {w : World} {v : Value} (hw : Region.wanted o (yielded ops a.tmps) = true) (hy : (execOp a.eval o).run P w = .ok (.value v) w)
    (h : ∀ K : Act → Prop, (∀ a', SW P ops w R l a' → K a') → K (a.put o.dst v)) : SW P ops w R (o :: l) a := by
  have := h (fun a' => SW P ops w R l a') fun _ h => h
  refine ⟨?_⟩
  simp only [wpStill]
  rw [if_pos hw]
  simp only [Oper.still, hy, Oper.stillUpon]
  exact ⟨trivial, this.out⟩
theorem still_skip {R : Act → Prop} {o : Oper} {l : List Oper} {a : Act} {w : World} (hw : Region.wanted o (yielded ops a.tmps) = false)
    (h : ∀ K : Act → Prop, (∀ a', SW P ops w R l a' → K a') → K (a.put o.dst undef)) : SW P ops w R (o :: l) a := by
  have := h (fun a' => SW P ops w R l a') fun _ h => h
  refine ⟨?_⟩
  simp only [wpStill]
  rw [if_neg (by rw [hw]; decide)]
  exact this.out
theorem still_call_ {R : Act → Prop} {o : Oper} {l : List Oper} {a : Act} {w : World} {v : Value} {f : FuncId} {args : Array Value} (hw : Region.wanted o (yielded ops a.tmps) = true) (hy : (execOp a.eval o).run P w = .ok (.enter f args) w)
    (hc : Calls P f args w fun e w'' => e = .returned v ∧ w'' = w) (h : ∀ K : Act → Prop, (∀ a', SW P ops w R l a' → K a') → K (a.put o.dst v)) : SW P ops w R (o :: l) a := by
  have := h (fun a' => SW P ops w R l a') fun _ h => h
  refine ⟨?_⟩
  simp only [wpStill]
  rw [if_pos hw]
  simp only [Oper.still, hy, Oper.stillUpon]
  exact ⟨trivial, v, hc, this.out⟩
end
end Go.Proofs.Ytomoliickggghaa

namespace Go.Proofs.Ytomoliickggghaa
open Go.RowKit

/-- A slice of integers that came in: nil, or a row of 'cap' cells that read as zs. -/
def IsRow (k : IntKind) (w : World) (a : Option Addr) (len cap : Nat) (zs : List Int) : Prop :=
  (a = none ∧ len = 0 ∧ cap = 0 ∧ zs = []) ∨
  ∃ x, a = some x ∧ len ≤ cap ∧ cap ≤ maxLen ∧ zs.length = cap ∧ (∀ i, i < zs.length → w.cell? (x.add i) = some (.int k (zs.getD i 0))) ∧ (∀ n ∈ zs, (Lit.int k n).wf = true)

theorem wf_int {k : IntKind} {n : Int} (h : (Lit.int k n).wf = true) : k.min ≤ n ∧ n ≤ k.max := by simpa [Lit.wf] using h
theorem wf_u8 {n : Int} (h : (Lit.int .u8 n).wf = true) : 0 ≤ n ∧ n < 256 := by
  have := wf_int h
  rw [show IntKind.u8.min = 0 by decide, show IntKind.u8.max = 255 by decide] at this; omega
theorem wf_u32 {n : Int} (h : (Lit.int .u32 n).wf = true) : ∃ s : BitVec 32, n = (s.toNat : Int) := by
  have := wf_int h
  rw [show IntKind.u32.min = 0 by decide, show IntKind.u32.max = 4294967295 by decide] at this
  exact ⟨BitVec.ofNat 32 n.toNat, by rw [BitVec.toNat_ofNat]; omega⟩
theorem wf_u64 {n : Int} (h : (Lit.int .u64 n).wf = true) : ∃ s : Nat, n = (s : Int) ∧ s < 18446744073709551616 := by
  have := wf_int h
  rw [show IntKind.u64.min = 0 by decide, show IntKind.u64.max = 18446744073709551615 by decide] at this
  exact ⟨n.toNat, by omega, by omega⟩

theorem row_at {k : IntKind} {w : World} {A : Option Addr} {len cap : Nat} {zs : List Int} (h : IsRow k w A len cap zs) :
    RowAt w A len ((zs.take len).map (Value.int k)) ∧ len ≤ cap ∧ (A = none → len = 0 ∧ cap = 0) ∧ (∀ n ∈ zs.take len, (Lit.int k n).wf = true) := by
  rcases h with ⟨rfl, rfl, rfl, rfl⟩ | ⟨x, rfl, hl, hm, hz, hc, hw⟩
  · exact ⟨RowAt.nil_ _ _, Nat.le_refl _, fun _ => ⟨rfl, rfl⟩, fun n h => by simp at h⟩
  · refine ⟨⟨by simp; omega, fun _ => ⟨x, rfl, fun i u hu => ?_⟩⟩, hl, (fun e => by cases e), fun n h => hw n (List.mem_of_mem_take h)⟩
    rw [List.getElem?_map, List.getElem?_take] at hu
    split at hu
    · rename_i hi
      have hlt : i < zs.length := by omega
      rw [List.getElem?_eq_getElem hlt] at hu
      injection hu with hu
      subst hu
      rw [hc i hlt, List.getD_eq_getElem?_getD, List.getElem?_eq_getElem hlt]; rfl
    · cases hu

theorem row_bytes {w : World} {A : Option Addr} {len cap : Nat} {zs : List Int} (h : IsRow .u8 w A len cap zs) :
    ∃ bs, BytesAt w A len bs ∧ len ≤ cap ∧ (A = none → len = 0 ∧ cap = 0) := by
  obtain ⟨hr, hl, hA, hw⟩ := row_at h
  refine ⟨(zs.take len).map fun z => UInt8.ofNat z.toNat, BytesAt.of_row ?_, hl, hA⟩
  have e : bvl ((zs.take len).map fun z => UInt8.ofNat z.toNat) = (zs.take len).map (Value.int .u8) := by
    rw [bvl, List.map_map]
    apply List.map_congr_left
    intro n hn
    have := wf_u8 (hw n hn)
    simp only [Function.comp, bval]
    rw [UInt8.toNat_ofNat', Nat.mod_eq_of_lt (by omega)]
    congr 1; omega
  rw [e]; exact hr
theorem row_ints {w : World} {A : Option Addr} {len cap : Nat} {zs : List Int} (h : IsRow .i64 w A len cap zs) :
    ∃ ws, RowAt w A len (ints ws) ∧ len ≤ cap ∧ (A = none → len = 0 ∧ cap = 0) ∧ (∀ z ∈ ws, -9223372036854775808 ≤ z ∧ z ≤ 9223372036854775807) := by
  obtain ⟨hr, hl, hA, hw⟩ := row_at h
  refine ⟨zs.take len, hr, hl, hA, fun z hz => ?_⟩
  exact bounds_i64 (hw z hz)
theorem row_nums {w : World} {A : Option Addr} {len cap : Nat} {zs : List Int} (h : IsRow .u64 w A len cap zs) :
    ∃ l, RowAt w A len (nums l) ∧ len ≤ cap ∧ (A = none → len = 0 ∧ cap = 0) ∧ (∀ x ∈ l, x < 18446744073709551616) := by
  obtain ⟨hr, hl, hA, hw⟩ := row_at h
  refine ⟨(zs.take len).map Int.toNat, ?_, hl, hA, fun x hx => ?_⟩
  · have e : nums ((zs.take len).map Int.toNat) = (zs.take len).map (Value.int .u64) := by
      rw [nums, List.map_map]
      apply List.map_congr_left
      intro n hn
      obtain ⟨s, rfl, hs⟩ := wf_u64 (hw n hn)
      rfl
    rw [e]; exact hr
  · rw [List.mem_map] at hx
    obtain ⟨n, hn, rfl⟩ := hx
    obtain ⟨s, rfl, hs⟩ := wf_u64 (hw n hn)
    simpa using hs
end Go.Proofs.Ytomoliickggghaa

namespace Go.Proofs.Ytomoliickggghaa
open Go.RowKit
section
variable {P : Program} {ops : Array Oper} {md : Region.Mode} {Q : Exit → Act → World → Prop} {S : World → Prop} {need : Nat → Bool}

/-- Behind operation i S holds, where it is needed. -/
def wpAnyN (P : Program) (md : Region.Mode) (ops : Array Oper) (Q : Exit → Act → World → Prop) (S : World → Prop) (need : Nat → Bool) : Nat → Array Bool → Act → World → Prop
  | 0, listed, a, w => Region.ready md ops listed = [] ∧ Q .normal a w
  | fuel + 1, listed, a, w =>
    (Region.ready md ops listed = [] → Q .normal a w) ∧
    ∀ i ∈ Region.ready md ops listed, wpOp P ops Q i (fun a' w' => (need i = true → S w') ∧ wpAnyN P md ops Q S need fuel (listed.setIfInBounds i true) a' w') a w
theorem wpAny_of_need : ∀ (fuel : Nat) (listed : Array Bool) (a : Act) (w : World), wpAnyN P md ops Q S need fuel listed a w → wpAny P md ops Q fuel listed a w
  | 0, _, _, _, h => h
  | fuel + 1, _, _, _, h => ⟨h.1, fun i hi => wpOp_mono (fun a' w' h' => wpAny_of_need fuel _ a' w' h'.2) (h.2 i hi)⟩

/-- What is listed has all listed that it waits for. -/
def Closed (md : Region.Mode) (ops : Array Oper) (listed : Array Bool) : Prop :=
  ∀ j oj, ops[j]? = some oj → listed.getD j false = true → ∀ e ∈ oj.after, Region.binds md e = true → listed.getD e.on false = true
theorem Closed.start (md : Region.Mode) (ops : Array Oper) (n : Nat) : Closed md ops (Array.replicate n false) := fun j oj _ h => by
  rw [getD_replicate_false] at h; cases h
theorem Closed.set {listed : Array Bool} {i : Nat} (hc : Closed md ops listed) (hi : i ∈ Region.ready md ops listed) : Closed md ops (listed.setIfInBounds i true) := by
  obtain ⟨_, oi, hoi, hall⟩ := mem_ready.1 hi
  intro j oj hj hl e he hb
  by_cases hij : i = j
  · subst hij
    have : oj = oi := Option.some.inj (hj.symm.trans hoi)
    subst this
    exact getD_set_true (hall e he hb)
  · rw [getD_set_ne false hij] at hl
    exact getD_set_true (hc j oj hj hl e he hb)
/-- j waits for k, maybe through others. -/
inductive Waits (md : Region.Mode) (ops : Array Oper) (k : Nat) : Nat → Prop
  | one {j : Nat} : Region.waitsFor md ops j k = true → Waits md ops k j
  | more {j m : Nat} : Region.waitsFor md ops j m = true → Waits md ops k m → Waits md ops k j
theorem Waits.listed {k j : Nat} {listed : Array Bool} (h : Waits md ops k j) (hc : Closed md ops listed) : listed.getD j false = true → listed.getD k false = true := by
  induction h with
  | one h =>
    intro hl
    obtain ⟨oj, hoj, e, he, hb, hon⟩ := Region.waitsFor_spec h
    have := hc _ oj hoj hl e he hb
    rwa [hon] at this
  | more h _ ih =>
    intro hl
    obtain ⟨oj, hoj, e, he, hb, hon⟩ := Region.waitsFor_spec h
    have := hc _ oj hoj hl e he hb
    rw [hon] at this
    exact ih this
theorem Waits.ready {k j : Nat} {listed : Array Bool} (h : Waits md ops k j) (hc : Closed md ops listed) (hr : j ∈ Region.ready md ops listed) : listed.getD k false = true := by
  obtain ⟨_, oj, hoj, hall⟩ := mem_ready.1 hr
  cases h with
  | one h =>
    obtain ⟨o', ho', e, he, hb, hon⟩ := Region.waitsFor_spec h
    have : o' = oj := Option.some.inj (ho'.symm.trans hoj)
    subst this
    have := hall e he hb
    rwa [hon] at this
  | more h hm =>
    obtain ⟨o', ho', e, he, hb, hon⟩ := Region.waitsFor_spec h
    have : o' = oj := Option.some.inj (ho'.symm.trans hoj)
    subst this
    have := hall e he hb
    rw [hon] at this
    exact hm.listed hc this
/-- Who waits for k, reckoned in the text's order: a list of places. -/
def waiters (md : Region.Mode) (ops : Array Oper) (k : Nat) : Nat → List Nat
  | 0 => []
  | n + 1 => let l := waiters md ops k n; if Region.waitsFor md ops n k || l.any (fun m => Region.waitsFor md ops n m) then n :: l else l
theorem waiters_spec {k : Nat} : ∀ (n j : Nat), j ∈ waiters md ops k n → Waits md ops k j
  | 0, j, h => by simp [waiters] at h
  | n + 1, j, h => by
    simp only [waiters] at h
    split at h
    · rename_i hc
      rcases List.mem_cons.1 h with rfl | h
      · simp only [Bool.or_eq_true, List.any_eq_true] at hc
        rcases hc with hc | ⟨m, hm, hc⟩
        · exact .one hc
        · exact .more hc (waiters_spec _ m hm)
      · exact waiters_spec n j h
    · exact waiters_spec n j h
/-- May operation i be taken first now? -/
def takeOk (md : Region.Mode) (ops : Array Oper) (need : Nat → Bool) (listed : Array Bool) (i : Nat) : Bool :=
  Region.noSelect ops && ((Region.ready md ops listed).contains i && (Region.free md ops listed i &&
    (let l := waiters md ops i ops.size; (List.range ops.size).all fun j => need j || (listed.getD j true || l.contains j))))

theorem wpAnyN_first {i : Nat} {oi : Oper} {v : Value} (hi : ops[i]? = some oi) (hsel : ∀ (j : Nat) (o : Oper) cs b, ops[j]? = some o → o.op ≠ .select cs b)
    (hQ : ∀ c a w, Q (.panic c) (a.put oi.dst v) w → Q (.panic c) a w) : ∀ (fuel : Nat) (listed : Array Bool) (a : Act) (w : World),
      Closed md ops listed → (∀ j, need j = false → listed.getD j true = false → Waits md ops i j) →
      (∀ j oj, ops[j]? = some oj → j ≠ i → listed.getD j true = false → (∀ e ∈ oj.after, Region.binds md e = true → e.on ≠ i) → oi.apart ops oj = true) →
      i ∈ Region.ready md ops listed → YI P ops S oi v a → S w →
      wpAnyN P md ops Q S need fuel (listed.setIfInBounds i true) (a.put oi.dst v) w → wpAnyN P md ops Q S need (fuel + 1) listed a w
  | fuel, listed, a, w, hcl, hwt, hfree, hr, hy, hS, H => by
    refine ⟨fun h => (by rw [h] at hr; cases hr), fun j hj => ?_⟩
    by_cases hji : j = i
    · subst hji; exact hy.wpOp hi hS ⟨fun _ => hS, H⟩
    · obtain ⟨hjun, oj, hoj, hall⟩ := mem_ready.1 hj
      have hiun := getD_falseT (mem_ready.1 hr).1
      have hneed : need j = true := by
        cases hn : need j
        · have := (hwt j hn hjun).ready hcl hj
          rw [hiun] at this; cases this
        · rfl
      cases fuel with
      | zero =>
        have := ready_mono hj hji
        rw [H.1] at this
        cases this
      | succ fuel =>
        have h1 := H.2 j (ready_mono hj hji)
        have hnot : ∀ e ∈ oj.after, Region.binds md e = true → e.on ≠ i := fun e he hb heq => by
          have h1 := hall e he hb
          rw [heq, hiun] at h1
          cases h1
        have hap := hfree j oj hoj hji hjun hnot
        obtain ⟨a1, a2, a3⟩ := Oper.apart_spec hap
        have h2 := wpOp_putY (Y := fun a' => YI P ops S oi v a') hoj hap (fun cs b => hsel j oj cs b hoj) hQ
          (fun a hy u => hy.of_same (execOp_put oi (fun cs b => hsel i oi cs b hi) a oj.dst u a3) (wanted_put oi a oj.dst u a3)) (fun a d hy => hy.of_same rfl rfl) hy h1
        have hun' : ∀ k, (listed.setIfInBounds j true).getD k true = false → listed.getD k true = false := fun k hun => by
          by_cases hjk : j = k
          · subst hjk; exact hjun
          · rwa [getD_set_ne true hjk] at hun
        refine wpOp_mono (fun a' w' h3 => ⟨fun _ => h3.2.1 hneed, wpAnyN_first hi hsel hQ fuel (listed.setIfInBounds j true) a' w' (hcl.set hj) (fun k hk hun => hwt k hk (hun' k hun))
          (fun k ok hk hki hun hno => hfree k ok hk hki (hun' k hun) hno) (ready_mono hr (Ne.symm hji)) h3.1 (h3.2.1 hneed) ?_⟩) h2
        rw [Array.setIfInBounds_comm _ _ hji]
        exact h3.2.2

/-- As wpAnyN, closed to unfolding. -/
structure NW (P : Program) (md : Region.Mode) (ops : Array Oper) (Q : Exit → Act → World → Prop) (S : World → Prop) (need : Nat → Bool) (fuel : Nat) (listed : Array Bool) (a : Act) (w : World) : Prop where
  out : Closed md ops listed → wpAnyN P md ops Q S need fuel listed a w
theorem region_need {id : Nat} {a : Act} {w : World} (S : World → Prop) (need : Nat → Bool) (hm : P.follows .mixedOrders = true)
    (h : NW P .any ops Q S need ops.size (Array.replicate ops.size false) a w.drew) : (Code.region id ops true).wp P Q a w :=
  wp_region_any hm (wpAny_of_need _ _ _ _ (h.out (Closed.start _ _ _)))
theorem region_need_at {id : Nat} {a : Act} {w v : World} (S : World → Prop) (need : Nat → Bool) (hv : w.drew = v) (hm : P.follows .mixedOrders = true)
    (h : NW P .any ops Q S need ops.size (Array.replicate ops.size false) a v) : (Code.region id ops true).wp P Q a w := by
  subst hv; exact region_need S need hm h
theorem takeOk_spec {listed : Array Bool} {i : Nat} (h : takeOk md ops need listed i = true) : Region.noSelect ops = true ∧ i ∈ Region.ready md ops listed ∧ Region.free md ops listed i = true ∧
    ∀ j, need j = false → listed.getD j true = false → j < ops.size → Waits md ops i j := by
  simp only [takeOk, Bool.and_eq_true, List.all_eq_true, List.mem_range, Bool.or_eq_true] at h
  refine ⟨h.1, by simpa using h.2.1, h.2.2.1, fun j hn hu hj => ?_⟩
  rcases h.2.2.2 j hj with h' | h' | h'
  · rw [hn] at h'; cases h'
  · rw [hu] at h'; cases h'
  · exact waiters_spec _ j (by simpa using h')
theorem nw_put {i fuel : Nat} {oi : Oper} {v : Value} {listed : Array Bool} {a : Act} {w : World} (hi : ops[i]? = some oi) (hsz : listed.size = ops.size) (hk : takeOk md ops need listed i = true) (hQ : ∀ c (a : Act) d v w, Q (.panic c) (a.put d v) w → Q (.panic c) a w)
    (hy : YI P ops S oi v a) (hS : S w) (h : NW P md ops Q S need fuel (listed.setIfInBounds i true) (a.put oi.dst v) w) : NW P md ops Q S need (fuel + 1) listed a w := by
  obtain ⟨h1, h2, h3, h4⟩ := takeOk_spec hk
  refine ⟨fun hc => wpAnyN_first hi (Region.noSelect_spec h1) (fun c a w => hQ c a _ _ w) fuel listed a w hc (fun j hn hu => h4 j hn hu ?_) (Region.free_spec hi h3) h2 hy hS (h.out (hc.set h2))⟩
  rcases Nat.lt_or_ge j listed.size with h | h
  · omega
  · rw [Array.getD_eq_getD_getElem?, Array.getElem?_eq_none h] at hu; cases hu
theorem nw_take {i fuel : Nat} {oi : Oper} {v : Value} {listed : Array Bool} {a : Act} {w : World} (hi : ops[i]? = some oi) (hsz : listed.size = ops.size) (hk : takeOk md ops need listed i = true) (hQ : ∀ c (a : Act) d v w, Q (.panic c) (a.put d v) w → Q (.panic c) a w) (hS : S w)
    (hw : Region.wanted oi (yielded ops a.tmps) = true) (hy : ∀ w', S w' → (execOp a.eval oi).run P w' = .ok (.value v) w')
    (h : ∀ K : Act → Prop, (∀ a', NW P md ops Q S need fuel (listed.setIfInBounds i true) a' w → K a') → K (a.put oi.dst v)) : NW P md ops Q S need (fuel + 1) listed a w :=
  nw_put hi hsz hk hQ (.inl ⟨hw, fun w' hs => .inl (hy w' hs)⟩) hS (h (fun a' => NW P md ops Q S need fuel (listed.setIfInBounds i true) a' w) fun _ h => h)
theorem nw_skip {i fuel : Nat} {oi : Oper} {listed : Array Bool} {a : Act} {w : World} (hi : ops[i]? = some oi) (hsz : listed.size = ops.size) (hk : takeOk md ops need listed i = true) (hQ : ∀ c (a : Act) d v w, Q (.panic c) (a.put d v) w → Q (.panic c) a w) (hS : S w)
    (hw : Region.wanted oi (yielded ops a.tmps) = false)
    (h : ∀ K : Act → Prop, (∀ a', NW P md ops Q S need fuel (listed.setIfInBounds i true) a' w → K a') → K (a.put oi.dst undef)) : NW P md ops Q S need (fuel + 1) listed a w :=
  nw_put hi hsz hk hQ (.inr ⟨hw, rfl⟩) hS (h (fun a' => NW P md ops Q S need fuel (listed.setIfInBounds i true) a' w) fun _ h => h)
theorem nw_call {i fuel : Nat} {oi : Oper} {v : Value} {f : FuncId} {args : Array Value} {listed : Array Bool} {a : Act} {w : World} (hi : ops[i]? = some oi) (hsz : listed.size = ops.size) (hk : takeOk md ops need listed i = true) (hQ : ∀ c (a : Act) d v w, Q (.panic c) (a.put d v) w → Q (.panic c) a w) (hS : S w)
    (hw : Region.wanted oi (yielded ops a.tmps) = true) (hy : ∀ w', S w' → (execOp a.eval oi).run P w' = .ok (.enter f args) w')
    (hc : ∀ w', S w' → Calls P f args w' fun e w'' => e = .returned v ∧ w'' = w')
    (h : ∀ K : Act → Prop, (∀ a', NW P md ops Q S need fuel (listed.setIfInBounds i true) a' w → K a') → K (a.put oi.dst v)) : NW P md ops Q S need (fuel + 1) listed a w :=
  nw_put hi hsz hk hQ (.inl ⟨hw, fun w' hs => .inr ⟨f, args, hy w' hs, hc w' hs⟩⟩) hS (h (fun a' => NW P md ops Q S need fuel (listed.setIfInBounds i true) a' w) fun _ h => h)
/-- An operation whose value is the same in every world. -/
theorem wpAnyN_free {i : Nat} {oi : Oper} {v : Value} (hi : ops[i]? = some oi) (hsel : ∀ (j : Nat) (o : Oper) cs b, ops[j]? = some o → o.op ≠ .select cs b) (hn : need i = false)
    (hQ : ∀ c a w, Q (.panic c) (a.put oi.dst v) w → Q (.panic c) a w) : ∀ (fuel : Nat) (listed : Array Bool) (a : Act) (w : World),
      (∀ j oj, ops[j]? = some oj → j ≠ i → listed.getD j true = false → (∀ e ∈ oj.after, Region.binds md e = true → e.on ≠ i) → oi.apart ops oj = true) →
      i ∈ Region.ready md ops listed → YI P ops (fun _ => True) oi v a →
      wpAnyN P md ops Q S need fuel (listed.setIfInBounds i true) (a.put oi.dst v) w → wpAnyN P md ops Q S need (fuel + 1) listed a w
  | fuel, listed, a, w, hfree, hr, hy, H => by
    refine ⟨fun h => (by rw [h] at hr; cases hr), fun j hj => ?_⟩
    by_cases hji : j = i
    · subst hji; exact hy.wpOp hi trivial ⟨(fun h => by rw [hn] at h; cases h), H⟩
    · obtain ⟨hjun, oj, hoj, hall⟩ := mem_ready.1 hj
      have hiun := getD_falseT (mem_ready.1 hr).1
      cases fuel with
      | zero =>
        have := ready_mono hj hji
        rw [H.1] at this
        cases this
      | succ fuel =>
        have h1 := H.2 j (ready_mono hj hji)
        have hnot : ∀ e ∈ oj.after, Region.binds md e = true → e.on ≠ i := fun e he hb heq => by
          have h1 := hall e he hb
          rw [heq, hiun] at h1
          cases h1
        have hap := hfree j oj hoj hji hjun hnot
        obtain ⟨a1, a2, a3⟩ := Oper.apart_spec hap
        have h2 := wpOp_putY (Y := fun a' => YI P ops (fun _ => True) oi v a') hoj hap (fun cs b => hsel j oj cs b hoj) hQ
          (fun a hy u => hy.of_same (execOp_put oi (fun cs b => hsel i oi cs b hi) a oj.dst u a3) (wanted_put oi a oj.dst u a3)) (fun a d hy => hy.of_same rfl rfl) hy h1
        have hun' : ∀ k, (listed.setIfInBounds j true).getD k true = false → listed.getD k true = false := fun k hun => by
          by_cases hjk : j = k
          · subst hjk; exact hjun
          · rwa [getD_set_ne true hjk] at hun
        refine wpOp_mono (fun a' w' h3 => ⟨h3.2.1, wpAnyN_free hi hsel hn hQ fuel (listed.setIfInBounds j true) a' w'
          (fun k ok hk hki hun hno => hfree k ok hk hki (hun' k hun) hno) (ready_mono hr (Ne.symm hji)) h3.1 ?_⟩) h2
        rw [Array.setIfInBounds_comm _ _ hji]
        exact h3.2.2
theorem nw_free {i fuel : Nat} {oi : Oper} {v : Value} {listed : Array Bool} {a : Act} {w : World} (hi : ops[i]? = some oi) (hk : (Region.noSelect ops && ((Region.ready md ops listed).contains i && (Region.free md ops listed i && !need i))) = true) (hQ : ∀ c (a : Act) d v w, Q (.panic c) (a.put d v) w → Q (.panic c) a w)
    (hw : Region.wanted oi (yielded ops a.tmps) = true) (hy : ∀ w', (execOp a.eval oi).run P w' = .ok (.value v) w')
    (h : ∀ K : Act → Prop, (∀ a', NW P md ops Q S need fuel (listed.setIfInBounds i true) a' w → K a') → K (a.put oi.dst v)) : NW P md ops Q S need (fuel + 1) listed a w := by
  simp only [Bool.and_eq_true, Bool.not_eq_true'] at hk
  have h2 : i ∈ Region.ready md ops listed := by simpa using hk.2.1
  exact ⟨fun hc => wpAnyN_free hi (Region.noSelect_spec hk.1) hk.2.2.2 (fun c a w => hQ c a _ _ w) fuel listed a w (Region.free_spec hi hk.2.2.1) h2 (.inl ⟨hw, fun w' _ => .inl (hy w')⟩)
    ((h (fun a' => NW P md ops Q S need fuel (listed.setIfInBounds i true) a' w) fun _ h => h).out (hc.set h2))⟩
/-- Whichever of those that may come up now comes up. -/
theorem nw_branch {rs : List Nat} {fuel : Nat} {listed : Array Bool} {a : Act} {w : World} (hr : Region.ready md ops listed = rs) (hne : rs ≠ [])
    (h : ∀ i ∈ rs, ∃ oi, ops[i]? = some oi ∧ ∀ K : Act → World → Prop, Hid (∀ a' w', (need i = true → S w') → NW P md ops Q S need fuel (listed.setIfInBounds i true) a' w' → K a' w') →
      if Region.wanted oi (yielded ops a.tmps) = true then oi.wp P a w K Q else K (a.put oi.dst undef) w) : NW P md ops Q S need (fuel + 1) listed a w := by
  refine ⟨fun hc => ⟨fun h0 => absurd (hr ▸ h0) hne, fun i hi => ?_⟩⟩
  obtain ⟨oi, hoi, hk⟩ := h i (hr ▸ hi)
  have := hk (fun a' w' => (need i = true → S w') ∧ wpAnyN P md ops Q S need fuel (listed.setIfInBounds i true) a' w') (Lib.hid fun a' w' h1 h2 => ⟨h1, h2.out (hc.set hi)⟩)
  unfold wpOp
  simp only [hoi]
  split
  · rename_i hw
    rw [if_pos hw] at this
    exact .inl this
  · rename_i hw
    rw [if_neg hw] at this
    exact this
theorem nw_one {i fuel : Nat} {oi : Oper} {E : Prop} {listed : Array Bool} {a : Act} {w : World} (hi : ops[i]? = some oi) (hr : Region.ready md ops listed = [i])
    (h : ∀ K : Act → World → Prop, Hid (∀ a' w', (need i = true → S w') → NW P md ops Q S need fuel (listed.setIfInBounds i true) a' w' → K a' w') →
      if Region.wanted oi (yielded ops a.tmps) = true then oi.wp P a w K Q else E) (hw : Region.wanted oi (yielded ops a.tmps) = true) : NW P md ops Q S need (fuel + 1) listed a w :=
  nw_branch hr (by simp) fun j hj => by
    obtain rfl : j = i := by simpa using hj
    exact ⟨oi, hi, fun K hK => by have := h K hK; rw [if_pos hw] at this ⊢; exact this⟩
theorem nw_two {i j fuel : Nat} {oi oj : Oper} {E E' : Prop} {listed : Array Bool} {a : Act} {w : World} (hi : ops[i]? = some oi) (hj : ops[j]? = some oj) (hr : Region.ready md ops listed = [i, j])
    (hwi : Region.wanted oi (yielded ops a.tmps) = true) (hwj : Region.wanted oj (yielded ops a.tmps) = true)
    (h : ∀ K : Act → World → Prop, Hid (∀ a' w', (need i = true → S w') → NW P md ops Q S need fuel (listed.setIfInBounds i true) a' w' → K a' w') →
      if Region.wanted oi (yielded ops a.tmps) = true then oi.wp P a w K Q else E)
    (h' : ∀ K : Act → World → Prop, Hid (∀ a' w', (need j = true → S w') → NW P md ops Q S need fuel (listed.setIfInBounds j true) a' w' → K a' w') →
      if Region.wanted oj (yielded ops a.tmps) = true then oj.wp P a w K Q else E') : NW P md ops Q S need (fuel + 1) listed a w :=
  nw_branch hr (by simp) fun k hk => by
    rcases List.mem_cons.1 hk with rfl | hk
    · exact ⟨oi, hi, fun K hK => by have := h K hK; rw [if_pos hwi] at this ⊢; exact this⟩
    · obtain rfl : k = j := by simpa using hk
      exact ⟨oj, hj, fun K hK => by have := h' K hK; rw [if_pos hwj] at this ⊢; exact this⟩
theorem nw_end {fuel : Nat} {listed : Array Bool} {a : Act} {w : World} (hr : Region.ready md ops listed = []) (h : Q .normal a w) : NW P md ops Q S need fuel listed a w :=
  ⟨fun _ => by
    cases fuel with
    | zero => exact ⟨hr, h⟩
    | succ n => exact ⟨fun _ => h, by rw [hr]; simp⟩⟩
end
end Go.Proofs.Ytomoliickggghaa

namespace Go.Proofs.Ytomoliickggghaa.Bits
open Go.RowKit Go.Proofs.Ytomoliickggghaa
set_option maxHeartbeats 8000000
set_option maxRecDepth 100000
set_option linter.unusedVariables false
set_option linter.unusedSimpArgs false

theorem clone_any (A : Option Addr) (n c : Nat) (bs : List UInt8) (w : World) (hn : n ≤ 140737488351232) (hA : A = none → n = 0 ∧ c = 0) (hb : BytesAt w A n bs) :
    Calls Try.prog 40 #[.slice A n c] w fun e w' => ∃ v, e = .returned v ∧ Below w.heap.size w w' ∧ w'.ownsRow w.heap.size 5 1 v n (bvl bs) := by
  cases A with
  | none =>
    obtain ⟨rfl, rfl⟩ := hA rfl
    have e : bs = [] := List.eq_nil_of_length_eq_zero hb.len
    subst e
    clear hb hA
    have heq := fun w => Lib.run_eql_slice_nil (P := Try.prog) w 34 5 none 0 0 0 0 Try.underlying34
    go_enter Try.func40, Try.ntmps40
    go_wp2
    go_ret
    exact ⟨_, rfl, Below.refl _ _, World.ownsRow_nil _ _ _ _⟩
  | some a =>
    have heq := fun w => Lib.run_eql_slice_nil (P := Try.prog) w 34 5 (some a) n c 0 0 Try.underlying34
    have HB := Lib.hid (hb.alloc (.cells (bvl []).toArray 5))
    have HO := Lib.hid (lit_ownN w 5 1 (bvl []) 0 rfl (by unfold maxLen; omega))
    have HE := Lib.hid ((Below.refl w.heap.size w).alloc (Nat.le_refl _) (.cells (bvl []).toArray 5))
    clear hb
    go_enter Try.func40, Try.ntmps40
    go_wp2_with (first
      | (at_builtin
         refine app_u8 _ rfl (.tmp 5) (.tmp 6) rfl w.heap.size (.slice (some ⟨w.heap.size, 0, none⟩) 0 0) 0 (bvl []) rfl HO.out (some a) n c bs rfl (fun e => by cases e) HB.out (by omega) (by simp) ?_
         intro v1 w1 hown1 hg1
         have bel1 := Lib.hid (below_own HO.out HE.out (Nat.le_refl _) hg1)
         have own1 := Lib.hid hown1
         clear hown1 hg1)
      | fail)
    go_ret
    refine ⟨_, rfl, bel1.out, ?_⟩
    have := own1.out
    rw [Nat.zero_add, show bvl [] = [] from rfl, List.nil_append] at this
    exact this
end Go.Proofs.Ytomoliickggghaa.Bits

namespace Go.Proofs.Ytomoliickggghaa.Mem
open Go.RowKit Go.Proofs.Ytomoliickggghaa
set_option maxHeartbeats 4000000
set_option maxRecDepth 100000
set_option linter.unusedVariables false
set_option linter.unusedSimpArgs false

abbrev Col := Nat → Nat
/-- Only blocks of colours from lo to below hi are written; what has another colour keeps it; beyond the heap there is no colour. -/
structure Tch (lo hi : Nat) (col col' : Col) (w w' : World) : Prop where
  os : w'.os = w.os
  tape : w'.tape = w.tape
  output : w'.output = w.output
  size : w.heap.size ≤ w'.heap.size
  hue : ∀ b, b < w.heap.size → ¬ (lo ≤ col b ∧ col b < hi) → col' b = col b
  stay : ∀ b, b < w.heap.size → lo ≤ col b ∧ col b < hi → lo ≤ col' b ∧ col' b < hi
  block : ∀ b, b < w.heap.size → ¬ (lo ≤ col b ∧ col b < hi) → w'.heap[b]? = w.heap[b]?
  tidy : (∀ b, w.heap.size ≤ b → col b = 0) → ∀ b, w'.heap.size ≤ b → col' b = 0
  neu : ∀ b, w.heap.size ≤ b → col' b < 16 ∨ (lo ≤ col' b ∧ col' b < hi) ∨ col' b = col b
theorem Tch.refl (lo hi : Nat) (col : Col) (w : World) : Tch lo hi col col w w := ⟨rfl, rfl, rfl, Nat.le_refl _, fun _ _ _ => rfl, fun _ _ h => h, fun _ _ _ => rfl, fun h => h, fun _ _ => .inr (.inr rfl)⟩
theorem Tch.trans {lo hi : Nat} {a b c : Col} {u v w : World} (h : Tch lo hi a b u v) (k : Tch lo hi b c v w) : Tch lo hi a c u w :=
  ⟨k.os.trans h.os, k.tape.trans h.tape, k.output.trans h.output, Nat.le_trans h.size k.size,
   fun i hi hn => (k.hue i (Nat.lt_of_lt_of_le hi h.size) (by rw [h.hue i hi hn]; exact hn)).trans (h.hue i hi hn),
   fun i hi hn => k.stay i (Nat.lt_of_lt_of_le hi h.size) (h.stay i hi hn),
   fun i hi hn => (k.block i (Nat.lt_of_lt_of_le hi h.size) (by rw [h.hue i hi hn]; exact hn)).trans (h.block i hi hn), fun ht => k.tidy (h.tidy ht), fun i hk => by
    rcases Nat.lt_or_ge i v.heap.size with hv | hv
    · by_cases e : lo ≤ b i ∧ b i < hi
      · exact .inr (.inl (k.stay i hv e))
      · rw [k.hue i hv e]; exact h.neu i hk
    · rcases k.neu i hv with e | e | e
      · exact .inl e
      · exact .inr (.inl e)
      · rw [e]; exact h.neu i hk⟩
theorem Tch.mono {lo hi lo' hi' : Nat} {a b : Col} {u v : World} (h : Tch lo hi a b u v) (h1 : lo' ≤ lo) (h2 : hi ≤ hi') : Tch lo' hi' a b u v :=
  ⟨h.os, h.tape, h.output, h.size, fun i hk hn => h.hue i hk (fun ⟨x, y⟩ => hn ⟨by omega, by omega⟩), fun i hk hn => by
    by_cases e : lo ≤ a i ∧ a i < hi
    · have := h.stay i hk e; omega
    · rw [h.hue i hk e]; exact hn, fun i hk hn => h.block i hk (fun ⟨x, y⟩ => hn ⟨by omega, by omega⟩), h.tidy, fun i hk => by
    rcases h.neu i hk with e | e | e
    · exact .inl e
    · exact .inr (.inl ⟨by omega, by omega⟩)
    · exact .inr (.inr e)⟩
theorem Tch.any {lo hi lo' hi' : Nat} {a b : Col} {u v : World} (h : Tch lo hi a b u v) (he : hi ≤ lo) : Tch lo' hi' a b u v :=
  ⟨h.os, h.tape, h.output, h.size, fun i hi _ => h.hue i hi (fun ⟨x, y⟩ => by omega), fun i hi hn => by rw [h.hue i hi (fun ⟨x, y⟩ => by omega)]; exact hn, fun i hi hn => h.block i hi (fun ⟨x, y⟩ => by omega), h.tidy, fun i hk => by
    rcases h.neu i hk with e | e | e
    · exact .inl e
    · omega
    · exact .inr (.inr e)⟩
theorem Tch.of_below {lo hi : Nat} {col : Col} {w w' : World} (h : Below w.heap.size w w') : Tch lo hi col col w w' :=
  ⟨h.os, h.tape, h.output, h.size, fun _ _ _ => rfl, fun _ _ h => h, fun i hi _ => h.block i hi, fun ht b hb => ht b (Nat.le_trans h.size hb), fun _ _ => .inr (.inr rfl)⟩
theorem Tch.of_grown {lo hi : Nat} {col : Col} {w w' : World} {row : Option Nat} (h : w.grownBy w' row) (hr : ∀ g, row = some g → g < w.heap.size → lo ≤ col g ∧ col g < hi) : Tch lo hi col col w w' :=
  ⟨h.os, h.tape, h.output, h.size, fun _ _ _ => rfl, fun _ _ h => h, fun i hi hn => h.block i hi (fun e => hn (hr i e.symm hi)), fun ht b hb => ht b (Nat.le_trans h.size hb), fun _ _ => .inr (.inr rfl)⟩
/-- The colours of a world: a new block is painted. -/
def paint (col : Col) (g r : Nat) : Col := fun b => if b = g then r else col b
theorem paint_self (col : Col) (g r : Nat) : paint col g r g = r := by simp [paint]
theorem paint_other {col : Col} {g r b : Nat} (h : b ≠ g) : paint col g r b = col b := by simp [paint, h]
theorem Tch.paint {lo hi : Nat} {a b : Col} {u v : World} (h : Tch lo hi a b u v) {g r : Nat} (hg : u.heap.size ≤ g) (hg2 : g < v.heap.size) (hr : r < 16 ∨ (lo ≤ r ∧ r < hi)) : Tch lo hi a (Mem.paint b g r) u v :=
  ⟨h.os, h.tape, h.output, h.size, fun i hi hn => by rw [paint_other (by omega)]; exact h.hue i hi hn, fun i hi hn => by rw [paint_other (by omega)]; exact h.stay i hi hn, h.block, fun ht i hi => by rw [paint_other (by omega)]; exact h.tidy ht i hi, fun i hi => by
    by_cases e : i = g
    · subst e; rw [paint_self]; rcases hr with e | e; exact .inl e; exact .inr (.inl e)
    · rw [paint_other e]; exact h.neu i hi⟩
/-- A block of a touched colour is painted anew, in a touched colour. -/
theorem Tch.repaint {lo hi : Nat} {a b : Col} {u v : World} (h : Tch lo hi a b u v) {g r : Nat} (hg : lo ≤ b g ∧ b g < hi) (hr : lo ≤ r ∧ r < hi) (hg2 : g < v.heap.size) : Tch lo hi a (Mem.paint b g r) u v :=
  ⟨h.os, h.tape, h.output, h.size, fun i hi hn => by
    by_cases e : i = g
    · subst e; exact absurd (by rw [← h.hue i hi hn]; exact hg) hn
    · rw [paint_other e]; exact h.hue i hi hn, fun i hi hn => by
    by_cases e : i = g
    · subst e; rw [paint_self]; exact hr
    · rw [paint_other e]; exact h.stay i hi hn, h.block, fun ht i hi => by rw [paint_other (by omega)]; exact h.tidy ht i hi, fun i hi => by
    by_cases e : i = g
    · subst e; rw [paint_self]; exact .inr (.inl hr)
    · rw [paint_other e]; exact h.neu i hi⟩
theorem Tch.drew {lo hi : Nat} {a b : Col} {u v : World} (h : Tch lo hi a b u v) : Tch lo hi a b u v.drew := ⟨h.os, h.tape, h.output, h.size, h.hue, h.stay, h.block, h.tidy, h.neu⟩
theorem Tch.drewN {lo hi : Nat} {a b : Col} {u v : World} (h : Tch lo hi a b u v) (n : Nat) : Tch lo hi a b u (v.drewN n) := ⟨h.os, h.tape, h.output, h.size, h.hue, h.stay, h.block, h.tidy, h.neu⟩
theorem Tch.alloc {lo hi : Nat} {a b : Col} {u v : World} (h : Tch lo hi a b u v) (o : Obj) : Tch lo hi a b u (v.alloc o) :=
  h.trans (Tch.of_below ((Below.refl _ v).alloc (Nat.le_refl _) o))
theorem Tch.setCell {lo hi : Nat} {a b : Col} {u v : World} (h : Tch lo hi a b u v) {p : Addr} (hp : lo ≤ b p.block ∧ b p.block < hi) (x : Value) : Tch lo hi a b u (v.setCell p x) :=
  h.trans (Tch.of_grown (only_setCell (World.grownBy.refl v (some p.block)) (p := p) (.inl rfl) x) (fun g e _ => by injection e with e; subst e; exact hp))
theorem Tch.below {lo hi : Nat} {a b : Col} {u v : World} (h : Tch lo hi a b u v) {B : Nat} (hB : B ≤ u.heap.size) (hc : ∀ i, i < B → ¬ (lo ≤ a i ∧ a i < hi)) : Below B u v :=
  ⟨h.os, h.tape, h.output, h.size, fun i hi => h.block i (Nat.lt_of_lt_of_le hi hB) (hc i hi)⟩
/-- A block that stays as it was. -/
theorem Tch.keep {lo hi : Nat} {a b : Col} {u v : World} (h : Tch lo hi a b u v) {g : Nat} {o : Obj} (hg : u.heap[g]? = some o) (hr : ¬ (lo ≤ a g ∧ a g < hi)) : v.heap[g]? = some o ∧ b g = a g := by
  have hlt : g < u.heap.size := (Array.getElem?_eq_some_iff.1 hg).1
  exact ⟨(h.block g hlt hr).trans hg, h.hue g hlt hr⟩

/-! ### rows of one colour -/
structure Row (w : World) (col : Col) (B r : Nat) (e : TypeId) (size : Nat) (v : Value) (n : Nat) (xs : List Value) : Prop where
  own : w.ownsRow B e size v n xs
  c : ∀ g, v.ownBlock = some g → col g = r
theorem Row.nil (w : World) (col : Col) (B r : Nat) (e : TypeId) (size : Nat) : Row w col B r e size (.slice none 0 0) 0 [] := ⟨World.ownsRow_nil _ _ _ _, fun g h => by cases h⟩
theorem Row.keep {w w' : World} {a b : Col} {B r size n lo hi : Nat} {e : TypeId} {v : Value} {xs : List Value} (h : Row w a B r e size v n xs) (ht : Tch lo hi a b w w') (hr : ¬ (lo ≤ r ∧ r < hi)) : Row w' b B r e size v n xs := by
  obtain ⟨⟨h1, h2⟩, hc⟩ := h
  rcases h2 with ⟨rfl, h2⟩ | ⟨g, cap, cur, rfl, hB, hg, h3⟩
  · exact ⟨⟨h1, .inl ⟨rfl, h2⟩⟩, fun g h => by cases h⟩
  · have e1 : a g = r := hc g rfl
    obtain ⟨k1, k2⟩ := ht.keep hg (by rw [e1]; exact hr)
    exact ⟨⟨h1, .inr ⟨g, cap, cur, rfl, hB, k1, h3⟩⟩, fun g' e2 => by injection e2 with e2; subst e2; rw [k2]; exact e1⟩
theorem Row.recol {w : World} {a b : Col} {B r size n : Nat} {e : TypeId} {v : Value} {xs : List Value} (h : Row w a B r e size v n xs) (hc : ∀ g, g < w.heap.size → b g = a g) : Row w b B r e size v n xs := by
  refine ⟨h.own, fun g hg => ?_⟩
  rw [hc g (h.own.lt g hg).2]
  exact h.c g hg
/-- A block's part. -/
structure Bk (w : World) (col : Col) (B r g : Nat) (t : TypeId) (cs : Array Value) : Prop where
  blk : Blk w g t cs
  c : col g = r
  b : B ≤ g
theorem Bk.keep {w w' : World} {a b : Col} {B r g lo hi : Nat} {t : TypeId} {cs : Array Value} (h : Bk w a B r g t cs) (ht : Tch lo hi a b w w') (hr : ¬ (lo ≤ r ∧ r < hi)) : Bk w' b B r g t cs := by
  obtain ⟨k1, k2⟩ := ht.keep h.blk (by rw [h.c]; exact hr)
  exact ⟨k1, k2.trans h.c, h.b⟩

theorem Bk.set {w : World} {a : Col} {B r g : Nat} {t : TypeId} {cs : Array Value} (h : Bk w a B r g t cs) (i : Nat) (u : Value) : Bk (w.setCell ⟨g, i, none⟩ u) a B r g t (cs.setIfInBounds i u) := ⟨h.blk.set_ i u, h.c, h.b⟩
/-! ### append, with the word on where the row lies then -/
theorem run_append_where (P : Program) (w : World) (base : Nat) (t ty e : TypeId) (i : TypeInfo) (z : Value) (size bytes : Nat) (ht : P.underlying t = some (.slice e)) (hi : P.info? e = some i) (hz : i.zero = some z)
    (hsize : i.size = size) (hby : i.bytes = bytes) (hzs : z.cells.size = size) (hsz : 0 < size)
    (v : Value) (n : Nat) (xs : List Value) (hown : w.ownsRow base e size v n xs)
    (a : Addr) (m c : Nat) (news : List Value) (hl : news.length = m * size) (hnews : ∀ j u, news[j]? = some u → w.cell? (a.add j) = some u) (h1 : ∀ u ∈ news, u.oneCell' = true)
    (h63 : n + m ≤ maxLen) (hbytes : (n + m) * bytes ≤ 140737488355328) (hbase : base ≤ w.heap.size) :
    ∃ v' w', (Builtin.append_ #[t, t] ty #[v, .slice (some a) m c]).run P w = .ok v' w' ∧ w'.ownsRow base e size v' (n + m) (xs ++ news) ∧ w.grownBy w' v.ownBlock ∧
      (v'.ownBlock = v.ownBlock ∨ v'.ownBlock = some w.heap.size) := by
  obtain ⟨v', w', hr, h2, h3, h4⟩ := run_append_own (P := P) w base t ty e i z size bytes ht hi hz hsize hby hzs hsz v n xs hown a m c news hl hnews h1 h63 hbytes hbase
  refine ⟨v', w', hr, h2, h3, ?_⟩
  subst hsize hby
  have hsmall : n + m ≤ 9223372036854775807 := by simp only [maxLen] at h63; omega
  rcases hown.2 with ⟨rfl, rfl⟩ | ⟨g, cap, cur, rfl, hbg, hg, hnc, hcm, hcs, htake⟩
  · have hx : xs = [] := List.eq_nil_of_length_eq_zero (by simpa using hown.1)
    subst hx
    by_cases hm : m = 0
    · left
      rw [h4.2 ⟨rfl, hm⟩]
    · right
      have hq := run_append_nil (P := P) w t ty e i z ht hi hz a m c news hl hnews (by omega) (by omega) (by have hb := hbytes; simp only [Nat.zero_add] at hb; omega)
      rw [hr] at hq
      injection hq with hq _
      rw [hq]; rfl
  · by_cases hroom : n + m ≤ cap
    · left
      have hfit : n * i.size + news.length ≤ cur.size := by rw [hl, hcs, ← Nat.add_mul]; exact Nat.mul_le_mul_right _ hroom
      have hq := run_append_room (P := P) w t ty e i ht hi g n cap cur hg a m c news hl hnews h1 hroom hfit
      rw [hr] at hq
      injection hq with hq _
      rw [hq]; rfl
    · right
      have holds : ∀ j u, xs[j]? = some u → w.cell? ((⟨g, 0, none⟩ : Addr).add j) = some u := hown.cells (g := g) rfl
      have hq := run_append_grow (P := P) w t ty e i z ht hi hz ⟨g, 0, none⟩ n cap xs hown.1 holds a m c news hl hnews (by omega) (by omega) (growslice_fits (by omega) hbytes)
      rw [hr] at hq
      injection hq with hq _
      rw [hq]; rfl
/-- A row of a colour is appended to: the row has that colour still, in colours that paint what is new. -/
theorem app_row {P : Program} (w : World) {ops : Array Oper} {rest : List Oper} {o : Oper} {a : Act} {Q : Exit → Act → World → Prop} (T E : TypeId) (z : Value) (size bytes : Nat)
    (ht : P.underlying T = some (.slice E)) (hinf : (P.info? E).map (fun i => (i.zero, i.size, i.bytes)) = some (some z, size, bytes)) (hzs : z.cells.size = size) (hsz : 0 < size)
    (hgd : o.guard = none) (s x : Operand) (ho : o.op = .call { callee := .builtin .append, args := #[s, x], argTypes := #[T, T] })
    (col : Col) (B r lo hi : Nat) (v : Value) (n : Nat) (xs : List Value) (hs : a.eval s = v) (hrow : Row w col B r E size v n xs) (hr : lo ≤ r ∧ r < hi)
    (A : Option Addr) (m c : Nat) (news : List Value) (hx : a.eval x = .slice A m c) (hA : A = none → m = 0 ∧ c = 0) (hb : RowAt w A (m * size) news) (h1 : ∀ u ∈ news, u.oneCell' = true)
    (h63 : n + m ≤ maxLen) (hbd : (n + m) * bytes ≤ 140737488355328) (hbase : B ≤ w.heap.size)
    (h : ∀ v' w' col', Row w' col' B r E size v' (n + m) (xs ++ news) → Tch lo hi col col' w w' → (∀ g, v.ownBlock ≠ some g → g ≠ w.heap.size → col' g = col g) → wpList P ops Q rest (a.put o.dst v') w') : wpList P ops Q (o :: rest) a w := by
  obtain ⟨i0, hi0, hz0, hz1, hz2⟩ := info_parts hinf
  have hgr : ∀ g, v.ownBlock = some g → g < w.heap.size → lo ≤ col g ∧ col g < hi := fun g e _ => by rw [hrow.c g e]; exact hr
  cases A with
  | none =>
    obtain ⟨rfl, rfl⟩ := hA rfl
    have e : news = [] := List.eq_nil_of_length_eq_zero (by rw [hb.len]; omega)
    subst e
    refine wpList_append_own_none hgd s x T ho B E i0 size ht hi0 v n xs hs hrow.own hx (h v w col ?_ (Tch.refl _ _ _ _) (fun _ _ _ => rfl))
    simpa using hrow
  | some ad =>
    refine wpList_plain hgd fun K hK => ?_
    have hn : ∀ j u, news[j]? = some u → w.cell? (ad.add j) = some u := fun j u hu => by
      obtain ⟨a', e', hc⟩ := hb.2 (by have := (List.getElem?_eq_some_iff.1 hu).1; have := hb.len; omega)
      obtain rfl : ad = a' := by simpa using e'
      exact hc j u hu
    obtain ⟨v', w', hr', h2, h3, h4⟩ := run_append_where P w B T o.type E i0 z size bytes ht hi0 hz0 hz1 hz2 hzs hsz v n xs hrow.own ad m c news hb.len hn h1 h63 hbd hbase
    unfold Oper.wp execOp
    simp only [ho, resolve, invoke, builtin, Sem.run_bind, Sem.run_pure, Result.andThen_ok, List.map_toArray, List.map_cons, List.map_nil, hs, hx, hr']
    refine hK _ _ ?_
    rcases h4 with h4 | h4
    · exact h v' w' col ⟨h2, fun g e => hrow.c g (by rw [← h4]; exact e)⟩ (Tch.of_grown h3 hgr) (fun _ _ _ => rfl)
    · refine h v' w' (paint col w.heap.size r) ⟨h2, fun g e => ?_⟩ ((Tch.of_grown h3 hgr).paint (Nat.le_refl _) (h2.lt _ h4).2 (.inr hr)) (fun g _ hg => paint_other hg)
      rw [h4] at e
      injection e with e
      rw [← e, paint_self]
end Go.Proofs.Ytomoliickggghaa.Mem

namespace Go.Proofs.Ytomoliickggghaa.Mem
open Go.RowKit Go.Proofs.Ytomoliickggghaa Go.ChangeMaps Go.MapKept
set_option maxHeartbeats 4000000
set_option maxRecDepth 100000
set_option linter.unusedVariables false
set_option linter.unusedSimpArgs false

/-- Elements read as themselves. -/
def RV (v : Value) : Option (DataW Value × List MemPlace) := some (.held v, [])
theorem RV_mk (v : Value) : RV v = some (.held v, []) := rfl
theorem int_key : Maps.Keyed Try.prog 3 := Maps.int_keyed Try.underlying3
theorem wf_key {k : Int} (h : -9223372036854775808 ≤ k ∧ k ≤ 9223372036854775807) : (Lit.int .i64 k).wf = true := by
  have h1 : IntKind.i64.min = -9223372036854775808 := by decide
  have h2 : IntKind.i64.max = 9223372036854775807 := by decide
  simp [Lit.wf, h1, h2]; exact h
theorem key_wf {k : Int} (h : (Lit.int .i64 k).wf = true) : -9223372036854775808 ≤ k ∧ k ≤ 9223372036854775807 := by
  have h1 : IntKind.i64.min = -9223372036854775808 := by decide
  have h2 : IntKind.i64.max = 9223372036854775807 := by decide
  simp [Lit.wf, h1, h2] at h; exact h
theorem key_mk {k : Int} (h : -9223372036854775808 ≤ k ∧ k ≤ 9223372036854775807) : keyOf Try.prog 3 (.int .i64 k) = some (.int .i64 k) := Maps.keyOf_int_mk Try.underlying3 (wf_key h)
theorem key_lit {k : Int} : WideAt.IsKeyLit (.int .i64 k) := by trivial
abbrev KB (k : Int) : Prop := -9223372036854775808 ≤ k ∧ k ≤ 9223372036854775807

theorem count_one {l : List Nat} (h : l.Pairwise (· ≠ ·)) (n : Nat) : l.length ≤ (l.filter (· ≠ n)).length + 1 := by
  induction l with
  | nil => simp
  | cons x l ih =>
    rw [List.pairwise_cons] at h
    by_cases e : x = n
    · subst e
      have : l.filter (· ≠ x) = l := List.filter_eq_self.2 fun y hy => by simpa using (h.1 y hy).symm
      rw [List.filter_cons_of_neg (by simp), this]; simp
    · rw [List.filter_cons_of_pos (by simpa using e)]
      have := ih h.2
      simp only [List.length_cons]; omega
theorem pigeon : ∀ (N : Nat) (l : List Nat), l.Pairwise (· ≠ ·) → (∀ x ∈ l, x < N) → l.length ≤ N
  | 0, l, _, h => by
    cases l with
    | nil => exact Nat.le_refl _
    | cons x l => exact absurd (h x (List.mem_cons_self)) (by omega)
  | N + 1, l, hp, h => by
    have h1 := count_one hp N
    have h2 := pigeon N (l.filter (· ≠ N)) (hp.filter _) fun x hx => by
      rw [List.mem_filter] at hx
      have := h x hx.1
      have h3 : x ≠ N := by simpa using hx.2
      omega
    omega

/-- Block b is a map[int]T with the entries of f, whose keys are 0 to N - 1. -/
structure MapR (w : World) (col : Col) (B r b N : Nat) (f : Int → Option Value) : Prop where
  own : ∃ n D, w.ownsMap Try.prog 3 RV b n D ∧ (∀ k, KB k → Maps.has D (.int .i64 k) = (f k).isSome) ∧ (∀ k, KB k → ∀ v, f k = some v → ∀ z, D.atKey (.int .i64 k) z = .held v)
  c : col b = r
  base : B ≤ b
  sup : ∀ k v, f k = some v → 0 ≤ k ∧ k < (N : Int)
  small : N ≤ 1048576
open Go.WideElems (Fit rg rd_key rg_of) in
theorem has_key {w : World} {b n : Nat} {D : DataW Value} (h : w.ownsMap Try.prog 3 RV b n D) : ∃ es : List (Lit × DataW Value), D = .map es ∧ es.Pairwise (fun p q => p.1 ≠ q.1) ∧ ∀ p ∈ es, ∃ k, p.1 = .int .i64 k ∧ KB k := by
  obtain ⟨es1, hD1, hp1⟩ := h.tidy int_key
  refine ⟨es1, hD1, hp1, fun p hp => ?_⟩
  obtain ⟨es, clock, _, F, _, hD⟩ := h
  rw [hD1] at hD
  injection hD with hD
  rw [hD] at hp
  obtain ⟨x, hx, rfl⟩ := List.mem_map.1 (mem_sorted.1 hp)
  obtain ⟨y, hy⟩ := F.reads x hx
  rw [rg_of hy]
  obtain ⟨k, _, h2, h3⟩ := Maps.keyOf_int_inv Try.underlying3 (rd_key hy)
  exact ⟨k, h2, key_wf h3⟩
theorem sharp {w : World} {b n : Nat} {D : DataW Value} (h : w.ownsMap Try.prog 3 RV b n D) : w.ownsMap Try.prog 3 RV b (Maps.size D) D := by
  obtain ⟨es, clock, hb, F, hs, hD⟩ := h
  refine ⟨es, clock, hb, F, ?_, hD⟩
  rw [hD]
  simp [Maps.size, length_sorted]
section
variable {w : World} {col : Col} {B r b N : Nat} {f : Int → Option Value}
theorem MapR.size (h : MapR w col B r b N f) {n : Nat} {D : DataW Value} (hm : w.ownsMap Try.prog 3 RV b n D) (hh : ∀ k, KB k → Maps.has D (.int .i64 k) = (f k).isSome) : Maps.size D ≤ N := by
  obtain ⟨es, rfl, hp, hk⟩ := has_key hm
  have hin : ∀ p ∈ es, ∃ k : Int, p.1 = .int .i64 k ∧ 0 ≤ k ∧ k < (N : Int) := fun p hpm => by
    obtain ⟨k, h1, h2⟩ := hk p hpm
    have h3 := hh k h2
    rw [Maps.has_eq] at h3
    have h4 : es.any (fun p => p.1.sameKey (.int .i64 k)) = true := by
      rw [List.any_eq_true]
      exact ⟨p, hpm, by rw [h1]; simp [Lit.sameKey]⟩
    rw [h4] at h3
    cases hf : f k with
    | none => rw [hf] at h3; cases h3
    | some v => exact ⟨k, h1, h.sup k v hf⟩
  show es.length ≤ N
  have key : ∀ (p : Lit × DataW Value), ∃ x : Nat, ∀ k, p.1 = .int .i64 k → x = k.toNat := fun p => by
    cases hp : p.1 with
    | int q k => exact ⟨k.toNat, fun k' e => by injection e with _ e; rw [e]⟩
    | _ => exact ⟨0, fun k e => by cases e⟩
  have := pigeon N (es.map fun p => (key p).choose) (by
    rw [List.pairwise_map]
    refine List.Pairwise.imp_of_mem ?_ hp
    intro p q hpm hqm hne e
    obtain ⟨k1, e1, a1, b1⟩ := hin p hpm
    obtain ⟨k2, e2, a2, b2⟩ := hin q hqm
    have c1 := (key p).choose_spec k1 e1
    have c2 := (key q).choose_spec k2 e2
    apply hne
    rw [e1, e2]
    have : k1 = k2 := by omega
    rw [this]) (fun x hx => by
    obtain ⟨p, hpm, rfl⟩ := List.mem_map.1 hx
    obtain ⟨k1, e1, a1, b1⟩ := hin p hpm
    have c1 := (key p).choose_spec k1 e1
    omega)
  rwa [List.length_map] at this
theorem MapR.lt (h : MapR w col B r b N f) : b < w.heap.size := by
  obtain ⟨n, D, hm, _⟩ := h.own
  exact hm.lt
theorem MapR.keep {w' : World} {col' : Col} {lo hi : Nat} (h : MapR w col B r b N f) (ht : Tch lo hi col col' w w') (hr : ¬ (lo ≤ r ∧ r < hi)) : MapR w' col' B r b N f := by
  obtain ⟨n, D, ⟨es, clock, hb, hm⟩, hh⟩ := h.own
  obtain ⟨k1, k2⟩ := ht.keep hb (by rw [h.c]; exact hr)
  exact ⟨⟨n, D, ⟨es, clock, k1, hm⟩, hh⟩, k2.trans h.c, h.base, h.sup, h.small⟩
theorem MapR.ext {g : Int → Option Value} (h : MapR w col B r b N f) (hfg : ∀ k, f k = g k) : MapR w col B r b N g := by
  obtain rfl : f = g := funext hfg
  exact h
theorem MapR.look {t e : TypeId} (h : MapR w col B r b N f) (ht : Try.prog.underlying t = some (.map 3 e)) {z : Value} (hz : (zeroValue e).run Try.prog w = .ok z w) {k : Int} (hk : KB k) :
    (Instr.lookup t (.map (some b)) (.int .i64 k) false).run Try.prog w = .ok ((f k).getD z) w := by
  obtain ⟨n, D, hm, hh, ha⟩ := h.own
  obtain ⟨v, ps, hr, hv⟩ := hm.lookup int_key ht hz (RV_mk z) (key_mk hk)
  rw [hr]
  rw [RV_mk] at hv
  injection hv with hv
  injection hv with hv _
  cases hf : f k with
  | none =>
    have := hh k hk
    rw [hf] at this
    rw [Maps.atKey_of_not_has this] at hv
    injection hv with hv
    rw [hv]; rfl
  | some u =>
    rw [ha k hk u hf] at hv
    injection hv with hv
    rw [hv]; rfl
theorem MapR.update {t e : TypeId} (h : MapR w col B r b N f) (ht : Try.prog.underlying t = some (.map 3 e)) {k : Int} (hk : 0 ≤ k ∧ k < (N : Int)) (v : Value) :
    ∃ w', (Instr.mapUpdate t (.map (some b)) (.int .i64 k) v).run Try.prog w = .ok () w' ∧ MapR w' col B r b N (fun j => if j = k then some v else f j) ∧ w.grownBy w' (some b) := by
  obtain ⟨n, D, hm, hh, ha⟩ := h.own
  have hN := h.small
  have hkb : KB k := ⟨by omega, by omega⟩
  have hs := h.size hm hh
  have ho := sharp hm
  obtain ⟨w', hr, hown, hg⟩ := ho.update int_key ht (by unfold maxLen; omega) (key_mk hkb) (RV_mk v)
  refine ⟨w', hr, ⟨⟨_, _, hown, fun j hj => ?_, fun j hj u hu z => ?_⟩, h.c, h.base, fun j u hu => ?_, hN⟩, hg⟩
  · by_cases e : j = k
    · subst e
      rw [Maps.has_put_same ho.isMap key_lit, if_pos rfl]; rfl
    · rw [Maps.has_put_other (by intro e2; injection e2 with _ e2; exact e e2), if_neg e]; exact hh j hj
  · by_cases e : j = k
    · subst e
      rw [if_pos rfl] at hu
      injection hu with hu
      rw [Maps.atKey_put_same ho.isMap key_lit, hu]
    · rw [if_neg e] at hu
      rw [Maps.atKey_put_other (by intro e2; injection e2 with _ e2; exact e e2)]; exact ha j hj u hu z
  · by_cases e : j = k
    · subst e; exact hk
    · rw [if_neg e] at hu; exact h.sup j u hu
theorem MapR.drop {t e : TypeId} (h : MapR w col B r b N f) (ht : Try.prog.underlying t = some (.map 3 e)) {k : Int} (hk : KB k) (ty : TypeId) :
    ∃ w', (Builtin.delete_ #[t, 3] ty #[.map (some b), .int .i64 k]).run Try.prog w = .ok (.tuple #[]) w' ∧ MapR w' col B r b N (fun j => if j = k then none else f j) ∧ w.grownBy w' (some b) := by
  obtain ⟨n, D, hm, hh, ha⟩ := h.own
  obtain ⟨w', hr, hown, hg⟩ := hm.drop int_key ht (key_mk hk) ty
  refine ⟨w', hr, ⟨⟨_, _, hown, fun j hj => ?_, fun j hj u hu z => ?_⟩, h.c, h.base, fun j u hu => ?_, h.small⟩, hg.grown⟩
  · by_cases e : j = k
    · subst e
      rw [Maps.has_del_same, if_pos rfl]; rfl
    · rw [Maps.has_del_other (by intro e2; injection e2 with _ e2; exact e e2), if_neg e]; exact hh j hj
  · by_cases e : j = k
    · subst e; rw [if_pos rfl] at hu; cases hu
    · rw [if_neg e] at hu
      rw [Maps.atKey_del_other (by intro e2; injection e2 with _ e2; exact e e2)]; exact ha j hj u hu z
  · by_cases e : j = k
    · subst e; rw [if_pos rfl] at hu; cases hu
    · rw [if_neg e] at hu; exact h.sup j u hu
theorem MapR.made (w : World) (col : Col) (B r N : Nat) (hB : B ≤ w.heap.size) (hN : N ≤ 1048576) (hc : col w.heap.size = r) : MapR (w.alloc (.map #[] 0)) col B r w.heap.size N (fun _ => none) :=
  ⟨⟨0, .map [], World.ownsMap_made _ _ _ _, fun _ _ => rfl, (fun _ _ _ h => by cases h)⟩, hc, hB, (fun _ _ h => by cases h), hN⟩
theorem MapR.clear {t e : TypeId} (h : MapR w col B r b N f) (ht : Try.prog.underlying t = some (.map 3 e)) (ty : TypeId) :
    ∃ w', (Builtin.clear_ #[t] ty #[.map (some b)]).run Try.prog w = .ok (.tuple #[]) w' ∧ MapR w' col B r b N (fun _ => none) ∧ w.grownBy w' (some b) := by
  obtain ⟨n, D, ⟨es, clock, hb, F, hs, hD⟩, hh⟩ := h.own
  refine ⟨setBlock w b (.map #[] clock), ?_, ⟨⟨0, .map [], ⟨#[], clock, heap_setBlock_same hb _, ⟨by simp, stamped_empty clock, by simp⟩, Nat.le_refl _, rfl⟩, fun _ _ => rfl, (fun _ _ _ h => by cases h)⟩, h.c, h.base, (fun _ _ h => by cases h), h.small⟩, ⟨rfl, rfl, rfl, by simp [setBlock], fun i _ hi => heap_setBlock_other hb _ (fun e => hi (by rw [e]))⟩⟩
  simp [Builtin.clear_, run_underlying ht, MapKept.run_getObj_map hb, Result.andThen]
  rw [run_setObj_map _ hb]; rfl
end
/-! ### at the operation, for the walk -/
section
variable (w : World) {ops : Array Oper} {rest : List Oper} {o : Oper} {a : Act} {Q : Exit → Act → World → Prop}
theorem map_put (hg : o.guard = none) (m x v : Operand) (t : TypeId) (hop : o.op = Op.mapUpdate t m x v) (e : TypeId) (ht : Try.prog.underlying t = some (.map 3 e)) (col : Col) (B r b N : Nat) (f : Int → Option Value)
    (hm : a.eval m = .map (some b)) (h : MapR w col B r b N f) (k : Int) (hx : a.eval x = .int .i64 k) (hk : 0 ≤ k ∧ k < (N : Int)) (val : Value) (hv : a.eval v = val)
    (hK : ∀ w', MapR w' col B r b N (fun j => if j = k then some val else f j) → Tch r (r + 1) col col w w' → wpList Try.prog ops Q rest (a.put o.dst undef) w') : wpList Try.prog ops Q (o :: rest) a w := by
  refine wpList_plain hg fun K' hK' => ?_
  obtain ⟨w', hrun, r1, r2⟩ := h.update ht hk val
  unfold Oper.wp
  simp [execOp, hop, hm, hx, hv, hrun, Result.andThen]
  exact hK' _ _ (hK w' r1 (Tch.of_grown r2 (fun g e _ => by injection e with e; subst e; rw [h.c]; omega)))
theorem map_drop (hg : o.guard = none) (m x : Operand) (t : TypeId) (hop : o.op = Op.call { callee := Callee.builtin Builtin.delete, args := #[m, x], argTypes := #[t, 3] }) (e : TypeId) (ht : Try.prog.underlying t = some (.map 3 e)) (col : Col) (B r b N : Nat) (f : Int → Option Value)
    (hm : a.eval m = .map (some b)) (h : MapR w col B r b N f) (k : Int) (hx : a.eval x = .int .i64 k) (hk : KB k)
    (hK : ∀ w', MapR w' col B r b N (fun j => if j = k then none else f j) → Tch r (r + 1) col col w w' → wpList Try.prog ops Q rest (a.put o.dst (.tuple #[])) w') : wpList Try.prog ops Q (o :: rest) a w := by
  refine wpList_plain hg fun K' hK' => ?_
  obtain ⟨w', hrun, r1, r2⟩ := h.drop ht hk o.type
  unfold Oper.wp
  simp [execOp, hop, resolve, invoke, builtin, hm, hx, hrun, Result.andThen]
  exact hK' _ _ (hK w' r1 (Tch.of_grown r2 (fun g e _ => by injection e with e; subst e; rw [h.c]; omega)))
theorem map_clear (hg : o.guard = none) (m : Operand) (t : TypeId) (hop : o.op = Op.call { callee := Callee.builtin Builtin.clear, args := #[m], argTypes := #[t] }) (e : TypeId) (ht : Try.prog.underlying t = some (.map 3 e)) (col : Col) (B r b N : Nat) (f : Int → Option Value)
    (hm : a.eval m = .map (some b)) (h : MapR w col B r b N f)
    (hK : ∀ w', MapR w' col B r b N (fun _ => none) → Tch r (r + 1) col col w w' → wpList Try.prog ops Q rest (a.put o.dst (.tuple #[])) w') : wpList Try.prog ops Q (o :: rest) a w := by
  refine wpList_plain hg fun K' hK' => ?_
  obtain ⟨w', hrun, r1, r2⟩ := h.clear ht o.type
  unfold Oper.wp
  simp [execOp, hop, resolve, invoke, builtin, hm, hrun, Result.andThen]
  exact hK' _ _ (hK w' r1 (Tch.of_grown r2 (fun g e _ => by injection e with e; subst e; rw [h.c]; omega)))
end
end Go.Proofs.Ytomoliickggghaa.Mem

namespace Go.Proofs.Ytomoliickggghaa.Mem
open Go.RowKit Go.Proofs.Ytomoliickggghaa Go.Proofs.Ytomoliickggghaa.Wire
set_option maxHeartbeats 8000000
set_option maxRecDepth 100000
set_option linter.unusedVariables false
set_option linter.unusedSimpArgs false

abbrev Bytes := List UInt8
/-- A slice of a block's 256 bytes, never written again (colour 1). -/
def Dat (w : World) (col : Col) (B : Nat) (v : Value) (bs : Bytes) : Prop := Row w col B 1 5 1 v 256 (bvl bs)
theorem Dat.keep {w w' : World} {a b : Col} {B lo hi : Nat} {v : Value} {bs : Bytes} (h : Dat w a B v bs) (ht : Tch lo hi a b w w') (hr : 2 ≤ lo ∨ hi ≤ 1) : Dat w' b B v bs := Row.keep h ht (by omega)
theorem Dat.form {w : World} {col : Col} {B : Nat} {v : Value} {bs : Bytes} (h : Dat w col B v bs) : ∃ g cap, v = .slice (some ⟨g, 0, none⟩) 256 cap ∧ BytesAt w (some ⟨g, 0, none⟩) 256 bs ∧ 256 ≤ cap ∧ cap ≤ 9223372036854775807 ∧ bs.length = 256 ∧ g < w.heap.size ∧ B ≤ g ∧ col g = 1 := by
  obtain ⟨g, cap, cur, rfl, hg, hb, hc, hm, _⟩ := own_form h.own (by omega)
  unfold maxLen at hm
  have hby := BytesAt.of_own h.own
  exact ⟨g, cap, rfl, hby, hc, by omega, hby.len, (h.own.lt g rfl).2, hg, h.c g rfl⟩
/-- The bytes of a map's entries. -/
def Pair (w : World) (col : Col) (B : Nat) (f : Int → Option Value) (m : Int → Option Bytes) : Prop := ∀ k, (f k = none ∧ m k = none) ∨ ∃ v bs, f k = some v ∧ m k = some bs ∧ Dat w col B v bs
theorem Pair.keep {w w' : World} {a b : Col} {B lo hi : Nat} {f : Int → Option Value} {m : Int → Option Bytes} (h : Pair w a B f m) (ht : Tch lo hi a b w w') (hr : 2 ≤ lo ∨ hi ≤ 1) : Pair w' b B f m := fun k => by
  rcases h k with h | ⟨v, bs, h1, h2, h3⟩
  · exact .inl h
  · exact .inr ⟨v, bs, h1, h2, h3.keep ht hr⟩
theorem Pair.empty (w : World) (col : Col) (B : Nat) : Pair w col B (fun _ => none) (fun _ => none) := fun _ => .inl ⟨rfl, rfl⟩
theorem Pair.set {w : World} {col : Col} {B : Nat} {f : Int → Option Value} {m : Int → Option Bytes} (h : Pair w col B f m) {n : Int} {v : Value} {bs : Bytes} (hd : Dat w col B v bs) :
    Pair w col B (fun j => if j = n then some v else f j) (fun j => if j = n then some bs else m j) := fun k => by
  by_cases e : k = n
  · exact .inr ⟨v, bs, if_pos e, if_pos e, hd⟩
  · simp only [if_neg e]; exact h k
theorem Pair.del {w : World} {col : Col} {B : Nat} {f : Int → Option Value} {m : Int → Option Bytes} (h : Pair w col B f m) (n : Int) :
    Pair w col B (fun j => if j = n then none else f j) (fun j => if j = n then none else m j) := fun k => by
  by_cases e : k = n
  · exact .inl ⟨if_pos e, if_pos e⟩
  · simp only [if_neg e]; exact h k
/-- Block b is a map from numbers below N to blocks' bytes. -/
structure MapB (w : World) (col : Col) (B r b N : Nat) (m : Int → Option Bytes) : Prop where
  ex : ∃ f, MapR w col B r b N f ∧ Pair w col B f m
theorem MapB.keep {w w' : World} {a b : Col} {B r g N lo hi : Nat} {m : Int → Option Bytes} (h : MapB w a B r g N m) (ht : Tch lo hi a b w w') (hlo : 2 ≤ lo ∨ hi ≤ 1) (hr : ¬ (lo ≤ r ∧ r < hi)) : MapB w' b B r g N m := by
  obtain ⟨f, h1, h2⟩ := h.ex
  exact ⟨f, h1.keep ht hr, h2.keep ht hlo⟩
/-- Writes that are listed. -/
def wcells : List (Int × Value) → List Value
  | [] => []
  | p :: l => .int .i64 p.1 :: p.2 :: wcells l
theorem wcells_length : ∀ l, (wcells l).length = l.length * 2
  | [] => rfl
  | p :: l => by simp only [wcells, List.length_cons, wcells_length l]; omega
theorem wcells_append : ∀ a b, wcells (a ++ b) = wcells a ++ wcells b
  | [], _ => rfl
  | p :: l, b => by simp only [List.cons_append, wcells, wcells_append l b]
structure Wr (w : World) (col : Col) (B r : Nat) (v : Value) (l : List (Int × Bytes)) : Prop where
  ex : ∃ vs : List (Int × Value), Row w col B r 51 2 v l.length (wcells vs) ∧ vs.map (·.1) = l.map (·.1) ∧ ∀ (i : Nat) (p : Int × Value) (q : Int × Bytes), vs[i]? = some p → l[i]? = some q → Dat w col B p.2 q.2
theorem Wr.keep {w w' : World} {a b : Col} {B r lo hi : Nat} {v : Value} {l : List (Int × Bytes)} (h : Wr w a B r v l) (ht : Tch lo hi a b w w') (hlo : 2 ≤ lo ∨ hi ≤ 1) (hr : ¬ (lo ≤ r ∧ r < hi)) : Wr w' b B r v l := by
  obtain ⟨vs, h1, h2, h3⟩ := h.ex
  exact ⟨vs, h1.keep ht hr, h2, fun i p q hp hq => (h3 i p q hp hq).keep ht hlo⟩

/-- A disk's state. -/
structure DS where
  N : Nat
  at_ : Nat
  done : Int → Option Bytes
  new : Int → Option Bytes
  pend : List (Int × Bytes)
  ops : Nat
def zero256 : Bytes := List.replicate 256 0
def DS.get (S : DS) (n : Int) : Bytes := match S.new n with
  | some b => b
  | none => match S.done n with
    | some b => b
    | none => zero256
def DS.has (S : DS) (n : Int) : Bool := decide (0 ≤ n ∧ n < (S.N : Int))
/-- A disk in memory: its parts have the colours c, c + 1, c + 2, c + 3. -/
structure DiskAt (w : World) (col : Col) (B c p : Nat) (S : DS) : Prop where
  ex : ∃ bd bn vp, Bk w col B c p 78 #[.int .i64 S.N, .map (some bd), vp, .map (some bn), .int .i64 S.ops] ∧ MapB w col B (c + 1) bd S.N S.done ∧ MapB w col B (c + 2) bn S.N S.new ∧ Wr w col B (c + 3) vp S.pend
  lo : 16 ≤ c
  n : S.N ≤ 4096 ∧ 128 ≤ S.N
  room : S.pend.length + S.ops ≤ 1000000000
  here : p = S.at_
theorem DiskAt.keep {w w' : World} {a b : Col} {B c p lo hi : Nat} {S : DS} (h : DiskAt w a B c p S) (ht : Tch lo hi a b w w') (hlo : 2 ≤ lo ∨ hi ≤ 1) (hr : c + 4 ≤ lo ∨ hi ≤ c) : DiskAt w' b B c p S := by
  obtain ⟨bd, bn, vp, h1, h2, h3, h4⟩ := h.ex
  exact ⟨⟨bd, bn, vp, h1.keep ht (by omega), h2.keep ht hlo (by omega), h3.keep ht hlo (by omega), h4.keep ht hlo (by omega)⟩, h.lo, h.n, h.room, h.here⟩
def ptr (p : Nat) : Value := .pointer (some ⟨p, 0, none⟩)
theorem blocks_any (w : World) (col : Col) (B c p : Nat) (S : DS) (h : DiskAt w col B c p S) :
    Calls Try.prog 37 #[ptr p] w fun e w' => e = .returned (.int .i64 S.N) ∧ w = w' := by
  obtain ⟨bd, bn, vp, h1, _⟩ := h.ex
  have c0 : w.cell? ⟨p, 0, none⟩ = some (.int .i64 S.N) := h1.blk.cell 0
  clear h1 h
  unfold ptr
  go_enter Try.func37, Try.ntmps37
  go_wp2_with fail
  go_ret
  exact ⟨rfl, rfl⟩
theorem blocks_nil (w : World) : Calls Try.prog 37 #[.pointer none] w fun e w' => e = .returned (.int .i64 0) ∧ w = w' := by
  go_enter Try.func37, Try.ntmps37
  go_wp2_with fail
  go_ret
  exact ⟨rfl, rfl⟩
theorem has_any (w : World) (col : Col) (B c p : Nat) (S : DS) (n : Int) (h : DiskAt w col B c p S) :
    Calls Try.prog 52 #[ptr p, .int .i64 n] w fun e w' => e = .returned (.bool (S.has n)) ∧ w = w' := by
  have HB := Lib.hid (blocks_any w col B c p S h)
  by_cases h0 : 0 ≤ n
  · have HV := Lib.hid (show decide (n < (S.N : Int)) = S.has n from decide_eq_decide.2 ⟨fun h => ⟨h0, h⟩, fun h => h.2⟩)
    clear h
    generalize S.N = N at *
    go_enter Try.func52, Try.ntmps52
    go_wp2_with fail
    refine HB.out.mono ?_
    rintro e w' ⟨rfl, rfl⟩
    go_wp2_with fail
    go_ret
    exact ⟨ret_bool HV.out, rfl⟩
  · have HV := Lib.hid (show S.has n = false from decide_eq_false (fun h => h0 h.1))
    clear h
    go_enter Try.func52, Try.ntmps52
    go_wp2_with fail
    go_ret
    exact ⟨ret_bool HV.out.symm, rfl⟩
theorem zero_slice (w : World) : (zeroValue 34).run Try.prog w = .ok (.slice none 0 0) w := by kernel_rfl
theorem bvl_zero : (bvl (List.replicate 256 0)).toArray = roomOf [] 256 := rfl
/-- What a read of the disk gives. -/
def DS.readB (S : DS) (n : Int) : Bytes := if S.has n = true then S.get n else []
def DS.readE (S : DS) (n : Int) : Int := if S.has n = true then 0 else 5
theorem dread_any (w : World) (col : Col) (B c p : Nat) (S : DS) (n : Int) (h : DiskAt w col B c p S) :
    Calls Try.prog 30 #[ptr p, .int .i64 n] w fun e w' => ∃ v, e = .returned (.tuple #[v, .int .i64 (S.readE n)]) ∧ Below w.heap.size w w' ∧ w'.ownsRow w.heap.size 5 1 v (S.readB n).length (bvl (S.readB n)) := by
  have HH := Lib.hid (has_any w col B c p S n h)
  cases hh : S.has n with
  | false =>
    have HE := Lib.hid (show S.readE n = 5 by rw [DS.readE, hh]; rfl)
    have HB := Lib.hid (show S.readB n = [] by rw [DS.readB, hh]; rfl)
    rw [hh] at HH
    clear h hh
    go_enter Try.func30, Try.ntmps30
    go_wp2_with fail
    refine HH.out.mono ?_
    rintro e w' ⟨rfl, rfl⟩
    go_wp2_with fail
    go_ret2
    exact ⟨_, by rw [HE.out]; rfl, Below.refl _ _, by rw [HB.out]; exact World.ownsRow_nil _ _ _ _⟩
  | true =>
    have HE := Lib.hid (show S.readE n = 0 by rw [DS.readE, hh]; rfl)
    have HB := Lib.hid (show S.readB n = S.get n by rw [DS.readB, hh]; rfl)
    have hn : 0 ≤ n ∧ n < (S.N : Int) := of_decide_eq_true hh
    rw [hh] at HH
    obtain ⟨bd, bn, vp, h1, h2, h3, _⟩ := h.ex
    obtain ⟨fd, md, pd⟩ := h2.ex
    obtain ⟨fn, mn, pn⟩ := h3.ex
    have hN := h.n
    have c1 : w.cell? ⟨p, 1, none⟩ = some (.map (some bd)) := h1.blk.cell 1
    have c3 : w.cell? ⟨p, 3, none⟩ = some (.map (some bn)) := h1.blk.cell 3
    have ld := md.look Try.underlying55 (zero_slice w) (k := n) ⟨by omega, by omega⟩
    have ln := mn.look Try.underlying55 (zero_slice w) (k := n) ⟨by omega, by omega⟩
    have fin : ∀ (v : Value) (bs : Bytes), Dat w col B v bs → S.get n = bs → Calls Try.prog 40 #[v] w fun e w' => ∃ v', e = .returned v' ∧ Below w.heap.size w w' ∧ w'.ownsRow w.heap.size 5 1 v' (S.get n).length (bvl (S.get n)) := fun v bs hd hg => by
      obtain ⟨g, cap, rfl, hb, h1, h2, h3, _⟩ := hd.form
      rw [hg, h3]
      exact Bits.clone_any (some ⟨g, 0, none⟩) 256 cap bs w (by omega) (fun e => by cases e) hb
    have FIN := Lib.hid fin
    have HG := Lib.hid (show S.get n = match S.new n with | some b => b | none => match S.done n with | some b => b | none => zero256 from rfl)
    unfold ptr at *
    rcases pn n with ⟨e1, e2⟩ | ⟨v, bs, e1, e2, hd⟩
    · rw [e1] at ln
      rcases pd n with ⟨e3, e4⟩ | ⟨v, bs, e3, e4, hd⟩
      · rw [e3] at ld
        have HZ := Lib.hid (show S.get n = zero256 by rw [HG.out, e2, e4])
        have heq := fun w => Lib.run_eql_slice_nil (P := Try.prog) w 34 5 none 0 0 0 0 Try.underlying34
        have hmk := make_bytes 256 (by omega)
        rw [show ((256 : Nat) : Int) = 256 from rfl] at hmk
        have O1 := Lib.hid (show (w.alloc (.cells (roomOf [] 256) 5)).ownsRow w.heap.size 5 1 (.slice (some ⟨w.heap.size, 0, none⟩) 256 256) 256 (bvl zero256) from by
          have := World.ownsRow_lit (base := w.heap.size) (e := 5) (size := 1) w (roomOf [] 256) 256 (Nat.le_refl _) (by unfold maxLen; omega) (by rw [roomOf_size (by simp)])
          exact this)
        have B1 := Lib.hid ((Below.refl w.heap.size w).alloc (Nat.le_refl _) (.cells (roomOf [] 256) 5))
        dsimp only [Option.getD] at ln ld
        generalize roomOf [] 256 = cells at *
        clear h h1 h2 h3 md mn pd pn e1 e2 e3 e4 hh
        go_enter Try.func30, Try.ntmps30
        go_wp2_with fail
        refine HH.out.mono ?_
        rintro e w' ⟨rfl, rfl⟩
        go_wp2_with fail
        go_ret2
        refine ⟨_, by rw [HE.out]; rfl, B1.out, ?_⟩
        rw [HB.out, HZ.out]
        exact O1.out
      · rw [e3] at ld
        have HC := Lib.hid (FIN.out v bs hd (by rw [HG.out, e2, e4]))
        obtain ⟨g, cap, rfl, _⟩ := hd.form
        have heq := fun w => Lib.run_eql_slice_nil (P := Try.prog) w 34 5 none 0 0 0 0 Try.underlying34
        have heq2 := fun w => Lib.run_eql_slice_nil (P := Try.prog) w 34 5 (some ⟨g, 0, none⟩) 256 cap 0 0 Try.underlying34
        dsimp only [Option.getD] at ln ld
        clear h h1 h2 h3 md mn pd pn e1 e2 e3 e4 hh hd
        go_enter Try.func30, Try.ntmps30
        go_wp2_with fail
        refine HH.out.mono ?_
        rintro e w' ⟨rfl, rfl⟩
        go_wp2_with fail
        refine HC.out.mono ?_
        rintro e w2 ⟨v2, rfl, hb2, ho2⟩
        have B2 := Lib.hid hb2
        have O2 := Lib.hid ho2
        clear hb2 ho2
        go_wp2_with fail
        go_ret2
        exact ⟨_, by rw [HE.out]; rfl, B2.out, by rw [HB.out]; exact O2.out⟩
    · rw [e1] at ln
      have HC := Lib.hid (FIN.out v bs hd (by rw [HG.out, e2]))
      obtain ⟨g, cap, rfl, _⟩ := hd.form
      have heq2 := fun w => Lib.run_eql_slice_nil (P := Try.prog) w 34 5 (some ⟨g, 0, none⟩) 256 cap 0 0 Try.underlying34
      dsimp only [Option.getD] at ln
      clear h h1 h2 h3 md mn pd pn e1 e2 hh hd ld
      go_enter Try.func30, Try.ntmps30
      go_wp2_with fail
      refine HH.out.mono ?_
      rintro e w' ⟨rfl, rfl⟩
      go_wp2_with fail
      refine HC.out.mono ?_
      rintro e w2 ⟨v2, rfl, hb2, ho2⟩
      have B2 := Lib.hid hb2
      have O2 := Lib.hid ho2
      clear hb2 ho2
      go_wp2_with fail
      go_ret2
      exact ⟨_, by rw [HE.out]; rfl, B2.out, by rw [HB.out]; exact O2.out⟩
end Go.Proofs.Ytomoliickggghaa.Mem

namespace Go.Proofs.Ytomoliickggghaa.Mem
open Go.RowKit Go.Proofs.Ytomoliickggghaa Go.Proofs.Ytomoliickggghaa.Wire
set_option maxHeartbeats 8000000
set_option maxRecDepth 100000
set_option linter.unusedVariables false
set_option linter.unusedSimpArgs false

def DS.fresh (N at_ : Nat) : DS := { N := N, at_ := at_, done := fun _ => none, new := fun _ => none, pend := [], ops := 0 }
theorem MapB.made (w : World) (col : Col) (B r N : Nat) (hB : B ≤ w.heap.size) (hN : N ≤ 1048576) (hc : col w.heap.size = r) : MapB (w.alloc (.map #[] 0)) col B r w.heap.size N (fun _ => none) :=
  ⟨_, MapR.made w col B r N hB hN hc, Pair.empty _ _ _⟩
theorem Wr.nil (w : World) (col : Col) (B r : Nat) : Wr w col B r (.slice none 0 0) [] := ⟨[], Row.nil _ _ _ _ _ _, rfl, fun i p q h => by cases h⟩
/-- Colours keep on a world that grows alone. -/
theorem keep_same {w w' : World} {col : Col} (h : Below w.heap.size w w') : Tch 16 16 col col w w' := Tch.of_below h
theorem dnew_no (w : World) (n : Int) (h : n < 128 ∨ ¬ n < 128 ∧ 4096 < n) :
    Calls Try.prog 10 #[.int .i64 n] w fun e w' => e = .returned (.tuple #[.pointer none, .int .i64 22]) ∧ w = w' := by
  rcases h with h | ⟨h, h'⟩
  all_goals
    go_enter Try.func10, Try.ntmps10
    go_wp2_with fail
    go_ret2
    exact ⟨rfl, rfl⟩
def DNew (w : World) (col : Col) (B c lo hi N : Nat) (e : Ending) (w' : World) : Prop := ∃ p col', e = .returned (.tuple #[ptr p, .int .i64 0]) ∧ Tch lo hi col col' w w' ∧ DiskAt w' col' B c p (DS.fresh N p) ∧ w.heap.size ≤ p
theorem dnew_any (w : World) (col : Col) (B c lo hi : Nat) (N : Nat) (h1 : 128 ≤ N) (h2 : N ≤ 4096) (hB : B ≤ w.heap.size) (hc : 16 ≤ c) (hlo : lo ≤ c) (hhi : c + 4 ≤ hi) :
    Calls Try.prog 10 #[.int .i64 N] w fun e w' => DNew w col B c lo hi N e w' := by
  have hmm := @run_makeMap Try.prog
  have h3 : ¬ (N : Int) < 128 := by omega
  have h4 : ¬ (4096 : Int) < (N : Int) := by omega
  obtain ⟨s0, hs0⟩ : ∃ s0, w.heap.size = s0 := ⟨_, rfl⟩
  have fin : ∀ w', w' = ((w.alloc (.map #[] 0)).alloc (.map #[] 0)).alloc (.cells #[.int .i64 N, .map (some w.heap.size), .slice none 0 0, .map (some (w.heap.size + 1)), .int .i64 0] 78) →
      ∃ col', Tch lo hi col col' w w' ∧ DiskAt w' col' B c (w.heap.size + 2) (DS.fresh N (w.heap.size + 2)) := by
    rintro w' rfl
    have e1 : (w.alloc (.map #[] 0)).heap.size = w.heap.size + 1 := by simp
    have e2 : ((w.alloc (.map #[] 0)).alloc (.map #[] 0)).heap.size = w.heap.size + 2 := by simp
    refine ⟨paint (paint (paint col w.heap.size (c + 1)) (w.heap.size + 1) (c + 2)) (w.heap.size + 2) c, ?_, ⟨⟨w.heap.size, w.heap.size + 1, .slice none 0 0, ⟨?_, paint_self _ _ _, by omega⟩, ?_, ?_, Wr.nil _ _ _ _⟩, hc, ⟨h2, h1⟩, by simp [DS.fresh], rfl⟩⟩
    · have e3 : (((w.alloc (.map #[] 0)).alloc (.map #[] 0)).alloc (.cells #[.int .i64 N, .map (some w.heap.size), .slice none 0 0, .map (some (w.heap.size + 1)), .int .i64 0] 78)).heap.size = w.heap.size + 3 := by simp
      exact (((((Tch.refl lo hi col w).alloc _).alloc _).alloc _).paint (Nat.le_refl _) (by omega) (by omega)).paint (by omega) (by omega) (by omega) |>.paint (by omega) (by omega) (by omega)
    · have := Blk.new ((w.alloc (.map #[] 0)).alloc (.map #[] 0)) 78 #[.int .i64 N, .map (some w.heap.size), .slice none 0 0, .map (some (w.heap.size + 1)), .int .i64 0]
      rw [e2] at this
      exact this
    · have k := MapB.made w (paint (paint (paint col w.heap.size (c + 1)) (w.heap.size + 1) (c + 2)) (w.heap.size + 2) c) B (c + 1) N hB (by omega) (by
        rw [paint_other (by omega), paint_other (by omega), paint_self])
      exact k.keep (lo := 16) (hi := 16) ((Tch.refl _ _ _ _).alloc _ |>.alloc _) (by omega) (by omega)
    · have k := MapB.made (w.alloc (.map #[] 0)) (paint (paint (paint col w.heap.size (c + 1)) (w.heap.size + 1) (c + 2)) (w.heap.size + 2) c) B (c + 2) N (by omega) (by omega) (by
        rw [e1, paint_other (by omega), paint_self])
      rw [e1] at k
      exact k.keep (lo := 16) (hi := 16) ((Tch.refl _ _ _ _).alloc _) (by omega) (by omega)
  have FIN := Lib.hid fin
  clear fin hs0
  go_enter Try.func10, Try.ntmps10
  go_wp2_with fail
  go_ret2
  obtain ⟨col', k1, k2⟩ := FIN.out _ rfl
  exact ⟨w.heap.size + 2, col', rfl, k1, k2, Nat.le_add_right _ 2⟩
def DS.write (S : DS) (n : Int) (bs : Bytes) : DS := { S with new := fun j => if j = n then some bs else S.new j, pend := S.pend ++ [(n, bs)], ops := S.ops + 1 }
theorem infoWrite : (Try.prog.info? 51).map (fun i => (i.zero, i.size, i.bytes)) = some (some (.agg #[.int .i64 0, .slice none 0 0]), 2, 32) := by kernel_rfl
theorem dwrite_has (w : World) (col : Col) (B c p : Nat) (S : DS) (n : Int) (v : Value) (h : DiskAt w col B c p S) (hn : S.has n = false) :
    Calls Try.prog 46 #[ptr p, .int .i64 n, v] w fun e w' => e = .returned (.int .i64 5) ∧ w = w' := by
  have HH := Lib.hid (has_any w col B c p S n h)
  rw [hn] at HH
  clear h hn
  go_enter Try.func46, Try.ntmps46
  go_wp2_with fail
  refine HH.out.mono ?_
  rintro e w' ⟨rfl, rfl⟩
  go_wp2_with fail
  go_ret
  exact ⟨rfl, rfl⟩
theorem dwrite_len (w : World) (col : Col) (B c p : Nat) (S : DS) (n : Int) (A : Option Addr) (len cap : Nat) (h : DiskAt w col B c p S) (hn : S.has n = true) (hl : len ≠ 256) :
    Calls Try.prog 46 #[ptr p, .int .i64 n, .slice A len cap] w fun e w' => e = .returned (.int .i64 22) ∧ w = w' := by
  have HH := Lib.hid (has_any w col B c p S n h)
  rw [hn] at HH
  have hne : ((len : Int) != 256) = true := by simp; omega
  clear h hn hl
  go_enter Try.func46, Try.ntmps46
  go_wp2_with fail
  refine HH.out.mono ?_
  rintro e w' ⟨rfl, rfl⟩
  go_wp2_with fail
  go_ret
  exact ⟨rfl, rfl⟩
theorem Dat.of {w : World} {col : Col} {B base : Nat} {v : Value} {bs : Bytes} (h : w.ownsRow base 5 1 v 256 (bvl bs)) (hB : B ≤ base) (hc : ∀ g, v.ownBlock = some g → col g = 1) : Dat w col B v bs := ⟨own_mono h hB, hc⟩
theorem Wr.snoc {w : World} {col : Col} {B r : Nat} {v : Value} {vs : List (Int × Value)} {l : List (Int × Bytes)} {n : Int} {x : Value} {bs : Bytes}
    (h : Row w col B r 51 2 v (l.length + 1) (wcells vs ++ [.int .i64 n, x])) (h1 : vs.map (·.1) = l.map (·.1)) (h2 : ∀ (i : Nat) (p : Int × Value) (q : Int × Bytes), vs[i]? = some p → l[i]? = some q → Dat w col B p.2 q.2) (hd : Dat w col B x bs) :
    Wr w col B r v (l ++ [(n, bs)]) := by
  have hl : vs.length = l.length := by have := congrArg List.length h1; simpa using this
  refine ⟨vs ++ [(n, x)], ?_, by simp [h1], fun i p q hp hq => ?_⟩
  · rw [List.length_append, wcells_append]; exact h
  · rcases Nat.lt_or_ge i l.length with hi | hi
    · rw [List.getElem?_append_left (by omega)] at hp
      rw [List.getElem?_append_left hi] at hq
      exact h2 i p q hp hq
    · rw [List.getElem?_append_right (by omega)] at hp
      rw [List.getElem?_append_right hi] at hq
      rw [hl] at hp
      cases hk : i - l.length with
      | zero =>
        rw [hk] at hp hq
        injection hp with hp
        injection hq with hq
        subst hp hq
        exact hd
      | succ k => rw [hk] at hp; cases hp
theorem dwrite_any (w : World) (col : Col) (B c p : Nat) (S : DS) (n : Int) (A : Option Addr) (cap : Nat) (bs : Bytes) (h : DiskAt w col B c p S) (hn : S.has n = true) (hb : BytesAt w A 256 bs) (hB : B ≤ w.heap.size) (hroom : S.pend.length + S.ops + 2 ≤ 1000000000) :
    Calls Try.prog 46 #[ptr p, .int .i64 n, .slice A 256 cap] w fun e w' => ∃ col', e = .returned (.int .i64 0) ∧ Tch c (c + 4) col col' w w' ∧ DiskAt w' col' B c p (S.write n bs) := by
  have HH := Lib.hid (has_any w col B c p S n h)
  rw [hn] at HH
  have hn2 : 0 ≤ n ∧ n < (S.N : Int) := of_decide_eq_true hn
  obtain ⟨A', hA'⟩ : ∃ a, A = some a := by
    obtain ⟨a, _, h1, _⟩ := hb.at_ (k := 0) (by omega)
    exact ⟨a, h1⟩
  have HC := Lib.hid (Bits.clone_any A 256 cap bs w (by omega) (fun e => by rw [hA'] at e; cases e) hb)
  have HR := Lib.hid h.here
  have hlo := h.lo
  have HN := Lib.hid h.n
  have hne : (((256 : Nat) : Int) != 256) = false := by decide
  obtain ⟨bd, bn, vp, h1, h2, h3, h4⟩ := h.ex
  have K1 := Lib.hid h1
  have M2 := Lib.hid h2
  have M3 := Lib.hid h3
  have R4 := Lib.hid h4
  clear h h1 h2 h3 h4 hn hb hA'
  unfold ptr at *
  go_enter Try.func46, Try.ntmps46
  go_wp2_with fail
  refine HH.out.mono ?_
  rintro e w' ⟨rfl, rfl⟩
  go_wp2_with fail
  refine HC.out.mono ?_
  rintro e w2 ⟨v2, rfl, hb2, ho2⟩
  obtain ⟨g2, cap2, cur2, rfl, hg2, _⟩ := own_form ho2 (by omega)
  -- the clone is painted
  obtain ⟨col2, hcol2⟩ : ∃ col2, col2 = paint col g2 1 := ⟨_, rfl⟩
  have T2 := Lib.hid (show Tch 16 16 col col2 w w2 by rw [hcol2]; exact (Tch.of_below hb2).paint hg2 (ho2.lt _ rfl).2 (by omega))
  have D2 := Lib.hid (show Dat w2 col2 B (.slice (some ⟨g2, 0, none⟩) 256 cap2) bs from Dat.of ho2 hB (fun g e => by injection e with e; subst e; rw [hcol2, paint_self]))
  have hB2 : B ≤ w2.heap.size := Nat.le_trans hB hb2.size
  clear hb2 ho2 hcol2 HH HC
  have K2 := Lib.hid (K1.out.keep T2.out (by omega))
  have N2 := Lib.hid (M2.out.keep T2.out (by omega) (by omega))
  have N3 := Lib.hid (M3.out.keep T2.out (by omega) (by omega))
  have N4 := Lib.hid (R4.out.keep T2.out (by omega) (by omega))
  clear K1 M2 M3 R4
  have c2 : w2.cell? ⟨p, 2, none⟩ = some vp := K2.out.blk.cell 2
  obtain ⟨vs, hr, hv1, hv2⟩ := N4.out.ex
  have HV1 := Lib.hid hv1
  -- the new write's cells
  obtain ⟨w3, hw3⟩ : ∃ w3, w2.alloc (.cells #[.int .i64 n, .slice (some ⟨g2, 0, none⟩) 256 cap2] 51) = w3 := ⟨_, rfl⟩
  have T3 := Lib.hid (show Tch 16 16 col2 col2 w2 w3 by rw [← hw3]; exact (Tch.refl _ _ _ _).alloc _)
  have R3 := Lib.hid (hr.keep T3.out (by omega))
  have XL := Lib.hid (show RowAt w3 (some ⟨w2.heap.size, 0, none⟩) (1 * 2) [.int .i64 n, .slice (some ⟨g2, 0, none⟩) 256 cap2] by rw [← hw3]; exact lit_rowN w2 51 [.int .i64 n, .slice (some ⟨g2, 0, none⟩) 256 cap2] (1 * 2) w2.heap.size rfl rfl)
  have D3 := Lib.hid (D2.out.keep T3.out (by omega))
  have HV2 := Lib.hid (fun (i : Nat) (p : Int × Value) (q : Int × Bytes) hp hq => (hv2 i p q hp hq).keep T3.out (by omega))
  have K3 := Lib.hid (K2.out.keep T3.out (by omega))
  have P2 := Lib.hid (N2.out.keep T3.out (by omega) (by omega))
  have P3 := Lib.hid (N3.out.keep T3.out (by omega) (by omega))
  have hB3 : B ≤ w3.heap.size := Nat.le_trans hB2 T3.out.size
  have HW3 := Lib.hid hw3
  have c2' : w3.cell? ⟨p, 2, none⟩ = some vp := K3.out.blk.cell 2
  clear hr hv1 hv2 hw3 D2 K2 N2 N3 N4
  go_wp2_with (first
    | (at_builtin
       rw [HW3.out]
       refine app_row _ 37 51 (.agg #[.int .i64 0, .slice none 0 0]) 2 32 Try.underlying37 infoWrite rfl (by decide) rfl (.tmp 21) (.tmp 25) rfl col2 B (c + 3) (c + 3) (c + 4) vp S.pend.length (wcells vs) rfl R3.out ⟨by omega, by omega⟩ (some ⟨w2.heap.size, 0, none⟩) 1 1 [.int .i64 n, .slice (some ⟨g2, 0, none⟩) 256 cap2] rfl (fun e => by cases e) XL.out (by intro u hu; simp at hu; rcases hu with rfl | rfl <;> rfl) (by unfold maxLen; omega) (by omega) hB3 ?_
       intro v4 w4 col4 hrow4 ht4 _
       obtain ⟨g4, cap4, cur4, rfl, _⟩ := own_formN hrow4.own (by omega)
       have K4 := Lib.hid (K3.out.keep ht4 (by omega))
       have Q2 := Lib.hid (P2.out.keep ht4 (by omega) (by omega))
       have Q3 := Lib.hid (P3.out.keep ht4 (by omega) (by omega))
       have W4 := Lib.hid (Wr.snoc hrow4 HV1.out (fun i p q hp hq => (HV2.out i p q hp hq).keep ht4 (by omega)) (D3.out.keep ht4 (by omega)))
       have D4 := Lib.hid (D3.out.keep ht4 (by omega))
       have TT4 := Lib.hid (((T2.out.any (lo' := c) (hi' := c + 4) (Nat.le_refl _)).trans (T3.out.any (Nat.le_refl _))).trans (ht4.mono (by omega) (by omega)))
       have c4 : w4.cell? ⟨p, 2, none⟩ = some vp := K4.out.blk.cell 2
       have z4 : w4.frozen? ⟨p, 2, none⟩ = false := K4.out.blk.frozen 2
       have c43 : w4.cell? ⟨p, 3, none⟩ = some (.map (some bn)) := K4.out.blk.cell 3
       have KK5 := Lib.hid (K4.out.set 2 (.slice (some ⟨g4, 0, none⟩) (S.pend.length + 1) cap4))
       have TT5 := Lib.hid (TT4.out.setCell (p := ⟨p, 2, none⟩) (by rw [K4.out.c]; omega) (.slice (some ⟨g4, 0, none⟩) (S.pend.length + 1) cap4))
       have T45 := Lib.hid ((Tch.refl c (c + 1) col4 w4).setCell (p := ⟨p, 2, none⟩) (by rw [K4.out.c]; omega) (.slice (some ⟨g4, 0, none⟩) (S.pend.length + 1) cap4))
       obtain ⟨f5, hf5, hp5⟩ := Q3.out.ex
       have F5 := Lib.hid (hf5.keep T45.out (by omega))
       have P5 := Lib.hid ((hp5.keep T45.out (by omega)).set (n := n) (D4.out.keep T45.out (by omega)))
       have Q5 := Lib.hid (Q2.out.keep T45.out (by omega) (by omega))
       have W5 := Lib.hid (W4.out.keep T45.out (by omega) (by omega))
       clear hrow4 ht4 hf5 hp5)
    | (at_mapUpdate
       refine map_put _ rfl (.tmp 32) (.tmp 33) (.tmp 34) 55 rfl 34 Try.underlying55 col4 B (c + 2) bn S.N f5 rfl F5.out n rfl hn2 (.slice (some ⟨g2, 0, none⟩) 256 cap2) rfl ?_
       intro w6 m6 t6
       have K6 := Lib.hid (KK5.out.keep t6 (by omega))
       have c64 : w6.cell? ⟨p, 4, none⟩ = some (.int .i64 (S.ops : Int)) := K6.out.blk.cell 4
       have z64 : w6.frozen? ⟨p, 4, none⟩ = false := K6.out.blk.frozen 4
       have TT6 := Lib.hid (TT5.out.trans (t6.mono (by omega) (by omega)))
       have KK7 := Lib.hid (K6.out.set 4 (.int .i64 ((S.ops : Int) + 1)))
       have T67 := Lib.hid ((Tch.refl c (c + 1) col4 w6).setCell (p := ⟨p, 4, none⟩) (by rw [K6.out.c]; omega) (.int .i64 ((S.ops : Int) + 1)))
       have TT7 := Lib.hid (TT6.out.setCell (p := ⟨p, 4, none⟩) (by rw [K6.out.c]; omega) (.int .i64 ((S.ops : Int) + 1)))
       have M7 := Lib.hid (show MapB (w6.setCell ⟨p, 4, none⟩ (.int .i64 ((S.ops : Int) + 1))) col4 B (c + 2) bn S.N (fun j => if j = n then some bs else S.new j) from ⟨_, m6.keep T67.out (by omega), (P5.out.keep t6 (by omega)).keep T67.out (by omega)⟩)
       have Q7 := Lib.hid ((Q5.out.keep t6 (by omega) (by omega)).keep T67.out (by omega) (by omega))
       have W7 := Lib.hid ((W5.out.keep t6 (by omega) (by omega)).keep T67.out (by omega) (by omega))
       clear m6 t6)
    | fail)
  go_ret
  exact ⟨col4, rfl, TT7.out, ⟨⟨bd, bn, _, KK7.out, Q7.out, M7.out, W7.out⟩, hlo, HN.out, by simp [DS.write]; omega, HR.out⟩⟩
end Go.Proofs.Ytomoliickggghaa.Mem
