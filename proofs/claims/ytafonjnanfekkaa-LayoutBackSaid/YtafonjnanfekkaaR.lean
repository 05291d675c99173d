
/-
  A LAW for regions that draw their order, walked in the text's order: some operations are taken first (their value is the same in every world that meets S), some are forced (none but they can come up) and are carried out, S being shown anew; where no more of the world turns, the rest is walked still. No program in sight.
-/
import Derived.Deep.RegionHeld3
import Derived.StillTailTactics
import Derived.WalkKit
import Derived.Lib.Hide
namespace Go.Proofs.Ytafonjnanfekkaa
open Go.RowKit
section
variable {P : Program} {ops : Array Oper} {md : Region.Mode} {Q : Exit → Act → World → Prop} {S : World → Prop}

/-- In every world that meets S operation o leaves v in its temporary and does nothing else: by itself, or by a call that leaves the world as it was. -/
def YI (P : Program) (ops : Array Oper) (S : World → Prop) (o : Oper) (v : Value) (a : Act) : Prop :=
  (Region.wanted o (yielded ops a.tmps) = true ∧ ∀ w, S w → (execOp a.eval o).run P w = .ok (.value v) w ∨ ∃ f args, (execOp a.eval o).run P w = .ok (.enter f args) w ∧ Calls P f args w (fun e w' => e = .returned v ∧ w' = w)) ∨
  (Region.wanted o (yielded ops a.tmps) = false ∧ v = undef)
theorem YI.of_same {o : Oper} {v : Value} {a a' : Act} (hy : YI P ops S o v a) (he : execOp a'.eval o = execOp a.eval o) (hw : Region.wanted o (yielded ops a'.tmps) = Region.wanted o (yielded ops a.tmps)) : YI P ops S o v a' := by
  unfold YI at *
  rw [he, hw]
  exact hy
theorem YI.wpOp {i : Nat} {o : Oper} {v : Value} {a : Act} (hi : ops[i]? = some o) (hy : YI P ops S o v a) {K : Act → World → Prop} {w : World} (hS : S w) (h : K (a.put o.dst v) w) : wpOp P ops Q i K a w := by
  unfold Go.wpOp
  simp only [hi]
  rcases hy with ⟨hw, hv⟩ | ⟨hw, rfl⟩
  · rcases hv w hS with hr | ⟨f, args, hr, hc⟩
    · simp only [hw, if_true, Oper.wp, hr, Oper.upon]; exact .inl h
    · simp only [hw, if_true, Oper.wp, hr, Oper.upon]
      exact .inl (hc.mono fun e w' ⟨he, hw'⟩ => by subst he; subst hw'; exact h)
  · simp only [hw, Bool.false_eq_true, if_false]; exact h

/-- Two operations that are apart: a fact that the one keeps goes with it. -/
theorem wpOp_putY {j : Nat} {oi oj : Oper} {v : Value} (hj : ops[j]? = some oj) (hap : oi.apart ops oj = true) (hsj : ∀ cs b, oj.op ≠ .select cs b)
    (hQ : ∀ c a w, Q (.panic c) (a.put oi.dst v) w → Q (.panic c) a w) {Y : Act → Prop} (hYp : ∀ a, Y a → ∀ u, Y (a.put oj.dst u)) (hYd : ∀ (a : Act) d, Y a → Y { a with defers := d :: a.defers })
    {K : Act → World → Prop} {a : Act} {w : World} (hy : Y a) (h : wpOp P ops Q j K (a.put oi.dst v) w) : wpOp P ops Q j (fun a' w' => Y a' ∧ K (a'.put oi.dst v) w') a w := by
  obtain ⟨h1, h2, h3⟩ := Oper.apart_spec hap
  unfold wpOp at *
  simp only [hj] at *
  rw [wanted_put oj a oi.dst v h1] at h
  by_cases hw : Region.wanted oj (yielded ops a.tmps) = true
  · simp only [hw, if_true] at h ⊢
    rcases h with h | ⟨hasks, hlets⟩
    · refine .inl ?_
      unfold Oper.wp at *
      rw [execOp_put oj hsj a oi.dst v h1] at h
      generalize (execOp a.eval oj).run P w = r at *
      cases r with
      | halt x w' =>
        cases x <;> simp only [Oper.upon] at h ⊢
        case panic u => exact hQ _ _ _ h
      | ok n w' =>
        cases n <;> simp only [Oper.upon] at h ⊢
        case value u => exact ⟨hYp a hy u, by rw [← Act.put_comm a v u h2]; exact h⟩
        case skip => exact ⟨hYp a hy _, by rw [← Act.put_comm a v undef h2]; exact h⟩
        case defer d =>
          refine ⟨hYp _ (hYd a d hy) _, ?_⟩
          rw [← Act.put_comm _ v undef h2, ← Act.put_defers]
          exact h
        case enter f args =>
          refine Calls.mono h fun e w'' he => ?_
          cases e with
          | returned u => exact ⟨hYp a hy u, by rw [← Act.put_comm a v u h2]; exact he⟩
          | panicked c => exact hQ _ _ _ he
          | outgrown => exact he
        case row row args => exact Rows.mono h fun u w'' he => ⟨hYp a hy u, by rw [← Act.put_comm a v u h2]; exact he⟩
    · exact .inr ⟨by unfold Oper.asks at *; rw [execOp_put oj hsj a oi.dst v h1] at hasks; exact hasks, hlets⟩
  · simp only [hw] at h ⊢
    exact ⟨hYp a hy _, by rw [← Act.put_comm a v undef h2]; exact h⟩

theorem getD_falseT {listed : Array Bool} {i : Nat} (h : listed.getD i true = false) : listed.getD i false = false := by
  rcases Nat.lt_or_ge i listed.size with h' | h'
  · simp [h'] at h ⊢; exact h
  · simp [Array.getElem?_eq_none h'] at h
theorem wpAnyH_firstY {i : Nat} {oi : Oper} {v : Value} (hi : ops[i]? = some oi) (hsel : ∀ (j : Nat) (o : Oper) cs b, ops[j]? = some o → o.op ≠ .select cs b)
    (hQ : ∀ c a w, Q (.panic c) (a.put oi.dst v) w → Q (.panic c) a w) : ∀ (fuel : Nat) (listed : Array Bool) (a : Act) (w : World),
      (∀ j oj, ops[j]? = some oj → j ≠ i → listed.getD j true = false → (∀ e ∈ oj.after, Region.binds md e = true → e.on ≠ i) → oi.apart ops oj = true) →
      i ∈ Region.ready md ops listed → YI P ops S oi v a → S w →
      wpAnyH P md ops Q S fuel (listed.setIfInBounds i true) (a.put oi.dst v) w → wpAnyH P md ops Q S (fuel + 1) listed a w
  | fuel, listed, a, w, hfree, hr, hy, hS, H => by
    refine ⟨fun h => (by rw [h] at hr; cases hr), fun j hj => ?_⟩
    by_cases hji : j = i
    · subst hji; exact hy.wpOp hi hS ⟨hS, H⟩
    · obtain ⟨hjun, oj, hoj, hall⟩ := mem_ready.1 hj
      cases fuel with
      | zero =>
        have := ready_mono hj hji
        rw [H.1] at this
        cases this
      | succ fuel =>
        have h1 := H.2 j (ready_mono hj hji)
        have hnot : ∀ e ∈ oj.after, Region.binds md e = true → e.on ≠ i := fun e he hb heq => by
          have h1 := hall e he hb
          rw [heq, getD_falseT (mem_ready.1 hr).1] at h1
          cases h1
        have hap := hfree j oj hoj hji hjun hnot
        obtain ⟨a1, a2, a3⟩ := Oper.apart_spec hap
        have h2 := wpOp_putY (Y := fun a' => YI P ops S oi v a') hoj hap (fun cs b => hsel j oj cs b hoj) hQ
          (fun a hy u => hy.of_same (execOp_put oi (fun cs b => hsel i oi cs b hi) a oj.dst u a3) (wanted_put oi a oj.dst u a3)) (fun a d hy => hy.of_same rfl rfl) hy h1
        have hfree' : ∀ k ok, ops[k]? = some ok → k ≠ i → (listed.setIfInBounds j true).getD k true = false →
            (∀ e ∈ ok.after, Region.binds md e = true → e.on ≠ i) → oi.apart ops ok = true := fun k ok hk hki hun hno => by
          refine hfree k ok hk hki ?_ hno
          by_cases hjk : j = k
          · subst hjk; exact hjun
          · rw [getD_set_ne true hjk] at hun; exact hun
        refine wpOp_mono (fun a' w' h3 => ⟨h3.2.1, wpAnyH_firstY hi hsel hQ fuel (listed.setIfInBounds j true) a' w' hfree' (ready_mono hr (Ne.symm hji)) h3.1 h3.2.1 ?_⟩) h2
        rw [Array.setIfInBounds_comm _ _ hji]
        exact h3.2.2

/-- The flags: true: taken first; false: forced. Behind them: the rest may be walked still. -/
def lexMix (md : Region.Mode) (ops : Array Oper) : List Bool → Nat → Array Bool → Bool
  | [], k, listed => Region.lexFrom md ops (ops.size - k) k listed
  | true :: bs, k, listed => ((Region.ready md ops listed).contains k && Region.free md ops listed k) && lexMix md ops bs (k + 1) (listed.setIfInBounds k true)
  | false :: bs, k, listed => decide (Region.ready md ops listed = [k]) && lexMix md ops bs (k + 1) (listed.setIfInBounds k true)

def wpMix (P : Program) (ops : Array Oper) (Q : Exit → Act → World → Prop) (S : World → Prop) : List Bool → List Oper → Act → World → Prop
  | [], l, a, w => wpStill P ops w (fun a' => Q .normal a' w) l a
  | true :: bs, o :: l, a, w => ∃ v, YI P ops S o v a ∧ wpMix P ops Q S bs l (a.put o.dst v) w
  | false :: bs, o :: l, a, w => if Region.wanted o (yielded ops a.tmps) = true then o.wp P a w (fun a' w' => S w' ∧ wpMix P ops Q S bs l a' w') Q else wpMix P ops Q S bs l (a.put o.dst undef) w
  | _ :: _, [], _, _ => False

theorem wpAnyH_of_still {w : World} {Q' : Act → Prop} (hS : S w) (hQ : ∀ a, Q' a → Q .normal a w) : ∀ (fuel : Nat) (listed : Array Bool) (a : Act),
    wpAnyS P md ops w Q' fuel listed a → wpAnyH P md ops Q S fuel listed a w
  | 0, _, _, h => ⟨h.1, hQ _ h.2⟩
  | fuel + 1, _, _, h => ⟨fun h0 => hQ _ (h.1 h0), fun i hi => wpOp_of_stOp (fun a' h' => ⟨hS, wpAnyH_of_still hS hQ fuel _ a' h'⟩) (h.2 i hi)⟩

theorem wpAnyH_of_mix (hs : Region.noSelect ops = true) (hQ : ∀ c (a : Act) d v w, Q (.panic c) (a.put d v) w → Q (.panic c) a w) :
    ∀ (bs : List Bool) (l : List Oper) (k : Nat) (listed : Array Bool) (a : Act) (w : World), (∀ j, l[j]? = ops[k + j]?) → k + l.length = ops.size →
      lexMix md ops bs k listed = true → S w → wpMix P ops Q S bs l a w → wpAnyH P md ops Q S l.length listed a w
  | [], l, k, listed, a, w, hl, hk, hB, hS, h => by
    have hlen : ops.size - k = l.length := by omega
    rw [lexMix, hlen] at hB
    exact wpAnyH_of_still hS (fun _ h => h) _ _ _ (wpAnyS_lex hs l k listed a hl hB h)
  | true :: bs, [], _, _, _, _, _, _, _, _, h => by cases h
  | false :: bs, [], _, _, _, _, _, _, _, _, h => by cases h
  | true :: bs, o :: l, k, listed, a, w, hl, hk, hB, hS, h => by
    have h0 : ops[k]? = some o := by simpa using (hl 0).symm
    simp only [lexMix, Bool.and_eq_true] at hB
    obtain ⟨⟨hr, hf⟩, hB'⟩ := hB
    obtain ⟨v, hy, hK⟩ := h
    exact wpAnyH_firstY h0 (Region.noSelect_spec hs) (fun c a' w' => hQ c a' _ _ w') l.length listed a w (Region.free_spec h0 hf) (by simpa using hr) hy hS
      (wpAnyH_of_mix hs hQ bs l (k + 1) _ _ w (fun j => by have := hl (j + 1); simpa [Nat.add_assoc, Nat.add_comm 1 j] using this) (by simp only [List.length_cons] at hk; omega) hB' hS hK)
  | false :: bs, o :: l, k, listed, a, w, hl, hk, hB, hS, h => by
    have h0 : ops[k]? = some o := by simpa using (hl 0).symm
    simp only [lexMix, Bool.and_eq_true, decide_eq_true_eq] at hB
    obtain ⟨hr, hB'⟩ := hB
    have rec_ := fun a' w' (hS' : S w') (h' : wpMix P ops Q S bs l a' w') => wpAnyH_of_mix hs hQ bs l (k + 1) (listed.setIfInBounds k true) a' w'
      (fun j => by have := hl (j + 1); simpa [Nat.add_assoc, Nat.add_comm 1 j] using this) (by simp only [List.length_cons] at hk; omega) hB' hS' h'
    refine ⟨fun h1 => (by rw [hr] at h1; cases h1), fun i hi => ?_⟩
    rw [hr] at hi
    have hik : i = k := by simpa using hi
    subst hik
    unfold wpOp
    simp only [h0]
    simp only [wpMix] at h
    split
    · rename_i hw
      rw [if_pos hw] at h
      exact .inl (Oper.wp_mono (fun a' w' h' => ⟨h'.1, rec_ a' w' h'.1 h'.2⟩) h)
    · rename_i hw
      rw [if_neg hw] at h
      exact ⟨hS, rec_ _ w hS h⟩

theorem wp_region_mix {id : Nat} {l : List Oper} {a : Act} {w : World} (bs : List Bool) (hm : P.follows .mixedOrders = true)
    (hB : (Region.noSelect l.toArray && lexMix .any l.toArray bs 0 (Array.replicate l.toArray.size false)) = true)
    (hQ : ∀ c (a : Act) d v w, Q (.panic c) (a.put d v) w → Q (.panic c) a w) (hS : S w.drew) (h : wpMix P l.toArray Q S bs l a w.drew) : (Code.region id l.toArray true).wp P Q a w := by
  simp only [Bool.and_eq_true] at hB
  refine wp_region_held_drew hm hS (fun _ => ?_)
  have := wpAnyH_of_mix (md := .any) hB.1 hQ bs l 0 (Array.replicate l.toArray.size false) a w.drew (by simp) (by simp) hB.2 hS h
  simpa using this

/-- As wpMix and wpStill, closed to unfolding. -/
structure MW (P : Program) (ops : Array Oper) (Q : Exit → Act → World → Prop) (S : World → Prop) (bs : List Bool) (l : List Oper) (a : Act) (w : World) : Prop where
  out : wpMix P ops Q S bs l a w
structure SW (P : Program) (ops : Array Oper) (w : World) (R : Act → Prop) (l : List Oper) (a : Act) : Prop where
  out : wpStill P ops w R l a
theorem region_mix {id : Nat} {l : List Oper} {a : Act} {w : World} (bs : List Bool) (hm : P.follows .mixedOrders = true)
    (hB : (Region.noSelect l.toArray && lexMix .any l.toArray bs 0 (Array.replicate l.toArray.size false)) = true)
    (hQ : ∀ c (a : Act) d v w, Q (.panic c) (a.put d v) w → Q (.panic c) a w) (hS : S w.drew) (h : MW P l.toArray Q S bs l a w.drew) : (Code.region id l.toArray true).wp P Q a w :=
  wp_region_mix bs hm hB hQ hS h.out
theorem region_still {id : Nat} {l : List Oper} {a : Act} {w : World} (hm : P.follows .mixedOrders = true) (hB : Region.lexB .any l.toArray = true)
    (h : SW P l.toArray w.drew (fun a' => Q .normal a' w.drew) l a) : (Code.region id l.toArray true).wp P Q a w := wp_region_still_lit hm hB h.out
theorem mix_take {bs : List Bool} {o : Oper} {l : List Oper} {a : Act} {w : World} {v : Value} (hw : Region.wanted o (yielded ops a.tmps) = true) (hy : ∀ w', S w' → (execOp a.eval o).run P w' = .ok (.value v) w')
    (h : ∀ K : Act → Prop, (∀ a', MW P ops Q S bs l a' w → K a') → K (a.put o.dst v)) : MW P ops Q S (true :: bs) (o :: l) a w :=
  ⟨⟨v, .inl ⟨hw, fun w' hs => .inl (hy w' hs)⟩, (h (fun a' => MW P ops Q S bs l a' w) fun _ h => h).out⟩⟩
theorem mix_call {bs : List Bool} {o : Oper} {l : List Oper} {a : Act} {w : World} {v : Value} {f : FuncId} {args : Array Value} (hw : Region.wanted o (yielded ops a.tmps) = true) (hy : ∀ w', S w' → (execOp a.eval o).run P w' = .ok (.enter f args) w')
    (hc : ∀ w', S w' → Calls P f args w' fun e w'' => e = .returned v ∧ w'' = w') (h : ∀ K : Act → Prop, (∀ a', MW P ops Q S bs l a' w → K a') → K (a.put o.dst v)) : MW P ops Q S (true :: bs) (o :: l) a w :=
  ⟨⟨v, .inl ⟨hw, fun w' hs => .inr ⟨f, args, hy w' hs, hc w' hs⟩⟩, (h (fun a' => MW P ops Q S bs l a' w) fun _ h => h).out⟩⟩
theorem mix_skip {bs : List Bool} {o : Oper} {l : List Oper} {a : Act} {w : World} (hw : Region.wanted o (yielded ops a.tmps) = false)
    (h : ∀ K : Act → Prop, (∀ a', MW P ops Q S bs l a' w → K a') → K (a.put o.dst undef)) : MW P ops Q S (true :: bs) (o :: l) a w :=
  ⟨⟨undef, .inr ⟨hw, rfl⟩, (h (fun a' => MW P ops Q S bs l a' w) fun _ h => h).out⟩⟩
theorem mix_do {E : Prop} {bs : List Bool} {o : Oper} {l : List Oper} {a : Act} {w : World} (h : ∀ K : Act → World → Prop, Hid (∀ a' w', S w' → MW P ops Q S bs l a' w' → K a' w') →
    if Region.wanted o (yielded ops a.tmps) = true then o.wp P a w K Q else E) (hw : Region.wanted o (yielded ops a.tmps) = true) : MW P ops Q S (false :: bs) (o :: l) a w := by
  have := h (fun a' w' => S w' ∧ wpMix P ops Q S bs l a' w') (Lib.hid fun a' w' h1 h2 => ⟨h1, h2.out⟩)
  refine ⟨?_⟩
  simp only [wpMix]
  rw [if_pos hw] at this ⊢
  exact this
theorem mix_pass {bs : List Bool} {o : Oper} {l : List Oper} {a : Act} {w : World} (hw : Region.wanted o (yielded ops a.tmps) = false)
    (h : ∀ K : Act → Prop, (∀ a', MW P ops Q S bs l a' w → K a') → K (a.put o.dst undef)) : MW P ops Q S (false :: bs) (o :: l) a w := by
  have := h _ fun _ h => h
  refine ⟨?_⟩
  simp only [wpMix]
  rw [if_neg (by rw [hw]; decide)]
  exact this.out
theorem mix_still {l : List Oper} {a : Act} {w : World} (h : SW P ops w (fun a' => Q .normal a' w) l a) : MW P ops Q S [] l a w := ⟨h.out⟩
theorem mix_end {a : Act} {w : World} (h : Q .normal a w) : MW P ops Q S [] [] a w := ⟨h⟩
theorem still_end {R : Act → Prop} {a : Act} {w : World} (h : R a) : SW P ops w R [] a := ⟨h⟩
theorem still_take {R : Act → Prop} {o : Oper} {l : List Oper} {a : Act} {w : World} {v : Value} (hw : Region.wanted o (yielded ops a.tmps) = true) (hy : (execOp a.eval o).run P w = .ok (.value v) w)
    (h : ∀ K : Act → Prop, (∀ a', SW P ops w R l a' → K a') → K (a.put o.dst v)) : SW P ops w R (o :: l) a := by
  have := h (fun a' => SW P ops w R l a') fun _ h => h
  refine ⟨?_⟩
  simp only [wpStill]
  rw [if_pos hw]
  simp only [Oper.still, hy, Oper.stillUpon]
  exact ⟨trivial, this.out⟩
theorem still_skip {R : Act → Prop} {o : Oper} {l : List Oper} {a : Act} {w : World} (hw : Region.wanted o (yielded ops a.tmps) = false)
    (h : ∀ K : Act → Prop, (∀ a', SW P ops w R l a' → K a') → K (a.put o.dst undef)) : SW P ops w R (o :: l) a := by
  have := h (fun a' => SW P ops w R l a') fun _ h => h
  refine ⟨?_⟩
  simp only [wpStill]
  rw [if_neg (by rw [hw]; decide)]
  exact this.out
theorem still_call_ {R : Act → Prop} {o : Oper} {l : List Oper} {a : Act} {w : World} {v : Value} {f : FuncId} {args : Array Value} (hw : Region.wanted o (yielded ops a.tmps) = true) (hy : (execOp a.eval o).run P w = .ok (.enter f args) w)
    (hc : Calls P f args w fun e w'' => e = .returned v ∧ w'' = w) (h : ∀ K : Act → Prop, (∀ a', SW P ops w R l a' → K a') → K (a.put o.dst v)) : SW P ops w R (o :: l) a := by
  have := h (fun a' => SW P ops w R l a') fun _ h => h
  refine ⟨?_⟩
  simp only [wpStill]
  rw [if_pos hw]
  simp only [Oper.still, hy, Oper.stillUpon]
  exact ⟨trivial, v, hc, this.out⟩
end
end Go.Proofs.Ytafonjnanfekkaa
