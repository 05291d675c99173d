
/-
  THE WALK of layout.UnpackGroups.
  THE WALKS of the document's PackGroups and UnpackGroups.
  THE FIRST TWO BLOCKS, plain: there and back; a bit that is turned.
  A LAW for regions that draw their order, walked step by step: operations are taken first where their value is the same in every world that meets S; S is asked anew only behind those operations that may come up while such a one is still to come ('need'); what is left branches over what may come up. No program in sight.
  THE WALK of log's fields.add.
  THE WALKS of log's small functions: most, cursor.next, parts, Need.
  THE WALKS of log's small functions, more: parts, Need; the document's Need.
  THE WALK of log.magic.
-/
import Derived.Test.YtifamhmiibhohaaKR5N6
import Derived.Test.YtifamhmiibhohaaKR5N5
import Derived.Test.YtifamhmiibhohaaKR5N3
import Derived.Test.YtifamhmiibhohaaKR5N2
namespace Go.Proofs.Ytifamhmiibhohaa.Lay
open Go.RowKit Go.Proofs.Ytifamhmiibhohaa.Wire
set_option maxHeartbeats 8000000
set_option maxRecDepth 100000
set_option linter.unusedVariables false
set_option linter.unusedSimpArgs false

end Go.Proofs.Ytifamhmiibhohaa.Lay

namespace Go.Proofs.Ytifamhmiibhohaa.Lay
open Go.RowKit Go.Proofs.Ytifamhmiibhohaa.Wire
set_option maxHeartbeats 8000000
set_option maxRecDepth 100000
set_option linter.unusedVariables false
set_option linter.unusedSimpArgs false

/-- Rows of elements of two types never share a block. -/
theorem own_ne {w : World} {base base' s s' n n' : Nat} {t t' : TypeId} {v v' : Value} {xs xs' : List Value} (h : w.ownsRow base t s v n xs) (h' : w.ownsRow base' t' s' v' n' xs') (ht : t ≠ t') : v.ownBlock = none ∨ v.ownBlock ≠ v'.ownBlock := by
  rcases h.2 with ⟨e, _⟩ | ⟨g, cap, cs, e, _, hb, _⟩
  · subst e; exact .inl rfl
  · rcases h'.2 with ⟨e', _⟩ | ⟨g', cap', cs', e', _, hb', _⟩
    · subst e e'; exact .inr (by simp [Value.ownBlock])
    · subst e e'
      refine .inr fun hh => ht ?_
      have hgg : g = g' := by simpa [Value.ownBlock] using hh
      subst hgg
      rw [hb] at hb'
      injection hb' with hb'
      injection hb'

end Go.Proofs.Ytifamhmiibhohaa.Lay

namespace Go.Proofs.Ytifamhmiibhohaa.Lay
open Go.RowKit Go.Proofs.Ytifamhmiibhohaa.Wire
set_option linter.unusedVariables false
set_option linter.unusedSimpArgs false

/-- What was packed is read where it lies. -/
theorem uf_pre {bs t : List UInt8} {l : List Nat} {ws : List Int} (hbs : bs = pre l ws l.length ++ t) (hl : l.length = ws.length) (hw : wok ws = true) (hz : ∀ p ∈ l.zip ws, p.1 < 256 ^ p.2.toNat)
    {k x : Nat} {z : Int} (hx : l[k]? = some x) (hwz : ws[k]? = some z) {p : Int} (hp : (ws.take k).sum = p) : uf bs p z = (x : Int) := by
  subst hp
  have hun := unpacks_pre l ws t hl hw (zip_fits hz)
  have hat := unpacks_at ws bs k z hw hwz
  rw [hbs, hun, ← hbs, hx] at hat
  have hxn : x = num ((bs.drop ((ws.take k).sum).toNat).take z.toNat) := by injection hat
  obtain ⟨z1, z2⟩ := wok_at hw hwz
  obtain ⟨s0, s1⟩ := wsum_mono hw k
  obtain ⟨s2, s3⟩ := wsum_mono hw (k + 1)
  have hss := wsum_succ hwz
  have hpl := pre_length l ws l.length hl hw
  rw [hl, List.take_length, ← hl] at hpl
  have hbl : (ws.sum : Int) ≤ bs.length := by rw [hbs, List.length_append]; omega
  have hf : fits bs.length (ws.take k).sum z = true := fits_mk z1 z2 s0 (by omega)
  show ((getX bs (ws.take k).sum z : Nat) : Int) = _
  rw [getX, if_pos hf, sub, ← hxn]
/-- A sealed block begins with what was packed. -/
theorem sealed_pre {l : List Nat} {ws : List Int} (seed : BitVec 32) (hm : pmay l ws 256 = true) (hz : ∀ p ∈ l.zip ws, p.1 < 256 ^ p.2.toNat) (hs : ws.sum ≤ 252) :
    ∃ t, sealB seed (packB l ws 256) = pre l ws l.length ++ t ∧ sealedB seed (sealB seed (packB l ws 256)) = true ∧ (sealB seed (packB l ws 256)).length = 256 := by
  have hm' := hm
  simp only [pmay, Bool.and_eq_true, decide_eq_true_eq] at hm'
  obtain ⟨m1, m2, m3, m4⟩ := hm'
  obtain ⟨_, e2, e3⟩ := packB_full hm hz (by omega)
  have e3' : (packB l ws 256).length = 256 := e3
  have hpl := pre_length l ws l.length m1 m2
  rw [m1, List.take_length, ← m1] at hpl
  refine ⟨(List.replicate ((256 : Int).toNat - (pre l ws l.length).length) (0 : UInt8)).take (252 - (pre l ws l.length).length) ++ le 4 (crc seed ((packB l ws 256).take 252)).toNat, ?_, sealed_seal _ _ (by omega), by rw [sealB_length]; exact e3'⟩
  rw [sealB, if_pos (by omega), e3', ← List.append_assoc]
  congr 1
  rw [e2, List.take_append, List.take_of_length_le (by omega)]
/-- What was packed, with one byte turned, is none. -/
theorem us_turned {bs : List UInt8} {j : Nat} {x y : UInt8} (h : sealedB 0#32 bs = true) (hj : bs[j]? = some x) (hxy : x ≠ y) : usOk (bs.set j y) = false := by
  have ht := turned_unsealed 0#32 bs j x y h hj hxy
  cases hu : usOk (bs.set j y)
  · rfl
  · exfalso
    have hlen := usOk_len hu
    simp only [usOk, Bool.and_eq_true, beq_iff_eq] at hu
    obtain ⟨hok, hbs⟩ := hu
    have : sealedB 0#32 (bs.set j y) = true := by
      rw [supB, if_pos hok] at hbs
      have h4 : 4 ≤ (packB (superL (uf (bs.set j y) 6 4) (uf (bs.set j y) 10 4) (uf (bs.set j y) 14 4) (uf (bs.set j y) 18 4) (uf (bs.set j y) 22 4) (uf (bs.set j y) 26 4) (uf (bs.set j y) 30 4) (uf (bs.set j y) 34 4) (ucl (bs.set j y))) superWs 256).length := by
        have := congrArg List.length hbs
        rw [sealB_length, hlen] at this
        omega
      rw [hbs]
      exact sealed_seal _ _ h4
    rw [ht] at this
    cases this
theorem super_back {B P I J fb fi o m : Int} {cl : Bool} (hok : supOk B P I J fb fi o m = true) :
    usV (supB B P I J fb fi o m cl) = supV B P I J fb fi o m cl ∧ usE (supB B P I J fb fi o m cl) = 0 ∧ sealedB 0#32 (supB B P I J fb fi o m cl) = true ∧ (supB B P I J fb fi o m cl).length = 256 := by
  obtain ⟨hg, c1, c2, c3, c4⟩ := supOk_parts hok
  have hn := sup_nat hg c1 c2 c3 c4
  have hz := super_zip (cl := cl) hn
  obtain ⟨⟨z0, _⟩, ⟨z1, _⟩, ⟨z2, _⟩, ⟨z3, _⟩, ⟨z4, _⟩, ⟨z5, _⟩, ⟨z6, _⟩, ⟨z7, _⟩⟩ := hn
  obtain ⟨t, ht, hs, hl⟩ := sealed_pre 0#32 (super_may B P I J fb fi o m cl) hz (by decide)
  have hb : supB B P I J fb fi o m cl = sealB 0#32 (packB (superL B P I J fb fi o m cl) superWs 256) := by simp [supB, hok]
  rw [← hb] at ht hs hl
  generalize hbs : supB B P I J fb fi o m cl = bs at *
  have hw : wok superWs = true := by decide
  have u2 : uf bs 6 4 = B := (uf_pre ht rfl hw hz (k := 2) rfl rfl rfl).trans (Int.toNat_of_nonneg z0)
  have u3 : uf bs 10 4 = P := (uf_pre ht rfl hw hz (k := 3) rfl rfl rfl).trans (Int.toNat_of_nonneg z1)
  have u4 : uf bs 14 4 = I := (uf_pre ht rfl hw hz (k := 4) rfl rfl rfl).trans (Int.toNat_of_nonneg z2)
  have u5 : uf bs 18 4 = J := (uf_pre ht rfl hw hz (k := 5) rfl rfl rfl).trans (Int.toNat_of_nonneg z3)
  have u6 : uf bs 22 4 = fb := (uf_pre ht rfl hw hz (k := 6) rfl rfl rfl).trans (Int.toNat_of_nonneg z4)
  have u7 : uf bs 26 4 = fi := (uf_pre ht rfl hw hz (k := 7) rfl rfl rfl).trans (Int.toNat_of_nonneg z5)
  have u8 : uf bs 30 4 = o := (uf_pre ht rfl hw hz (k := 8) rfl rfl rfl).trans (Int.toNat_of_nonneg z6)
  have u9 : uf bs 34 4 = m := (uf_pre ht rfl hw hz (k := 9) rfl rfl rfl).trans (Int.toNat_of_nonneg z7)
  have u10 : uf bs 38 1 = (((if cl then 1 else 0 : Nat)) : Int) := uf_pre ht rfl hw hz (k := 10) rfl rfl rfl
  have hcl : ucl bs = cl := by unfold ucl; rw [u10]; cases cl <;> rfl
  have huo : usOk bs = true := by simp [usOk, u2, u3, u4, u5, u6, u7, u8, u9, hcl, hok, hbs]
  refine ⟨?_, by simp [usE, huo], hs, hl⟩
  simp [usV, huo, u2, u3, u4, u5, u6, u7, u8, u9, hcl]
theorem groups_back {gs : List Grp} (hok : gsOk gs = true) : ugX (gB gs) gs.length = gs ∧ ugE (gB gs) gs.length = 0 := by
  have h' := hok
  simp only [gsOk, Bool.and_eq_true] at h'
  obtain ⟨hn1, hn2⟩ := rg_true h'.1
  have hll : (gL gs).length = (gWs gs.length).length := by rw [gL_length]; simp [gWs]
  have hm : pmay (gL gs) (gWs gs.length) 256 = true := by
    have h2 := gWs_wok gs.length
    have h3 : (gWs gs.length).sum ≤ 256 := by rw [gWs_sum]; omega
    simp [pmay, hll, h2, h3]
  have hz : ∀ p ∈ (gL gs).zip (gWs gs.length), p.1 < 256 ^ p.2.toNat := fun p hp => by
    obtain ⟨h1, h2⟩ := List.of_mem_zip (a := p.1) (b := p.2) hp
    have h3 := gL_le h'.2 _ h1
    simp only [gWs, List.mem_replicate] at h2
    rw [h2.2]
    show p.1 < 256 ^ 4
    omega
  obtain ⟨t, ht, _, _⟩ := sealed_pre 1#32 hm hz (by rw [gWs_sum]; omega)
  have hb : gB gs = sealB 1#32 (packB (gL gs) (gWs gs.length) 256) := by simp [gB, hok]
  rw [← hb] at ht
  have hsum : ∀ q : Nat, q ≤ 3 * gs.length → ((gWs gs.length).take q).sum = 4 * (q : Int) := fun q hq => by
    have : ∀ m : Nat, (List.replicate m (4 : Int)).sum = 4 * (m : Int) := fun m => by
      induction m with
      | zero => rfl
      | succ m ih => rw [List.replicate_succ, List.sum_cons, ih]; omega
    rw [gWs, List.take_replicate, this, Nat.min_eq_left hq]
  have hws : ∀ q : Nat, q < 3 * gs.length → (gWs gs.length)[q]? = some 4 := fun q hq => by simp [gWs, hq]
  have hu : ugs (gB gs) gs.length = gs := by
    apply List.ext_getElem?
    intro k
    by_cases hk : k < gs.length
    · obtain ⟨g, hg⟩ : ∃ g, gs[k]? = some g := ⟨_, List.getElem?_eq_getElem hk⟩
      rw [ugs_at hk, hg]
      have hgk := gOk1_parts (List.all_eq_true.1 h'.2 g (List.mem_of_getElem? hg))
      obtain ⟨⟨a0, _⟩, ⟨b0, _⟩, ⟨c0, _⟩⟩ := hgk
      obtain ⟨f0, f1, f2⟩ := flat3_at (fun g : Grp => g.1.toNat) (fun g => g.2.1.toNat) (fun g => g.2.2.toNat) gs k g hg
      have e0 := uf_pre ht hll (gWs_wok _) hz (k := k * 3) f0 (hws _ (by omega)) (p := 12 * (k : Int)) (by rw [hsum _ (by omega)]; omega)
      have e1 := uf_pre ht hll (gWs_wok _) hz (k := k * 3 + 1) f1 (hws _ (by omega)) (p := 12 * (k : Int) + 4) (by rw [hsum _ (by omega)]; omega)
      have e2 := uf_pre ht hll (gWs_wok _) hz (k := k * 3 + 2) f2 (hws _ (by omega)) (p := 12 * (k : Int) + 8) (by rw [hsum _ (by omega)]; omega)
      rw [e0, e1, e2, Int.toNat_of_nonneg a0, Int.toNat_of_nonneg b0, Int.toNat_of_nonneg c0]
    · rw [List.getElem?_eq_none (by rw [ugs_length]; omega), List.getElem?_eq_none (by omega)]
  have huo : ugOk (gB gs) gs.length = true := by simp [ugOk, h'.1, hu, hok]
  exact ⟨by simp [ugX, huo, hu], by simp [ugE, huo, h'.1]⟩
end Go.Proofs.Ytifamhmiibhohaa.Lay

namespace Go.Proofs.Ytifamhmiibhohaa
open Go.RowKit
section
variable {P : Program} {ops : Array Oper} {md : Region.Mode} {Q : Exit → Act → World → Prop} {S : World → Prop} {need : Nat → Bool}

/-- Behind operation i S holds, where it is needed. -/
def wpAnyN (P : Program) (md : Region.Mode) (ops : Array Oper) (Q : Exit → Act → World → Prop) (S : World → Prop) (need : Nat → Bool) : Nat → Array Bool → Act → World → Prop
  | 0, listed, a, w => Region.ready md ops listed = [] ∧ Q .normal a w
  | fuel + 1, listed, a, w =>
    (Region.ready md ops listed = [] → Q .normal a w) ∧
    ∀ i ∈ Region.ready md ops listed, wpOp P ops Q i (fun a' w' => (need i = true → S w') ∧ wpAnyN P md ops Q S need fuel (listed.setIfInBounds i true) a' w') a w
theorem wpAny_of_need : ∀ (fuel : Nat) (listed : Array Bool) (a : Act) (w : World), wpAnyN P md ops Q S need fuel listed a w → wpAny P md ops Q fuel listed a w
  | 0, _, _, _, h => h
  | fuel + 1, _, _, _, h => ⟨h.1, fun i hi => wpOp_mono (fun a' w' h' => wpAny_of_need fuel _ a' w' h'.2) (h.2 i hi)⟩

/-- What is listed has all listed that it waits for. -/
def Closed (md : Region.Mode) (ops : Array Oper) (listed : Array Bool) : Prop :=
  ∀ j oj, ops[j]? = some oj → listed.getD j false = true → ∀ e ∈ oj.after, Region.binds md e = true → listed.getD e.on false = true
theorem Closed.start (md : Region.Mode) (ops : Array Oper) (n : Nat) : Closed md ops (Array.replicate n false) := fun j oj _ h => by
  rw [getD_replicate_false] at h; cases h
theorem Closed.set {listed : Array Bool} {i : Nat} (hc : Closed md ops listed) (hi : i ∈ Region.ready md ops listed) : Closed md ops (listed.setIfInBounds i true) := by
  obtain ⟨_, oi, hoi, hall⟩ := mem_ready.1 hi
  intro j oj hj hl e he hb
  by_cases hij : i = j
  · subst hij
    have : oj = oi := Option.some.inj (hj.symm.trans hoi)
    subst this
    exact getD_set_true (hall e he hb)
  · rw [getD_set_ne false hij] at hl
    exact getD_set_true (hc j oj hj hl e he hb)
/-- j waits for k, maybe through others. -/
inductive Waits (md : Region.Mode) (ops : Array Oper) (k : Nat) : Nat → Prop
  | one {j : Nat} : Region.waitsFor md ops j k = true → Waits md ops k j
  | more {j m : Nat} : Region.waitsFor md ops j m = true → Waits md ops k m → Waits md ops k j
theorem Waits.listed {k j : Nat} {listed : Array Bool} (h : Waits md ops k j) (hc : Closed md ops listed) : listed.getD j false = true → listed.getD k false = true := by
  induction h with
  | one h =>
    intro hl
    obtain ⟨oj, hoj, e, he, hb, hon⟩ := Region.waitsFor_spec h
    have := hc _ oj hoj hl e he hb
    rwa [hon] at this
  | more h _ ih =>
    intro hl
    obtain ⟨oj, hoj, e, he, hb, hon⟩ := Region.waitsFor_spec h
    have := hc _ oj hoj hl e he hb
    rw [hon] at this
    exact ih this
theorem Waits.ready {k j : Nat} {listed : Array Bool} (h : Waits md ops k j) (hc : Closed md ops listed) (hr : j ∈ Region.ready md ops listed) : listed.getD k false = true := by
  obtain ⟨_, oj, hoj, hall⟩ := mem_ready.1 hr
  cases h with
  | one h =>
    obtain ⟨o', ho', e, he, hb, hon⟩ := Region.waitsFor_spec h
    have : o' = oj := Option.some.inj (ho'.symm.trans hoj)
    subst this
    have := hall e he hb
    rwa [hon] at this
  | more h hm =>
    obtain ⟨o', ho', e, he, hb, hon⟩ := Region.waitsFor_spec h
    have : o' = oj := Option.some.inj (ho'.symm.trans hoj)
    subst this
    have := hall e he hb
    rw [hon] at this
    exact hm.listed hc this
/-- Who waits for k, reckoned in the text's order: a list of places. -/
def waiters (md : Region.Mode) (ops : Array Oper) (k : Nat) : Nat → List Nat
  | 0 => []
  | n + 1 => let l := waiters md ops k n; if Region.waitsFor md ops n k || l.any (fun m => Region.waitsFor md ops n m) then n :: l else l
theorem waiters_spec {k : Nat} : ∀ (n j : Nat), j ∈ waiters md ops k n → Waits md ops k j
  | 0, j, h => by simp [waiters] at h
  | n + 1, j, h => by
    simp only [waiters] at h
    split at h
    · rename_i hc
      rcases List.mem_cons.1 h with rfl | h
      · simp only [Bool.or_eq_true, List.any_eq_true] at hc
        rcases hc with hc | ⟨m, hm, hc⟩
        · exact .one hc
        · exact .more hc (waiters_spec _ m hm)
      · exact waiters_spec n j h
    · exact waiters_spec n j h
/-- May operation i be taken first now? -/
def takeOk (md : Region.Mode) (ops : Array Oper) (need : Nat → Bool) (listed : Array Bool) (i : Nat) : Bool :=
  Region.noSelect ops && ((Region.ready md ops listed).contains i && (Region.free md ops listed i &&
    (let l := waiters md ops i ops.size; (List.range ops.size).all fun j => need j || (listed.getD j true || l.contains j))))

theorem wpAnyN_first {i : Nat} {oi : Oper} {v : Value} (hi : ops[i]? = some oi) (hsel : ∀ (j : Nat) (o : Oper) cs b, ops[j]? = some o → o.op ≠ .select cs b)
    (hQ : ∀ c a w, Q (.panic c) (a.put oi.dst v) w → Q (.panic c) a w) : ∀ (fuel : Nat) (listed : Array Bool) (a : Act) (w : World),
      Closed md ops listed → (∀ j, need j = false → listed.getD j true = false → Waits md ops i j) →
      (∀ j oj, ops[j]? = some oj → j ≠ i → listed.getD j true = false → (∀ e ∈ oj.after, Region.binds md e = true → e.on ≠ i) → oi.apart ops oj = true) →
      i ∈ Region.ready md ops listed → YI P ops S oi v a → S w →
      wpAnyN P md ops Q S need fuel (listed.setIfInBounds i true) (a.put oi.dst v) w → wpAnyN P md ops Q S need (fuel + 1) listed a w
  | fuel, listed, a, w, hcl, hwt, hfree, hr, hy, hS, H => by
    refine ⟨fun h => (by rw [h] at hr; cases hr), fun j hj => ?_⟩
    by_cases hji : j = i
    · subst hji; exact hy.wpOp hi hS ⟨fun _ => hS, H⟩
    · obtain ⟨hjun, oj, hoj, hall⟩ := mem_ready.1 hj
      have hiun := getD_falseT (mem_ready.1 hr).1
      have hneed : need j = true := by
        cases hn : need j
        · have := (hwt j hn hjun).ready hcl hj
          rw [hiun] at this; cases this
        · rfl
      cases fuel with
      | zero =>
        have := ready_mono hj hji
        rw [H.1] at this
        cases this
      | succ fuel =>
        have h1 := H.2 j (ready_mono hj hji)
        have hnot : ∀ e ∈ oj.after, Region.binds md e = true → e.on ≠ i := fun e he hb heq => by
          have h1 := hall e he hb
          rw [heq, hiun] at h1
          cases h1
        have hap := hfree j oj hoj hji hjun hnot
        obtain ⟨a1, a2, a3⟩ := Oper.apart_spec hap
        have h2 := wpOp_putY (Y := fun a' => YI P ops S oi v a') hoj hap (fun cs b => hsel j oj cs b hoj) hQ
          (fun a hy u => hy.of_same (execOp_put oi (fun cs b => hsel i oi cs b hi) a oj.dst u a3) (wanted_put oi a oj.dst u a3)) (fun a d hy => hy.of_same rfl rfl) hy h1
        have hun' : ∀ k, (listed.setIfInBounds j true).getD k true = false → listed.getD k true = false := fun k hun => by
          by_cases hjk : j = k
          · subst hjk; exact hjun
          · rwa [getD_set_ne true hjk] at hun
        refine wpOp_mono (fun a' w' h3 => ⟨fun _ => h3.2.1 hneed, wpAnyN_first hi hsel hQ fuel (listed.setIfInBounds j true) a' w' (hcl.set hj) (fun k hk hun => hwt k hk (hun' k hun))
          (fun k ok hk hki hun hno => hfree k ok hk hki (hun' k hun) hno) (ready_mono hr (Ne.symm hji)) h3.1 (h3.2.1 hneed) ?_⟩) h2
        rw [Array.setIfInBounds_comm _ _ hji]
        exact h3.2.2

/-- As wpAnyN, closed to unfolding. -/
structure NW (P : Program) (md : Region.Mode) (ops : Array Oper) (Q : Exit → Act → World → Prop) (S : World → Prop) (need : Nat → Bool) (fuel : Nat) (listed : Array Bool) (a : Act) (w : World) : Prop where
  out : Closed md ops listed → wpAnyN P md ops Q S need fuel listed a w
theorem region_need {id : Nat} {a : Act} {w : World} (S : World → Prop) (need : Nat → Bool) (hm : P.follows .mixedOrders = true)
    (h : NW P .any ops Q S need ops.size (Array.replicate ops.size false) a w.drew) : (Code.region id ops true).wp P Q a w :=
  wp_region_any hm (wpAny_of_need _ _ _ _ (h.out (Closed.start _ _ _)))
theorem region_need_at {id : Nat} {a : Act} {w v : World} (S : World → Prop) (need : Nat → Bool) (hv : w.drew = v) (hm : P.follows .mixedOrders = true)
    (h : NW P .any ops Q S need ops.size (Array.replicate ops.size false) a v) : (Code.region id ops true).wp P Q a w := by
  subst hv; exact region_need S need hm h
theorem takeOk_spec {listed : Array Bool} {i : Nat} (h : takeOk md ops need listed i = true) : Region.noSelect ops = true ∧ i ∈ Region.ready md ops listed ∧ Region.free md ops listed i = true ∧
    ∀ j, need j = false → listed.getD j true = false → j < ops.size → Waits md ops i j := by
  simp only [takeOk, Bool.and_eq_true, List.all_eq_true, List.mem_range, Bool.or_eq_true] at h
  refine ⟨h.1, by simpa using h.2.1, h.2.2.1, fun j hn hu hj => ?_⟩
  rcases h.2.2.2 j hj with h' | h' | h'
  · rw [hn] at h'; cases h'
  · rw [hu] at h'; cases h'
  · exact waiters_spec _ j (by simpa using h')
theorem nw_put {i fuel : Nat} {oi : Oper} {v : Value} {listed : Array Bool} {a : Act} {w : World} (hi : ops[i]? = some oi) (hsz : listed.size = ops.size) (hk : takeOk md ops need listed i = true) (hQ : ∀ c (a : Act) d v w, Q (.panic c) (a.put d v) w → Q (.panic c) a w)
    (hy : YI P ops S oi v a) (hS : S w) (h : NW P md ops Q S need fuel (listed.setIfInBounds i true) (a.put oi.dst v) w) : NW P md ops Q S need (fuel + 1) listed a w := by
  obtain ⟨h1, h2, h3, h4⟩ := takeOk_spec hk
  refine ⟨fun hc => wpAnyN_first hi (Region.noSelect_spec h1) (fun c a w => hQ c a _ _ w) fuel listed a w hc (fun j hn hu => h4 j hn hu ?_) (Region.free_spec hi h3) h2 hy hS (h.out (hc.set h2))⟩
  rcases Nat.lt_or_ge j listed.size with h | h
  · omega
  · rw [Array.getD_eq_getD_getElem?, Array.getElem?_eq_none h] at hu; cases hu
theorem nw_take {i fuel : Nat} {oi : Oper} {v : Value} {listed : Array Bool} {a : Act} {w : World} (hi : ops[i]? = some oi) (hsz : listed.size = ops.size) (hk : takeOk md ops need listed i = true) (hQ : ∀ c (a : Act) d v w, Q (.panic c) (a.put d v) w → Q (.panic c) a w) (hS : S w)
    (hw : Region.wanted oi (yielded ops a.tmps) = true) (hy : ∀ w', S w' → (execOp a.eval oi).run P w' = .ok (.value v) w')
    (h : ∀ K : Act → Prop, (∀ a', NW P md ops Q S need fuel (listed.setIfInBounds i true) a' w → K a') → K (a.put oi.dst v)) : NW P md ops Q S need (fuel + 1) listed a w :=
  nw_put hi hsz hk hQ (.inl ⟨hw, fun w' hs => .inl (hy w' hs)⟩) hS (h (fun a' => NW P md ops Q S need fuel (listed.setIfInBounds i true) a' w) fun _ h => h)
theorem nw_skip {i fuel : Nat} {oi : Oper} {listed : Array Bool} {a : Act} {w : World} (hi : ops[i]? = some oi) (hsz : listed.size = ops.size) (hk : takeOk md ops need listed i = true) (hQ : ∀ c (a : Act) d v w, Q (.panic c) (a.put d v) w → Q (.panic c) a w) (hS : S w)
    (hw : Region.wanted oi (yielded ops a.tmps) = false)
    (h : ∀ K : Act → Prop, (∀ a', NW P md ops Q S need fuel (listed.setIfInBounds i true) a' w → K a') → K (a.put oi.dst undef)) : NW P md ops Q S need (fuel + 1) listed a w :=
  nw_put hi hsz hk hQ (.inr ⟨hw, rfl⟩) hS (h (fun a' => NW P md ops Q S need fuel (listed.setIfInBounds i true) a' w) fun _ h => h)
theorem nw_call {i fuel : Nat} {oi : Oper} {v : Value} {f : FuncId} {args : Array Value} {listed : Array Bool} {a : Act} {w : World} (hi : ops[i]? = some oi) (hsz : listed.size = ops.size) (hk : takeOk md ops need listed i = true) (hQ : ∀ c (a : Act) d v w, Q (.panic c) (a.put d v) w → Q (.panic c) a w) (hS : S w)
    (hw : Region.wanted oi (yielded ops a.tmps) = true) (hy : ∀ w', S w' → (execOp a.eval oi).run P w' = .ok (.enter f args) w')
    (hc : ∀ w', S w' → Calls P f args w' fun e w'' => e = .returned v ∧ w'' = w')
    (h : ∀ K : Act → Prop, (∀ a', NW P md ops Q S need fuel (listed.setIfInBounds i true) a' w → K a') → K (a.put oi.dst v)) : NW P md ops Q S need (fuel + 1) listed a w :=
  nw_put hi hsz hk hQ (.inl ⟨hw, fun w' hs => .inr ⟨f, args, hy w' hs, hc w' hs⟩⟩) hS (h (fun a' => NW P md ops Q S need fuel (listed.setIfInBounds i true) a' w) fun _ h => h)
/-- An operation whose value is the same in every world. -/
theorem wpAnyN_free {i : Nat} {oi : Oper} {v : Value} (hi : ops[i]? = some oi) (hsel : ∀ (j : Nat) (o : Oper) cs b, ops[j]? = some o → o.op ≠ .select cs b) (hn : need i = false)
    (hQ : ∀ c a w, Q (.panic c) (a.put oi.dst v) w → Q (.panic c) a w) : ∀ (fuel : Nat) (listed : Array Bool) (a : Act) (w : World),
      (∀ j oj, ops[j]? = some oj → j ≠ i → listed.getD j true = false → (∀ e ∈ oj.after, Region.binds md e = true → e.on ≠ i) → oi.apart ops oj = true) →
      i ∈ Region.ready md ops listed → YI P ops (fun _ => True) oi v a →
      wpAnyN P md ops Q S need fuel (listed.setIfInBounds i true) (a.put oi.dst v) w → wpAnyN P md ops Q S need (fuel + 1) listed a w
  | fuel, listed, a, w, hfree, hr, hy, H => by
    refine ⟨fun h => (by rw [h] at hr; cases hr), fun j hj => ?_⟩
    by_cases hji : j = i
    · subst hji; exact hy.wpOp hi trivial ⟨(fun h => by rw [hn] at h; cases h), H⟩
    · obtain ⟨hjun, oj, hoj, hall⟩ := mem_ready.1 hj
      have hiun := getD_falseT (mem_ready.1 hr).1
      cases fuel with
      | zero =>
        have := ready_mono hj hji
        rw [H.1] at this
        cases this
      | succ fuel =>
        have h1 := H.2 j (ready_mono hj hji)
        have hnot : ∀ e ∈ oj.after, Region.binds md e = true → e.on ≠ i := fun e he hb heq => by
          have h1 := hall e he hb
          rw [heq, hiun] at h1
          cases h1
        have hap := hfree j oj hoj hji hjun hnot
        obtain ⟨a1, a2, a3⟩ := Oper.apart_spec hap
        have h2 := wpOp_putY (Y := fun a' => YI P ops (fun _ => True) oi v a') hoj hap (fun cs b => hsel j oj cs b hoj) hQ
          (fun a hy u => hy.of_same (execOp_put oi (fun cs b => hsel i oi cs b hi) a oj.dst u a3) (wanted_put oi a oj.dst u a3)) (fun a d hy => hy.of_same rfl rfl) hy h1
        have hun' : ∀ k, (listed.setIfInBounds j true).getD k true = false → listed.getD k true = false := fun k hun => by
          by_cases hjk : j = k
          · subst hjk; exact hjun
          · rwa [getD_set_ne true hjk] at hun
        refine wpOp_mono (fun a' w' h3 => ⟨h3.2.1, wpAnyN_free hi hsel hn hQ fuel (listed.setIfInBounds j true) a' w'
          (fun k ok hk hki hun hno => hfree k ok hk hki (hun' k hun) hno) (ready_mono hr (Ne.symm hji)) h3.1 ?_⟩) h2
        rw [Array.setIfInBounds_comm _ _ hji]
        exact h3.2.2
theorem nw_free {i fuel : Nat} {oi : Oper} {v : Value} {listed : Array Bool} {a : Act} {w : World} (hi : ops[i]? = some oi) (hk : (Region.noSelect ops && ((Region.ready md ops listed).contains i && (Region.free md ops listed i && !need i))) = true) (hQ : ∀ c (a : Act) d v w, Q (.panic c) (a.put d v) w → Q (.panic c) a w)
    (hw : Region.wanted oi (yielded ops a.tmps) = true) (hy : ∀ w', (execOp a.eval oi).run P w' = .ok (.value v) w')
    (h : ∀ K : Act → Prop, (∀ a', NW P md ops Q S need fuel (listed.setIfInBounds i true) a' w → K a') → K (a.put oi.dst v)) : NW P md ops Q S need (fuel + 1) listed a w := by
  simp only [Bool.and_eq_true, Bool.not_eq_true'] at hk
  have h2 : i ∈ Region.ready md ops listed := by simpa using hk.2.1
  exact ⟨fun hc => wpAnyN_free hi (Region.noSelect_spec hk.1) hk.2.2.2 (fun c a w => hQ c a _ _ w) fuel listed a w (Region.free_spec hi hk.2.2.1) h2 (.inl ⟨hw, fun w' _ => .inl (hy w')⟩)
    ((h (fun a' => NW P md ops Q S need fuel (listed.setIfInBounds i true) a' w) fun _ h => h).out (hc.set h2))⟩
/-- Whichever of those that may come up now comes up. -/
theorem nw_branch {rs : List Nat} {fuel : Nat} {listed : Array Bool} {a : Act} {w : World} (hr : Region.ready md ops listed = rs) (hne : rs ≠ [])
    (h : ∀ i ∈ rs, ∃ oi, ops[i]? = some oi ∧ ∀ K : Act → World → Prop, Hid (∀ a' w', (need i = true → S w') → NW P md ops Q S need fuel (listed.setIfInBounds i true) a' w' → K a' w') →
      if Region.wanted oi (yielded ops a.tmps) = true then oi.wp P a w K Q else K (a.put oi.dst undef) w) : NW P md ops Q S need (fuel + 1) listed a w := by
  refine ⟨fun hc => ⟨fun h0 => absurd (hr ▸ h0) hne, fun i hi => ?_⟩⟩
  obtain ⟨oi, hoi, hk⟩ := h i (hr ▸ hi)
  have := hk (fun a' w' => (need i = true → S w') ∧ wpAnyN P md ops Q S need fuel (listed.setIfInBounds i true) a' w') (Lib.hid fun a' w' h1 h2 => ⟨h1, h2.out (hc.set hi)⟩)
  unfold wpOp
  simp only [hoi]
  split
  · rename_i hw
    rw [if_pos hw] at this
    exact .inl this
  · rename_i hw
    rw [if_neg hw] at this
    exact this
theorem nw_one {i fuel : Nat} {oi : Oper} {E : Prop} {listed : Array Bool} {a : Act} {w : World} (hi : ops[i]? = some oi) (hr : Region.ready md ops listed = [i])
    (h : ∀ K : Act → World → Prop, Hid (∀ a' w', (need i = true → S w') → NW P md ops Q S need fuel (listed.setIfInBounds i true) a' w' → K a' w') →
      if Region.wanted oi (yielded ops a.tmps) = true then oi.wp P a w K Q else E) (hw : Region.wanted oi (yielded ops a.tmps) = true) : NW P md ops Q S need (fuel + 1) listed a w :=
  nw_branch hr (by simp) fun j hj => by
    obtain rfl : j = i := by simpa using hj
    exact ⟨oi, hi, fun K hK => by have := h K hK; rw [if_pos hw] at this ⊢; exact this⟩
theorem nw_two {i j fuel : Nat} {oi oj : Oper} {E E' : Prop} {listed : Array Bool} {a : Act} {w : World} (hi : ops[i]? = some oi) (hj : ops[j]? = some oj) (hr : Region.ready md ops listed = [i, j])
    (hwi : Region.wanted oi (yielded ops a.tmps) = true) (hwj : Region.wanted oj (yielded ops a.tmps) = true)
    (h : ∀ K : Act → World → Prop, Hid (∀ a' w', (need i = true → S w') → NW P md ops Q S need fuel (listed.setIfInBounds i true) a' w' → K a' w') →
      if Region.wanted oi (yielded ops a.tmps) = true then oi.wp P a w K Q else E)
    (h' : ∀ K : Act → World → Prop, Hid (∀ a' w', (need j = true → S w') → NW P md ops Q S need fuel (listed.setIfInBounds j true) a' w' → K a' w') →
      if Region.wanted oj (yielded ops a.tmps) = true then oj.wp P a w K Q else E') : NW P md ops Q S need (fuel + 1) listed a w :=
  nw_branch hr (by simp) fun k hk => by
    rcases List.mem_cons.1 hk with rfl | hk
    · exact ⟨oi, hi, fun K hK => by have := h K hK; rw [if_pos hwi] at this ⊢; exact this⟩
    · obtain rfl : k = j := by simpa using hk
      exact ⟨oj, hj, fun K hK => by have := h' K hK; rw [if_pos hwj] at this ⊢; exact this⟩
theorem nw_end {fuel : Nat} {listed : Array Bool} {a : Act} {w : World} (hr : Region.ready md ops listed = []) (h : Q .normal a w) : NW P md ops Q S need fuel listed a w :=
  ⟨fun _ => by
    cases fuel with
    | zero => exact ⟨hr, h⟩
    | succ n => exact ⟨fun _ => h, by rw [hr]; simp⟩⟩
end
end Go.Proofs.Ytifamhmiibhohaa

namespace Go.Proofs.Ytifamhmiibhohaa.Log
open Go.RowKit Go.Proofs.Ytifamhmiibhohaa.Wire Go.Proofs.Ytifamhmiibhohaa.Lay
set_option maxHeartbeats 8000000
set_option maxRecDepth 100000
set_option linter.unusedVariables false
set_option linter.unusedSimpArgs false

theorem own_blk_ne {w : World} {base s n g : Nat} {t T : TypeId} {v : Value} {xs : List Value} {cs : Array Value} (h : w.ownsRow base t s v n xs) (hb : Blk w g T cs) (ht : t ≠ T) : some g ≠ v.ownBlock := by
  intro e
  rcases h.2 with ⟨e', _⟩ | ⟨g', cap, cs', e', _, hb', _⟩
  · subst e'; cases e
  · subst e'
    have hgg : g = g' := by simpa [Value.ownBlock] using e
    subst hgg
    unfold Blk at hb
    rw [hb] at hb'
    injection hb' with hb'
    injection hb' with h1 h2
    exact ht h2.symm
/-- A record's numbers and widths, gathered in block g; all of it from block B on. -/
def FieldsAt (B : Nat) (w : World) (g : Nat) (l : List Nat) (ws : List Int) : Prop :=
  ∃ vl vw, B ≤ g ∧ Blk w g 70 #[vl, vw] ∧ w.ownsRow B 79 1 vl l.length (nums l) ∧ w.ownsRow B 3 1 vw ws.length (ints ws)

/-- Blocks of other types stay as they are. -/
def Keeps (a b : World) : Prop := ∀ q t cs, Blk a q t cs → t ≠ 70 → t ≠ 79 → t ≠ 3 → Blk b q t cs
theorem Keeps.refl (a : World) : Keeps a a := fun _ _ _ h _ _ _ => h
theorem Keeps.trans {a b c : World} (h : Keeps a b) (k : Keeps b c) : Keeps a c := fun q t cs hb h1 h2 h3 => k q t cs (h q t cs hb h1 h2 h3) h1 h2 h3
theorem Keeps.alloc {a b : World} (h : Keeps a b) (o : Obj) : Keeps a (b.alloc o) := fun q t cs hb h1 h2 h3 => (h q t cs hb h1 h2 h3).alloc o
theorem Keeps.grown64 {a b c : World} {base s n : Nat} {v : Value} {xs : List Value} (h : Keeps a b) (hg : b.grownBy c v.ownBlock) (hr : b.ownsRow base 79 s v n xs) : Keeps a c :=
  fun q t cs hb h1 h2 h3 => (h q t cs hb h1 h2 h3).grown hg (own_blk_ne hr (h q t cs hb h1 h2 h3) h2.symm)
theorem Keeps.grownInt {a b c : World} {base s n : Nat} {v : Value} {xs : List Value} (h : Keeps a b) (hg : b.grownBy c v.ownBlock) (hr : b.ownsRow base 3 s v n xs) : Keeps a c :=
  fun q t cs hb h1 h2 h3 => (h q t cs hb h1 h2 h3).grown hg (own_blk_ne hr (h q t cs hb h1 h2 h3) h3.symm)
theorem Keeps.set_ {a b : World} {g i : Nat} {cs' : Array Value} (h : Keeps a b) (hf : Blk b g 70 cs') (u : Value) : Keeps a (b.setCell ⟨g, i, none⟩ u) :=
  fun q t cs hb h1 h2 h3 => (h q t cs hb h1 h2 h3).far (p := ⟨g, i, none⟩) (fun e => by
    have hq := h q t cs hb h1 h2 h3
    simp only at e
    subst e
    unfold Blk at hq hf
    rw [hf] at hq
    injection hq with hq
    injection hq with _ e2
    exact h1 e2.symm) u
theorem own_set_far {w : World} {base s n g i : Nat} {t T : TypeId} {v : Value} {xs : List Value} {cs : Array Value} (h : w.ownsRow base t s v n xs) (hb : Blk w g T cs) (ht : t ≠ T) (u : Value) : (w.setCell ⟨g, i, none⟩ u).ownsRow base t s v n xs :=
  h.kept (only_setCell (World.grownBy.refl w (some g)) (p := ⟨g, i, none⟩) (.inl rfl) u) (.inr (own_blk_ne h hb ht).symm)
theorem add_end {B g x : Nat} {z : Int} {l : List Nat} {ws : List Int} {w v : World} {vl vw yl yw : Value} (hBg : B ≤ g) (hb : Blk v g 70 #[vl, vw]) (h1 : v.ownsRow B 79 1 yl (l.length + 1) (nums l ++ nums [x])) (h2 : v.ownsRow B 3 1 yw (ws.length + 1) (ints ws ++ ints [z])) (h3 : Below B w v) (h4 : Keeps w v) :
    Ending.returned (.tuple #[]) = .returned (.tuple #[]) ∧ FieldsAt B ((v.setCell ⟨g, 0, none⟩ yl).setCell ⟨g, 1, none⟩ yw) g (l ++ [x]) (ws ++ [z]) ∧ Below B w ((v.setCell ⟨g, 0, none⟩ yl).setCell ⟨g, 1, none⟩ yw) ∧ Keeps w ((v.setCell ⟨g, 0, none⟩ yl).setCell ⟨g, 1, none⟩ yw) := by
  have hb1 := hb.set_ 0 yl
  have hb2 := hb1.set_ 1 yw
  have k1 := own_set_far (own_set_far (i := 0) h1 hb (by decide) yl) hb1 (i := 1) (by decide) yw
  have k2 := own_set_far (own_set_far (i := 0) h2 hb (by decide) yl) hb1 (i := 1) (by decide) yw
  refine ⟨rfl, ⟨yl, yw, hBg, hb2, ?_, ?_⟩, (h3.setCell (p := ⟨g, 0, none⟩) hBg yl).setCell (p := ⟨g, 1, none⟩) hBg yw, (h4.set_ hb yl).set_ hb1 yw⟩
  · rw [nums, List.map_append, List.length_append]; exact k1
  · rw [ints, List.map_append, List.length_append]; exact k2
theorem add_any (B g x : Nat) (z : Int) (l : List Nat) (ws : List Int) (w : World) (hB : B ≤ w.heap.size) (hf : FieldsAt B w g l ws) (hx : x ≤ 9223372036854775807) (hl : l.length ≤ 100000) (hw : ws.length ≤ 100000) :
    Calls Try.prog 29 #[.pointer (some ⟨g, 0, none⟩), .int .i64 (x : Int), .int .i64 z] w fun e w' => e = .returned (.tuple #[]) ∧ FieldsAt B w' g (l ++ [x]) (ws ++ [z]) ∧ Below B w w' ∧ Keeps w w' := by
  obtain ⟨vl, vw, hBg, hblk, hol, how⟩ := hf
  have hgl := hblk.lt
  have f0 : w.cell? ⟨g, 0, none⟩ = some vl := hblk.cell 0
  have f1 : w.cell? ⟨g, 1, none⟩ = some vw := hblk.cell 1
  
  have wx : IntKind.u64.wrap (x : Int) = (x : Int) := by rw [IntKind.wrap_u64]; omega
  obtain ⟨v0, hv0⟩ : ∃ v0, w.drew = v0 := ⟨_, rfl⟩
  have KB := Lib.hid (show Blk v0 g 70 #[vl, vw] from hv0 ▸ hblk.drew)
  have KL := Lib.hid (show v0.ownsRow B 79 1 vl l.length (nums l) from hv0 ▸ hol)
  have KW := Lib.hid (show v0.ownsRow B 3 1 vw ws.length (ints ws) from hv0 ▸ how)
  have KE := Lib.hid (show Below B w v0 from hv0 ▸ (Below.refl B w).drew)
  have KQ := Lib.hid (show Keeps w v0 from hv0 ▸ Keeps.refl w)
  have hNS : v0.cell? ⟨g, 0, none⟩ = some vl ∧ v0.cell? ⟨g, 1, none⟩ = some vw := ⟨KB.out.cell 0, KB.out.cell 1⟩
  have HV0 := Lib.hid hv0
  clear hv0
  clear hblk hol how
  go_enter Try.func29, Try.ntmps29
  go_wp2_with fail
  refine region_need_at (v := v0) (fun w' => w'.cell? ⟨g, 0, none⟩ = some vl ∧ w'.cell? ⟨g, 1, none⟩ = some vw) (fun i => i == 5 || (i == 8 || (i == 9 || (i == 13 || i == 15)))) HV0.out (by kernel_rfl) ?_
  refine nw_free (i := 0) (v := ?_) rfl (by kernel_rfl) (fun _ _ d _ _ h => by cases d <;> exact h) (by kernel_rfl) ?_ (fun K hK => ?_); rotate_left; (· (intro w'; go_simp; with_reducible rfl)); simp only [Act.put, List.setIfInBounds_toArray, List.set_cons_zero, List.set_cons_succ]; refine hK _ ?_; clear hK K
  refine nw_free (i := 1) (v := ?_) rfl (by kernel_rfl) (fun _ _ d _ _ h => by cases d <;> exact h) (by kernel_rfl) ?_ (fun K hK => ?_); rotate_left; (· (intro w'; go_simp; with_reducible rfl)); simp only [Act.put, List.setIfInBounds_toArray, List.set_cons_zero, List.set_cons_succ]; refine hK _ ?_; clear hK K
  refine nw_free (i := 2) (v := ?_) rfl (by kernel_rfl) (fun _ _ d _ _ h => by cases d <;> exact h) (by kernel_rfl) ?_ (fun K hK => ?_); rotate_left; (· (intro w'; go_simp; with_reducible rfl)); simp only [Act.put, List.setIfInBounds_toArray, List.set_cons_zero, List.set_cons_succ]; refine hK _ ?_; clear hK K
  refine nw_free (i := 3) (v := ?_) rfl (by kernel_rfl) (fun _ _ d _ _ h => by cases d <;> exact h) (by kernel_rfl) ?_ (fun K hK => ?_); rotate_left; (· (intro w'; go_simp; with_reducible rfl)); simp only [Act.put, List.setIfInBounds_toArray, List.set_cons_zero, List.set_cons_succ]; refine hK _ ?_; clear hK K
  refine nw_free (i := 4) (v := ?_) rfl (by kernel_rfl) (fun _ _ d _ _ h => by cases d <;> exact h) (by kernel_rfl) ?_ (fun K hK => ?_); rotate_left; (· (intro w'; go_simp; with_reducible rfl)); simp only [Act.put, List.setIfInBounds_toArray, List.set_cons_zero, List.set_cons_succ]; refine hK _ ?_; clear hK K
  refine nw_free (i := 6) (v := ?_) rfl (by kernel_rfl) (fun _ _ d _ _ h => by cases d <;> exact h) (by kernel_rfl) ?_ (fun K hK => ?_); rotate_left; (· (intro w'; go_simp; with_reducible rfl)); simp only [Act.put, List.setIfInBounds_toArray, List.set_cons_zero, List.set_cons_succ]; refine hK _ ?_; clear hK K
  refine nw_free (i := 7) (v := ?_) rfl (by kernel_rfl) (fun _ _ d _ _ h => by cases d <;> exact h) (by kernel_rfl) ?_ (fun K hK => ?_); rotate_left; (· (intro w'; go_simp; with_reducible rfl)); simp only [Act.put, List.setIfInBounds_toArray, List.set_cons_zero, List.set_cons_succ]; refine hK _ ?_; clear hK K
  refine nw_free (i := 10) (v := ?_) rfl (by kernel_rfl) (fun _ _ d _ _ h => by cases d <;> exact h) (by kernel_rfl) ?_ (fun K hK => ?_); rotate_left; (· (intro w'; go_simp; with_reducible rfl)); simp only [Act.put, List.setIfInBounds_toArray, List.set_cons_zero, List.set_cons_succ]; refine hK _ ?_; clear hK K
  refine nw_free (i := 11) (v := ?_) rfl (by kernel_rfl) (fun _ _ d _ _ h => by cases d <;> exact h) (by kernel_rfl) ?_ (fun K hK => ?_); rotate_left; (· (intro w'; go_simp; with_reducible rfl)); simp only [Act.put, List.setIfInBounds_toArray, List.set_cons_zero, List.set_cons_succ]; refine hK _ ?_; clear hK K
  refine nw_free (i := 12) (v := ?_) rfl (by kernel_rfl) (fun _ _ d _ _ h => by cases d <;> exact h) (by kernel_rfl) ?_ (fun K hK => ?_); rotate_left; (· (intro w'; go_simp; with_reducible rfl)); simp only [Act.put, List.setIfInBounds_toArray, List.set_cons_zero, List.set_cons_succ]; refine hK _ ?_; clear hK K
  refine nw_free (i := 14) (v := ?_) rfl (by kernel_rfl) (fun _ _ d _ _ h => by cases d <;> exact h) (by kernel_rfl) ?_ (fun K hK => ?_); rotate_left; (· (intro w'; go_simp; with_reducible rfl)); simp only [Act.put, List.setIfInBounds_toArray, List.set_cons_zero, List.set_cons_succ]; refine hK _ ?_; clear hK K
  refine nw_take (i := 5) (v := ?_) rfl (by kernel_rfl) (by kernel_rfl) (fun _ _ d _ _ h => by cases d <;> exact h) (by exact hNS) (by kernel_rfl) ?_ (fun K hK => ?_); rotate_left; (· (intro w' hSw; (try dsimp only at hSw); go_simp; with_reducible rfl)); simp only [Act.put, List.setIfInBounds_toArray, List.set_cons_zero, List.set_cons_succ]; refine hK _ ?_; clear hK K
  refine nw_take (i := 13) (v := ?_) rfl (by kernel_rfl) (by kernel_rfl) (fun _ _ d _ _ h => by cases d <;> exact h) (by exact hNS) (by kernel_rfl) ?_ (fun K hK => ?_); rotate_left; (· (intro w' hSw; (try dsimp only at hSw); go_simp; with_reducible rfl)); simp only [Act.put, List.setIfInBounds_toArray, List.set_cons_zero, List.set_cons_succ]; refine hK _ ?_; clear hK K
  clear wx f0 f1 hNS

  refine nw_two (i := 8) (j := 15) (E := False) (E' := False) rfl rfl (by kernel_rfl) (by kernel_rfl) (by kernel_rfl) (fun K hK => ?_) (fun K hK => ?_)
  · go_simp
    have L8 := Lib.hid (lit_rowN v0 79 (nums [x]) 1 (v0.heap.size) rfl (by simp))
    have KBx8 := Lib.hid (KB.out.alloc (.cells (nums [x]).toArray 79))
    have KLx8 := Lib.hid (KL.out.alloc (.cells (nums [x]).toArray 79))
    have KWx8 := Lib.hid (KW.out.alloc (.cells (nums [x]).toArray 79))
    have KEx8 := Lib.hid (KE.out.alloc (Nat.le_trans hB KE.out.size) (.cells (nums [x]).toArray 79))
    have KQx8 := Lib.hid (KQ.out.alloc (.cells (nums [x]).toArray 79))
    refine hK.out _ _ (fun _ => ⟨KBx8.out.cell 0, KBx8.out.cell 1⟩) ?_
    clear hK K
    try simp only [Act.put, List.setIfInBounds_toArray, List.set_cons_zero, List.set_cons_succ]
    refine nw_two (i := 9) (j := 15) (E := False) (E' := False) rfl rfl (by kernel_rfl) (by kernel_rfl) (by kernel_rfl) (fun K hK => ?_) (fun K hK => ?_)
    · refine step_app_gen _ 68 79 (.int .u64 0) 1 8 Try.underlying68 infoU64 rfl (by decide) rfl (.tmp 11) (.tmp 14) rfl B vl l.length (nums l) rfl KLx8.out _ 1 1 (nums [x]) rfl (by rw [Nat.mul_one]; exact L8.out) (one_nums _) (by unfold maxLen; omega) (by omega) (Nat.le_trans hB KEx8.out.size) ?_
      intro y9 v9 hown hg
      obtain ⟨gy9, cy9, csy9, rfl, _, _, _, _, _⟩ := own_form hown (by omega)
      have KEx9 := Lib.hid (below_row KEx8.out hg (fun g e => (KLx8.out.lt g e).1) (Nat.le_trans hB KEx8.out.size))
      have KQx9 := Lib.hid (KQx8.out.grown64 hg KLx8.out)
      have KLx9 := Lib.hid hown
      have KWx9 := Lib.hid (KWx8.out.kept hg (own_ne KWx8.out KLx8.out (by decide)))
      have KBx9 := Lib.hid (KBx8.out.grown hg (own_blk_ne KLx8.out KBx8.out (by decide)))
      clear hown hg
      refine hK.out _ _ (fun _ => ⟨KBx9.out.cell 0, KBx9.out.cell 1⟩) ?_
      clear hK K
      try simp only [Act.put, List.setIfInBounds_toArray, List.set_cons_zero, List.set_cons_succ]
      refine nw_one (i := 15) (E := False) rfl (by kernel_rfl) (fun K hK => ?_) (by kernel_rfl)
      go_simp
      have L15 := Lib.hid (lit_rowN v9 3 (ints [z]) 1 (v9.heap.size) rfl (by simp))
      have KBx15 := Lib.hid (KBx9.out.alloc (.cells (ints [z]).toArray 3))
      have KLx15 := Lib.hid (KLx9.out.alloc (.cells (ints [z]).toArray 3))
      have KWx15 := Lib.hid (KWx9.out.alloc (.cells (ints [z]).toArray 3))
      have KEx15 := Lib.hid (KEx9.out.alloc (Nat.le_trans hB KEx9.out.size) (.cells (ints [z]).toArray 3))
      have KQx15 := Lib.hid (KQx9.out.alloc (.cells (ints [z]).toArray 3))
      have L8b := Lib.hid (L8.out.alloc (.cells (ints [z]).toArray 3))
      refine hK.out _ _ (fun _ => ⟨KBx15.out.cell 0, KBx15.out.cell 1⟩) ?_
      clear hK K
      try simp only [Act.put, List.setIfInBounds_toArray, List.set_cons_zero, List.set_cons_succ]
      refine nw_one (i := 16) (E := False) rfl (by kernel_rfl) (fun K hK => ?_) (by kernel_rfl)
      refine step_app_gen _ 23 3 (.int .i64 0) 1 8 Try.underlying23 infoInt rfl (by decide) rfl (.tmp 19) (.tmp 21) rfl B vw ws.length (ints ws) rfl KWx15.out _ 1 1 (ints [z]) rfl (by rw [Nat.mul_one]; exact L15.out) (one_ints _) (by unfold maxLen; omega) (by omega) (Nat.le_trans hB KEx15.out.size) ?_
      intro y16 v16 hown hg
      obtain ⟨gy16, cy16, csy16, rfl, _, _, _, _, _⟩ := own_form hown (by omega)
      have KEx16 := Lib.hid (below_row KEx15.out hg (fun g e => (KWx15.out.lt g e).1) (Nat.le_trans hB KEx15.out.size))
      have KQx16 := Lib.hid (KQx15.out.grownInt hg KWx15.out)
      have KWx16 := Lib.hid hown
      have KLx16 := Lib.hid (KLx15.out.kept hg (own_ne KLx15.out KWx15.out (by decide)))
      have KBx16 := Lib.hid (KBx15.out.grown hg (own_blk_ne KWx15.out KBx15.out (by decide)))
      clear hown hg
      refine hK.out _ _ ((fun h => absurd h (by decide))) ?_
      clear hK K
      try simp only [Act.put, List.setIfInBounds_toArray, List.set_cons_zero, List.set_cons_succ]
      have c0 : v16.cell? ⟨g, 0, none⟩ = some vl := KBx16.out.cell 0
      have c1 : v16.cell? ⟨g, 1, none⟩ = some vw := KBx16.out.cell 1
      have z0 : v16.frozen? ⟨g, 0, none⟩ = false := KBx16.out.frozen 0
      have z1 : v16.frozen? ⟨g, 1, none⟩ = false := KBx16.out.frozen 1
      refine nw_one (i := 17) (E := False) rfl (by kernel_rfl) (fun K hK => ?_) (by kernel_rfl)
      go_simp
      refine hK.out _ _ ((fun h => absurd h (by decide))) ?_
      clear hK K
      try simp only [Act.put, List.setIfInBounds_toArray, List.set_cons_zero, List.set_cons_succ]
      refine nw_one (i := 18) (E := False) rfl (by kernel_rfl) (fun K hK => ?_) (by kernel_rfl)
      go_simp
      refine hK.out _ _ ((fun h => absurd h (by decide))) ?_
      clear hK K
      try simp only [Act.put, List.setIfInBounds_toArray, List.set_cons_zero, List.set_cons_succ]
      refine nw_one (i := 19) (E := False) rfl (by kernel_rfl) (fun K hK => ?_) (by kernel_rfl)
      go_simp
      refine hK.out _ _ ((fun h => absurd h (by decide))) ?_
      clear hK K
      try simp only [Act.put, List.setIfInBounds_toArray, List.set_cons_zero, List.set_cons_succ]
      refine nw_one (i := 20) (E := False) rfl (by kernel_rfl) (fun K hK => ?_) (by kernel_rfl)
      go_simp
      refine hK.out _ _ ((fun h => absurd h (by decide))) ?_
      clear hK K
      try simp only [Act.put, List.setIfInBounds_toArray, List.set_cons_zero, List.set_cons_succ]
      refine nw_one (i := 21) (E := False) rfl (by kernel_rfl) (fun K hK => ?_) (by kernel_rfl)
      go_simp
      refine hK.out _ _ ((fun h => absurd h (by decide))) ?_
      clear hK K
      try simp only [Act.put, List.setIfInBounds_toArray, List.set_cons_zero, List.set_cons_succ]
      refine nw_one (i := 22) (E := False) rfl (by kernel_rfl) (fun K hK => ?_) (by kernel_rfl)
      go_simp
      refine hK.out _ _ ((fun h => absurd h (by decide))) ?_
      clear hK K
      try simp only [Act.put, List.setIfInBounds_toArray, List.set_cons_zero, List.set_cons_succ]
      refine nw_end (by kernel_rfl) ?_
      clear c0 c1 z0 z1
      go_wp2
      go_end0
      exact add_end hBg KBx16.out KLx16.out KWx16.out KEx16.out KQx16.out
    · go_simp
      have L15 := Lib.hid (lit_rowN (v0.alloc (.cells (nums [x]).toArray 79)) 3 (ints [z]) 1 (v0.heap.size + 1) rfl (by simp))
      have KBx15 := Lib.hid (KBx8.out.alloc (.cells (ints [z]).toArray 3))
      have KLx15 := Lib.hid (KLx8.out.alloc (.cells (ints [z]).toArray 3))
      have KWx15 := Lib.hid (KWx8.out.alloc (.cells (ints [z]).toArray 3))
      have KEx15 := Lib.hid (KEx8.out.alloc (Nat.le_trans hB KEx8.out.size) (.cells (ints [z]).toArray 3))
      have KQx15 := Lib.hid (KQx8.out.alloc (.cells (ints [z]).toArray 3))
      have L8b := Lib.hid (L8.out.alloc (.cells (ints [z]).toArray 3))
      refine hK.out _ _ (fun _ => ⟨KBx15.out.cell 0, KBx15.out.cell 1⟩) ?_
      clear hK K
      try simp only [Act.put, List.setIfInBounds_toArray, List.set_cons_zero, List.set_cons_succ]
      refine nw_one (i := 9) (E := False) rfl (by kernel_rfl) (fun K hK => ?_) (by kernel_rfl)
      refine step_app_gen _ 68 79 (.int .u64 0) 1 8 Try.underlying68 infoU64 rfl (by decide) rfl (.tmp 11) (.tmp 14) rfl B vl l.length (nums l) rfl KLx15.out _ 1 1 (nums [x]) rfl (by rw [Nat.mul_one]; exact L8b.out) (one_nums _) (by unfold maxLen; omega) (by omega) (Nat.le_trans hB KEx15.out.size) ?_
      intro y9 v9 hown hg
      obtain ⟨gy9, cy9, csy9, rfl, _, _, _, _, _⟩ := own_form hown (by omega)
      have KEx9 := Lib.hid (below_row KEx15.out hg (fun g e => (KLx15.out.lt g e).1) (Nat.le_trans hB KEx15.out.size))
      have KQx9 := Lib.hid (KQx15.out.grown64 hg KLx15.out)
      have KLx9 := Lib.hid hown
      have KWx9 := Lib.hid (KWx15.out.kept hg (own_ne KWx15.out KLx15.out (by decide)))
      have KBx9 := Lib.hid (KBx15.out.grown hg (own_blk_ne KLx15.out KBx15.out (by decide)))
      have L15g := Lib.hid (L15.out.grown hg (fun a e _ h => by injection e with e; subst e; have h2 := (KL.out.lt _ h.symm).2; simp only at h2; omega))
      clear hown hg
      refine hK.out _ _ (fun _ => ⟨KBx9.out.cell 0, KBx9.out.cell 1⟩) ?_
      clear hK K
      try simp only [Act.put, List.setIfInBounds_toArray, List.set_cons_zero, List.set_cons_succ]
      refine nw_one (i := 16) (E := False) rfl (by kernel_rfl) (fun K hK => ?_) (by kernel_rfl)
      refine step_app_gen _ 23 3 (.int .i64 0) 1 8 Try.underlying23 infoInt rfl (by decide) rfl (.tmp 19) (.tmp 21) rfl B vw ws.length (ints ws) rfl KWx9.out _ 1 1 (ints [z]) rfl (by rw [Nat.mul_one]; exact L15g.out) (one_ints _) (by unfold maxLen; omega) (by omega) (Nat.le_trans hB KEx9.out.size) ?_
      intro y16 v16 hown hg
      obtain ⟨gy16, cy16, csy16, rfl, _, _, _, _, _⟩ := own_form hown (by omega)
      have KEx16 := Lib.hid (below_row KEx9.out hg (fun g e => (KWx9.out.lt g e).1) (Nat.le_trans hB KEx9.out.size))
      have KQx16 := Lib.hid (KQx9.out.grownInt hg KWx9.out)
      have KWx16 := Lib.hid hown
      have KLx16 := Lib.hid (KLx9.out.kept hg (own_ne KLx9.out KWx9.out (by decide)))
      have KBx16 := Lib.hid (KBx9.out.grown hg (own_blk_ne KWx9.out KBx9.out (by decide)))
      clear hown hg
      refine hK.out _ _ ((fun h => absurd h (by decide))) ?_
      clear hK K
      try simp only [Act.put, List.setIfInBounds_toArray, List.set_cons_zero, List.set_cons_succ]
      have c0 : v16.cell? ⟨g, 0, none⟩ = some vl := KBx16.out.cell 0
      have c1 : v16.cell? ⟨g, 1, none⟩ = some vw := KBx16.out.cell 1
      have z0 : v16.frozen? ⟨g, 0, none⟩ = false := KBx16.out.frozen 0
      have z1 : v16.frozen? ⟨g, 1, none⟩ = false := KBx16.out.frozen 1
      refine nw_one (i := 17) (E := False) rfl (by kernel_rfl) (fun K hK => ?_) (by kernel_rfl)
      go_simp
      refine hK.out _ _ ((fun h => absurd h (by decide))) ?_
      clear hK K
      try simp only [Act.put, List.setIfInBounds_toArray, List.set_cons_zero, List.set_cons_succ]
      refine nw_one (i := 18) (E := False) rfl (by kernel_rfl) (fun K hK => ?_) (by kernel_rfl)
      go_simp
      refine hK.out _ _ ((fun h => absurd h (by decide))) ?_
      clear hK K
      try simp only [Act.put, List.setIfInBounds_toArray, List.set_cons_zero, List.set_cons_succ]
      refine nw_one (i := 19) (E := False) rfl (by kernel_rfl) (fun K hK => ?_) (by kernel_rfl)
      go_simp
      refine hK.out _ _ ((fun h => absurd h (by decide))) ?_
      clear hK K
      try simp only [Act.put, List.setIfInBounds_toArray, List.set_cons_zero, List.set_cons_succ]
      refine nw_one (i := 20) (E := False) rfl (by kernel_rfl) (fun K hK => ?_) (by kernel_rfl)
      go_simp
      refine hK.out _ _ ((fun h => absurd h (by decide))) ?_
      clear hK K
      try simp only [Act.put, List.setIfInBounds_toArray, List.set_cons_zero, List.set_cons_succ]
      refine nw_one (i := 21) (E := False) rfl (by kernel_rfl) (fun K hK => ?_) (by kernel_rfl)
      go_simp
      refine hK.out _ _ ((fun h => absurd h (by decide))) ?_
      clear hK K
      try simp only [Act.put, List.setIfInBounds_toArray, List.set_cons_zero, List.set_cons_succ]
      refine nw_one (i := 22) (E := False) rfl (by kernel_rfl) (fun K hK => ?_) (by kernel_rfl)
      go_simp
      refine hK.out _ _ ((fun h => absurd h (by decide))) ?_
      clear hK K
      try simp only [Act.put, List.setIfInBounds_toArray, List.set_cons_zero, List.set_cons_succ]
      refine nw_end (by kernel_rfl) ?_
      clear c0 c1 z0 z1
      go_wp2
      go_end0
      exact add_end hBg KBx16.out KLx16.out KWx16.out KEx16.out KQx16.out
  · go_simp
    have L15 := Lib.hid (lit_rowN v0 3 (ints [z]) 1 (v0.heap.size) rfl (by simp))
    have KBx15 := Lib.hid (KB.out.alloc (.cells (ints [z]).toArray 3))
    have KLx15 := Lib.hid (KL.out.alloc (.cells (ints [z]).toArray 3))
    have KWx15 := Lib.hid (KW.out.alloc (.cells (ints [z]).toArray 3))
    have KEx15 := Lib.hid (KE.out.alloc (Nat.le_trans hB KE.out.size) (.cells (ints [z]).toArray 3))
    have KQx15 := Lib.hid (KQ.out.alloc (.cells (ints [z]).toArray 3))
    refine hK.out _ _ (fun _ => ⟨KBx15.out.cell 0, KBx15.out.cell 1⟩) ?_
    clear hK K
    try simp only [Act.put, List.setIfInBounds_toArray, List.set_cons_zero, List.set_cons_succ]
    refine nw_one (i := 8) (E := False) rfl (by kernel_rfl) (fun K hK => ?_) (by kernel_rfl)
    go_simp
    have L8 := Lib.hid (lit_rowN (v0.alloc (.cells (ints [z]).toArray 3)) 79 (nums [x]) 1 (v0.heap.size + 1) rfl (by simp))
    have KBx8 := Lib.hid (KBx15.out.alloc (.cells (nums [x]).toArray 79))
    have KLx8 := Lib.hid (KLx15.out.alloc (.cells (nums [x]).toArray 79))
    have KWx8 := Lib.hid (KWx15.out.alloc (.cells (nums [x]).toArray 79))
    have KEx8 := Lib.hid (KEx15.out.alloc (Nat.le_trans hB KEx15.out.size) (.cells (nums [x]).toArray 79))
    have KQx8 := Lib.hid (KQx15.out.alloc (.cells (nums [x]).toArray 79))
    have L15b := Lib.hid (L15.out.alloc (.cells (nums [x]).toArray 79))
    refine hK.out _ _ (fun _ => ⟨KBx8.out.cell 0, KBx8.out.cell 1⟩) ?_
    clear hK K
    try simp only [Act.put, List.setIfInBounds_toArray, List.set_cons_zero, List.set_cons_succ]
    refine nw_one (i := 9) (E := False) rfl (by kernel_rfl) (fun K hK => ?_) (by kernel_rfl)
    refine step_app_gen _ 68 79 (.int .u64 0) 1 8 Try.underlying68 infoU64 rfl (by decide) rfl (.tmp 11) (.tmp 14) rfl B vl l.length (nums l) rfl KLx8.out _ 1 1 (nums [x]) rfl (by rw [Nat.mul_one]; exact L8.out) (one_nums _) (by unfold maxLen; omega) (by omega) (Nat.le_trans hB KEx8.out.size) ?_
    intro y9 v9 hown hg
    obtain ⟨gy9, cy9, csy9, rfl, _, _, _, _, _⟩ := own_form hown (by omega)
    have KEx9 := Lib.hid (below_row KEx8.out hg (fun g e => (KLx8.out.lt g e).1) (Nat.le_trans hB KEx8.out.size))
    have KQx9 := Lib.hid (KQx8.out.grown64 hg KLx8.out)
    have KLx9 := Lib.hid hown
    have KWx9 := Lib.hid (KWx8.out.kept hg (own_ne KWx8.out KLx8.out (by decide)))
    have KBx9 := Lib.hid (KBx8.out.grown hg (own_blk_ne KLx8.out KBx8.out (by decide)))
    have L15bg := Lib.hid (L15b.out.grown hg (fun a e _ h => by injection e with e; subst e; have h2 := (KL.out.lt _ h.symm).2; simp only at h2; omega))
    clear hown hg
    refine hK.out _ _ (fun _ => ⟨KBx9.out.cell 0, KBx9.out.cell 1⟩) ?_
    clear hK K
    try simp only [Act.put, List.setIfInBounds_toArray, List.set_cons_zero, List.set_cons_succ]
    refine nw_one (i := 16) (E := False) rfl (by kernel_rfl) (fun K hK => ?_) (by kernel_rfl)
    refine step_app_gen _ 23 3 (.int .i64 0) 1 8 Try.underlying23 infoInt rfl (by decide) rfl (.tmp 19) (.tmp 21) rfl B vw ws.length (ints ws) rfl KWx9.out _ 1 1 (ints [z]) rfl (by rw [Nat.mul_one]; exact L15bg.out) (one_ints _) (by unfold maxLen; omega) (by omega) (Nat.le_trans hB KEx9.out.size) ?_
    intro y16 v16 hown hg
    obtain ⟨gy16, cy16, csy16, rfl, _, _, _, _, _⟩ := own_form hown (by omega)
    have KEx16 := Lib.hid (below_row KEx9.out hg (fun g e => (KWx9.out.lt g e).1) (Nat.le_trans hB KEx9.out.size))
    have KQx16 := Lib.hid (KQx9.out.grownInt hg KWx9.out)
    have KWx16 := Lib.hid hown
    have KLx16 := Lib.hid (KLx9.out.kept hg (own_ne KLx9.out KWx9.out (by decide)))
    have KBx16 := Lib.hid (KBx9.out.grown hg (own_blk_ne KWx9.out KBx9.out (by decide)))
    clear hown hg
    refine hK.out _ _ ((fun h => absurd h (by decide))) ?_
    clear hK K
    try simp only [Act.put, List.setIfInBounds_toArray, List.set_cons_zero, List.set_cons_succ]
    have c0 : v16.cell? ⟨g, 0, none⟩ = some vl := KBx16.out.cell 0
    have c1 : v16.cell? ⟨g, 1, none⟩ = some vw := KBx16.out.cell 1
    have z0 : v16.frozen? ⟨g, 0, none⟩ = false := KBx16.out.frozen 0
    have z1 : v16.frozen? ⟨g, 1, none⟩ = false := KBx16.out.frozen 1
    refine nw_one (i := 17) (E := False) rfl (by kernel_rfl) (fun K hK => ?_) (by kernel_rfl)
    go_simp
    refine hK.out _ _ ((fun h => absurd h (by decide))) ?_
    clear hK K
    try simp only [Act.put, List.setIfInBounds_toArray, List.set_cons_zero, List.set_cons_succ]
    refine nw_one (i := 18) (E := False) rfl (by kernel_rfl) (fun K hK => ?_) (by kernel_rfl)
    go_simp
    refine hK.out _ _ ((fun h => absurd h (by decide))) ?_
    clear hK K
    try simp only [Act.put, List.setIfInBounds_toArray, List.set_cons_zero, List.set_cons_succ]
    refine nw_one (i := 19) (E := False) rfl (by kernel_rfl) (fun K hK => ?_) (by kernel_rfl)
    go_simp
    refine hK.out _ _ ((fun h => absurd h (by decide))) ?_
    clear hK K
    try simp only [Act.put, List.setIfInBounds_toArray, List.set_cons_zero, List.set_cons_succ]
    refine nw_one (i := 20) (E := False) rfl (by kernel_rfl) (fun K hK => ?_) (by kernel_rfl)
    go_simp
    refine hK.out _ _ ((fun h => absurd h (by decide))) ?_
    clear hK K
    try simp only [Act.put, List.setIfInBounds_toArray, List.set_cons_zero, List.set_cons_succ]
    refine nw_one (i := 21) (E := False) rfl (by kernel_rfl) (fun K hK => ?_) (by kernel_rfl)
    go_simp
    refine hK.out _ _ ((fun h => absurd h (by decide))) ?_
    clear hK K
    try simp only [Act.put, List.setIfInBounds_toArray, List.set_cons_zero, List.set_cons_succ]
    refine nw_one (i := 22) (E := False) rfl (by kernel_rfl) (fun K hK => ?_) (by kernel_rfl)
    go_simp
    refine hK.out _ _ ((fun h => absurd h (by decide))) ?_
    clear hK K
    try simp only [Act.put, List.setIfInBounds_toArray, List.set_cons_zero, List.set_cons_succ]
    refine nw_end (by kernel_rfl) ?_
    clear c0 c1 z0 z1
    go_wp2
    go_end0
    exact add_end hBg KBx16.out KLx16.out KWx16.out KEx16.out KQx16.out
end Go.Proofs.Ytifamhmiibhohaa.Log

namespace Go.Proofs.Ytifamhmiibhohaa.Log
open Go.RowKit Go.Proofs.Ytifamhmiibhohaa.Wire Go.Proofs.Ytifamhmiibhohaa.Lay
set_option maxHeartbeats 8000000
set_option maxRecDepth 100000
set_option linter.unusedVariables false
set_option linter.unusedSimpArgs false

def most (k : Int) : Int := if k = 1 then 48 else if k = 3 then 60 else if k = 2 then 0 else if k = 4 then 0 else -1
theorem most_any (k : Int) (w : World) : Calls Try.prog 42 #[.int .i64 k] w fun e w' => e = .returned (.int .i64 (most k)) ∧ w = w' := by
  by_cases h1 : k = 1
  · subst h1
    go_enter Try.func42, Try.ntmps42
    go_wp2
    go_ret
    exact ⟨rfl, rfl⟩
  by_cases h3 : k = 3
  · subst h3
    go_enter Try.func42, Try.ntmps42
    go_wp2
    go_ret
    exact ⟨rfl, rfl⟩
  by_cases h2 : k = 2
  · subst h2
    go_enter Try.func42, Try.ntmps42
    go_wp2
    go_ret
    exact ⟨rfl, rfl⟩
  by_cases h4 : k = 4
  · subst h4
    go_enter Try.func42, Try.ntmps42
    go_wp2
    go_ret
    exact ⟨rfl, rfl⟩
  · have hm : most k = -1 := by simp [most, h1, h2, h3, h4]
    have b1 : (k == 1) = false := by simpa using h1
    have b3 : (k == 3) = false := by simpa using h3
    have b2 : (k == 2) = false := by simpa using h2
    have b4 : (k == 4) = false := by simpa using h4
    have HM := Lib.hid hm
    clear h1 h2 h3 h4 hm
    go_enter Try.func42, Try.ntmps42
    go_wp2
    go_ret
    exact ⟨ret_int HM.out.symm, rfl⟩

theorem next_any (g : Nat) (A : Option Addr) (len cap : Nat) (p n : Int) (bs : List UInt8) (w : World) (hl : len ≤ cap) (hc : cap ≤ 9223372036854775807) (hb : BytesAt w A len bs) (hk : Blk w g 63 #[.slice A len cap, .int .i64 p])
    (hn : n ≤ 4) (hn0 : 0 ≤ n) (hp0 : 0 ≤ p) (hp : p ≤ 100000) :
    Calls Try.prog 23 #[.pointer (some ⟨g, 0, none⟩), .int .i64 n] w fun e w' => e = .returned (.int .i64 (uf bs p n)) ∧ Blk w' g 63 #[.slice A len cap, .int .i64 (p + n)] ∧ w.grownBy w' (some g) := by
  have HG := Lib.hid (get_any A len cap p n bs w.drew hl hc hb.drew)
  have hx := getX_lt bs p n hn
  have HU := Lib.hid (show ((getX bs p n : Nat) : Int) = uf bs p n from rfl)
  generalize getX bs p n = y at *
  generalize getE len p n = ye at HG
  have f0 : w.cell? ⟨g, 0, none⟩ = some (.slice A len cap) := hk.cell 0
  have f1 : w.cell? ⟨g, 1, none⟩ = some (.int .i64 p) := hk.cell 1
  have HK := Lib.hid hk
  clear hk hb
  go_enter Try.func23, Try.ntmps23
  go_wp2_with fail
  refine region_mix [true, true, true, true, true, true, true, true, true, false] (S := fun w' => w'.cell? ⟨g, 0, none⟩ = some (.slice A len cap) ∧ w'.cell? ⟨g, 1, none⟩ = some (.int .i64 p)) (by kernel_rfl) (by kernel_rfl) (fun _ _ d _ _ h => by cases d <;> exact h) ⟨f0, f1⟩ ?_
  clear f0 f1
  iterate 9 (refine mix_take (v := ?_) (by kernel_rfl) ?_ (fun K hK => ?_); rotate_left; (· (intro w' hSw; (try dsimp only at hSw); go_simp; with_reducible rfl)); simp only [Act.put, List.setIfInBounds_toArray, List.set_cons_zero, List.set_cons_succ]; refine hK _ ?_; clear hK K)
  refine mix_do (E := False) (fun K hK => ?_) (by kernel_rfl)
  go_simp
  refine HG.out.mono ?_
  rintro e w1 ⟨rfl, hb1⟩
  have K1 := HK.out.drew.belowAll hb1
  have G1 := Lib.hid (only_of_drew (only_of_below hb1 (some g)))
  have k0 : w1.cell? ⟨g, 0, none⟩ = some (.slice A len cap) := K1.cell 0
  have k1 : w1.cell? ⟨g, 1, none⟩ = some (.int .i64 p) := K1.cell 1
  have z1 : w1.frozen? ⟨g, 1, none⟩ = false := K1.frozen 1
  have HK1 := Lib.hid K1
  clear hb1 K1
  refine hK.out _ _ (⟨k0, k1⟩) ?_
  clear hK K
  try simp only [Act.put, List.setIfInBounds_toArray, List.set_cons_zero, List.set_cons_succ]
  refine mix_still ?_
  iterate 5 (refine still_take (v := ?_) (by kernel_rfl) ?_ (fun K hK => ?_); rotate_left; (· (go_simp; with_reducible rfl)); simp only [Act.put, List.setIfInBounds_toArray, List.set_cons_zero, List.set_cons_succ]; refine hK _ ?_; clear hK K)
  refine still_end ?_
  go_wp2
  go_ret
  exact ⟨ret_int HU.out, HK1.out.set_ 1 (.int .i64 (p + n)), only_trans G1.out (only_setCell (World.grownBy.refl w1 (some g)) (p := ⟨g, 1, none⟩) (.inl rfl) _)⟩
end Go.Proofs.Ytifamhmiibhohaa.Log

namespace Go.Proofs.Ytifamhmiibhohaa.Log
open Go.RowKit Go.Proofs.Ytifamhmiibhohaa.Wire Go.Proofs.Ytifamhmiibhohaa.Lay
set_option maxHeartbeats 8000000
set_option maxRecDepth 100000
set_option linter.unusedVariables false
set_option linter.unusedSimpArgs false

def parts (n s : Int) : Int := (max n 0 + s - 1) / s
theorem parts_any (n s : Int) (w : World) (h1 : 1 ≤ s) (h2 : s ≤ 1000) (hn : n ≤ 9000000000000000000) : Calls Try.prog 22 #[.int .i64 n, .int .i64 s] w fun e w' => e = .returned (.int .i64 (parts n s)) ∧ w = w' := by
  have hp : parts n s = (max n 0 + s - 1) / s := rfl
  have HP := Lib.hid hp
  clear hp
  by_cases h0 : 0 ≤ n
  · have hm : max n 0 = n := by omega
    rw [hm] at HP
    have hm' : ¬ n < 0 := by omega
    go_enter Try.func22, Try.ntmps22
    go_wp2
    go_ret
    exact ⟨ret_int (by rw [HP.out]; try simp [hm]), rfl⟩
  · have hm : max n 0 = 0 := by omega
    rw [hm] at HP
    have hm' : n < 0 := by omega
    go_enter Try.func22, Try.ntmps22
    go_wp2
    go_ret
    exact ⟨ret_int (by rw [HP.out]; try simp [hm]), rfl⟩
/-- How many blocks a transaction takes. -/
def need (a b : Int) : Int := max a 0 + parts a 48 + parts b 60 + 1
theorem need_any (a b : Int) (w : World) (ha : a ≤ 1000000000000000) (hb : b ≤ 1000000000000000) : Calls Try.prog 8 #[.int .i64 a, .int .i64 b] w fun e w' => e = .returned (.int .i64 (need a b)) ∧ w = w' := by
  have p1 : 0 ≤ parts a 48 ∧ parts a 48 ≤ 1000000000000000 := by unfold parts; omega
  have p2 : 0 ≤ parts b 60 ∧ parts b 60 ≤ 1000000000000000 := by unfold parts; omega
  have C1 := Lib.hid (parts_any a 48 w (by omega) (by omega) (by omega))
  have C2 := Lib.hid (parts_any b 60 w (by omega) (by omega) (by omega))
  have hn : need a b = max a 0 + parts a 48 + parts b 60 + 1 := rfl
  have HN := Lib.hid hn
  clear hn
  generalize parts a 48 = q1 at *
  generalize parts b 60 = q2 at *
  obtain ⟨m, hm⟩ : ∃ m, max a 0 = m := ⟨_, rfl⟩
  have m0 : 0 ≤ m := by omega
  have m1 : m ≤ 1000000000000000 := by omega
  go_enter Try.func8, Try.ntmps8
  go_wp2_with fail
  refine C1.out.mono ?_
  rintro e w' ⟨rfl, rfl⟩
  go_wp2_with fail
  refine C2.out.mono ?_
  rintro e w' ⟨rfl, rfl⟩
  go_wp2_with fail
  go_ret
  exact ⟨ret_int (by rw [HN.out]; try simp [hm]), rfl⟩
end Go.Proofs.Ytifamhmiibhohaa.Log

namespace Go.Proofs.Ytifamhmiibhohaa.Log
open Go.RowKit Go.Proofs.Ytifamhmiibhohaa.Wire Go.Proofs.Ytifamhmiibhohaa.Lay
set_option maxHeartbeats 8000000
set_option maxRecDepth 100000
set_option linter.unusedVariables false
set_option linter.unusedSimpArgs false

def magicB : List UInt8 := [73, 82, 89, 72]
theorem magic_any (w : World) : Calls Try.prog 27 #[] w fun e w' => ∃ v, e = .returned v ∧ Below w.heap.size w w' ∧ w'.ownsRow w.heap.size 5 1 v 4 (bvl magicB) := by
  have hmk := make_bytes 4 (by omega)
  rw [show ((4 : Nat) : Int) = 4 from rfl] at hmk
  have ho := lit_ownN w 5 1 (bvl ([0, 0, 0, 0] ++ [])) 4 rfl (by unfold maxLen; omega)
  have HP := Lib.hid (put_row w.heap.size w.heap.size 4 4 4 [0, 0, 0, 0] [] 0 4 1213813321 _ (by omega) rfl (Nat.le_refl _) ho)
  have hpb : putB [0, 0, 0, 0] 0 4 1213813321 = magicB := by decide
  have HPB := Lib.hid hpb
  have HB := Lib.hid ((Below.refl w.heap.size w).alloc (Nat.le_refl _) (.cells (bvl ([0, 0, 0, 0] ++ [])).toArray 5))
  have HO := Lib.hid ho
  clear ho hpb
  go_enter Try.func27, Try.ntmps27
  go_wp2_with fail
  clear hmk
  refine HP.out.mono ?_
  rintro e w1 ⟨rfl, ho1, hg1⟩
  rw [HPB.out, List.append_nil] at ho1
  have O1 := Lib.hid ho1
  have B1 := Lib.hid (below_own HO.out HB.out (Nat.le_refl _) hg1)
  clear ho1 hg1
  go_wp2_with fail
  go_ret
  exact ⟨_, rfl, B1.out, O1.out⟩
end Go.Proofs.Ytifamhmiibhohaa.Log
