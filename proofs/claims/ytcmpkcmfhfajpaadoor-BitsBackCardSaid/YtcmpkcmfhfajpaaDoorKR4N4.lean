
/-
  THE WALK of WireSums.
  THE WALK of WireNumbers.
  layer 1: the reference's Seal and Sealed, upon a row of one's own.
  THE WALK of WireSeals.
  A LAW for regions that draw their order, walked step by step: operations are taken first where their value is the same in every world that meets S; S is asked anew only behind those operations that may come up while such a one is still to come ('need'); what is left branches over what may come up. No program in sight.
  THE WALK of slices.Clone of bytes.
  PLAIN: layer 5 (bits): chunks, buddies, and how a row of free bits is parted. No program in sight.
  PLAIN: layer 5 (bits): what the program reckons of the buddies, and that it is so.
-/
import Derived.Test.YtcmpkcmfhfajpaaDoorKR4N3
import Derived.WalkSpells
import Derived.RowKit
namespace Go.Proofs.YtcmpkcmfhfajpaaDoor.Wire
open Go.RowKit
set_option maxHeartbeats 8000000
set_option maxRecDepth 100000
set_option linter.unusedVariables false
set_option linter.unusedSimpArgs false

theorem own_head {w : World} {base g n c : Nat} {bs : List UInt8} {x y : UInt8} (h : w.ownsRow base 5 1 (.slice (some ⟨g, 0, none⟩) (n + 2) c) (n + 2) (bvl (bs ++ [x, y]))) (hbl : bs.length = n) :
    BytesAt w (some ⟨g, 0, none⟩) n bs ∧ n ≤ c ∧ c ≤ 9223372036854775807 := by
  have hb := (BytesAt.of_own h).take_ n (by omega)
  rw [List.take_append_of_le_length (by omega), List.take_of_length_le (by omega)] at hb
  obtain ⟨cs, _, _, h1, h2, _⟩ := own_blk h
  exact ⟨hb, by omega, by unfold maxLen at h2; omega⟩

end Go.Proofs.YtcmpkcmfhfajpaaDoor.Wire

namespace Go.Proofs.YtcmpkcmfhfajpaaDoor.Wire
open Go.RowKit
set_option maxHeartbeats 8000000
set_option maxRecDepth 100000
set_option linter.unusedVariables false
set_option linter.unusedSimpArgs false

/-- Two rows made one behind the other lie apart. -/
theorem own_apart {w : World} {b1 b2 g n c m : Nat} {t : TypeId} {v : Value} {xs ys : List Value} (h : w.ownsRow b1 t 1 (.slice (some ⟨g, 0, none⟩) n c) n xs) (hlt : g < b2)
    (h2 : w.ownsRow b2 t 1 v m ys) : v.ownBlock ≠ some g := by
  intro e
  have := (h2.lt g e).1
  omega
theorem own_kept {w w' : World} {base : Nat} {t : TypeId} {v : Value} {n : Nat} {xs : List Value} {row : Option Nat} (h : w.ownsRow base t 1 v n xs) (hb : w.grownBy w' row) (hne : row ≠ v.ownBlock) : w'.ownsRow base t 1 v n xs :=
  h.kept hb (.inr fun e => hne e.symm)
theorem own_len {w : World} {base N n : Nat} {v : Value} {bs : List UInt8} {x y : UInt8} (h : w.ownsRow base 5 1 v (n + 2) (bvl (bs ++ [x, y]))) : bs.length = n := by
  have := h.1
  rw [bvl_length] at this
  simp at this; omega

end Go.Proofs.YtcmpkcmfhfajpaaDoor.Wire

namespace Go.Proofs.YtcmpkcmfhfajpaaDoor.Wire
open Go.RowKit
set_option maxHeartbeats 8000000
set_option maxRecDepth 100000
set_option linter.unusedVariables false
set_option linter.unusedSimpArgs false

theorem ref_sealed_any (A : Option Addr) (len cap : Nat) (seed : BitVec 32) (bs : List UInt8) (w : World) (hl : len ≤ cap) (hcp : cap ≤ 9223372036854775807) (hby : BytesAt w A len bs) :
    Calls Tryd.prog 38 #[.slice A len cap, .int .u32 (seed.toNat : Int)] w fun e w' => e = .returned (.bool (sealedB seed bs)) ∧ w = w' := by
  have hlen := hby.len
  by_cases h4 : 4 ≤ len
  · obtain ⟨a, c, rfl, _, _⟩ := hby.at_ (k := 0) (by omega)
    have hto : ((len : Int) - 4).toNat = len - 4 := by omega
    have hgx : getX bs ((len : Int) - 4) 4 = num (bs.drop (len - 4)) := by
      rw [getX, hlen, if_pos (fits4 h4), sub, hto, List.take_of_length_le (by rw [List.length_drop]; show _ ≤ 4; omega)]
    have HG := Lib.hid (ref_get (some a) len cap ((len : Int) - 4) 4 bs w hl hcp hby)
    rw [hgx] at HG
    have HC := Lib.hid (ref_crc seed (some a) (len - 4) cap (bs.take (len - 4)) w (by omega) (hby.take_ (len - 4) (by omega)))
    have hsb : sealedB seed bs = ((num (bs.drop (len - 4)) : Int) == ((crc seed (bs.take (len - 4))).toNat : Int)) := by
      unfold sealedB
      rw [hlen]
      simp only [h4, decide_true, Bool.true_and]
      rw [Bool.eq_iff_iff]; simp only [beq_iff_eq]; omega
    have HSB := Lib.hid hsb
    have h32 : IntKind.u64.wrap ((crc seed (bs.take (len - 4))).toNat : Int) = ((crc seed (bs.take (len - 4))).toNat : Int) := by
      have := (crc seed (bs.take (len - 4))).isLt
      rw [IntKind.wrap_u64]; omega
    have i0 : (0 : Int) ≤ (len : Int) - 4 := by omega
    have i1 : (len : Int) - 4 ≤ (cap : Int) := by omega
    have i2 : ¬ (len : Int) < 4 := by omega
    have hd : decide ((len : Int) < 4) = false := by simp; omega
    have hge : getE len ((len : Int) - 4) 4 = 0 := by rw [getE, if_pos (fits4 h4)]
    rw [hge] at HG
    clear hgx hsb hby hge
    go_enter Tryd.func38, Tryd.ntmps38
    go_wp2_with (first | (go_at_call 50; refine HG.out.mono ?_; rintro e w' ⟨rfl, rfl⟩) | (go_at_call 51; refine HC.out.mono ?_; rintro e w' ⟨rfl, rfl⟩))
    go_ret
    exact ⟨ret_bool HSB.out.symm, rfl⟩
  · have hsb : sealedB seed bs = false := by simp [sealedB, hlen]; omega
    have HSB := Lib.hid hsb
    have hd : decide ((len : Int) < 4) = true := by simp; omega
    have hlt : (len : Int) < 4 := by omega
    clear hsb hby
    go_enter Tryd.func38, Tryd.ntmps38
    go_wp2_with fail
    go_ret
    exact ⟨ret_bool HSB.out.symm, rfl⟩

theorem ref_seal_row (base n c : Nat) (A : Option Addr) (bs : List UInt8) (seed : BitVec 32) (w : World) (hbl : bs.length = n)
    (hown : w.ownsRow base 5 1 (.slice A n c) n (bvl bs)) :
    Calls Tryd.prog 48 #[.slice A n c, .int .u32 (seed.toNat : Int)] w fun e w' => e = .returned (.int .i64 (sealE n)) ∧
      w'.ownsRow base 5 1 (.slice A n c) n (bvl (sealB seed bs)) ∧ w.grownBy w' (Value.slice A n c).ownBlock := by
  obtain ⟨A', c', e0, hby, hnc, hcm, _, _⟩ := own_slice hown
  obtain ⟨rfl, rfl⟩ : A = A' ∧ c = c' := by injection e0 with e1 e2 e3; exact ⟨e1, e3⟩
  have hc64 : c ≤ 9223372036854775807 := by unfold maxLen at hcm; omega
  by_cases h4 : 4 ≤ n
  · have e1 : sealE n = 0 := by simp [sealE, h4]
    rw [e1]
    obtain ⟨a, u, rfl, _, _⟩ := hby.at_ (k := 0) (by omega)
    have hx : (crc seed (bs.take (n - 4))).toNat < 256 ^ 4 := (crc seed (bs.take (n - 4))).isLt
    have hto : ((n : Int) - 4).toNat = n - 4 := by omega
    have hp := ref_put_row base n c (some a) bs ((n : Int) - 4) 4 (crc seed (bs.take (n - 4))).toNat w (by omega) hbl hown
    have hpe : putE n ((n : Int) - 4) 4 (crc seed (bs.take (n - 4))).toNat = 0 := by
      rw [putE, if_pos (fits4 h4), if_pos (show _ < 256 ^ Int.toNat 4 from hx)]
    have hpb : putB bs ((n : Int) - 4) 4 (crc seed (bs.take (n - 4))).toNat = sealB seed bs := by
      rw [sealB_lays seed bs (by omega), hbl, putB, hbl, if_pos (fits4 h4), if_pos (show _ < 256 ^ Int.toNat 4 from hx), hto]; rfl
    rw [hpe, hpb] at hp
    have HP := Lib.hid hp
    have HC := Lib.hid (ref_crc seed (some a) (n - 4) c (bs.take (n - 4)) w (by omega) (hby.take_ (n - 4) (by omega)))
    have h32 : IntKind.u64.wrap ((crc seed (bs.take (n - 4))).toNat : Int) = ((crc seed (bs.take (n - 4))).toNat : Int) := by
      have := (crc seed (bs.take (n - 4))).isLt
      rw [IntKind.wrap_u64]; omega
    have i0 : (0 : Int) ≤ (n : Int) - 4 := by omega
    have i1 : (n : Int) - 4 ≤ (c : Int) := by omega
    have i2 : ¬ (n : Int) < 4 := by omega
    have hd : decide ((n : Int) < 4) = false := by simp; omega
    clear hp hpe hpb hby hown hx hcm
    go_enter Tryd.func48, Tryd.ntmps48
    go_wp2_with (first | (go_at_call 51; refine HC.out.mono ?_; rintro e w' ⟨rfl, rfl⟩) | (go_at_call 56; refine HP.out.mono ?_; rintro e w' ⟨rfl, ho, hg⟩))
    go_ret
    exact ⟨rfl, ho, hg⟩
  · have e1 : sealE n = 22 := by simp [sealE, h4]
    have e2 : sealB seed bs = bs := by rw [sealB, if_neg (by omega)]
    rw [e1, e2]
    have HO := Lib.hid hown
    have hd : decide ((n : Int) < 4) = true := by simp; omega
    have hlt : (n : Int) < 4 := by omega
    clear hown hby
    go_enter Tryd.func48, Tryd.ntmps48
    go_wp2_with fail
    go_ret
    exact ⟨rfl, HO.out, World.grownBy.refl _ _⟩
end Go.Proofs.YtcmpkcmfhfajpaaDoor.Wire

namespace Go.Proofs.YtcmpkcmfhfajpaaDoor.Wire
open Go.RowKit
set_option maxHeartbeats 8000000
set_option maxRecDepth 100000
set_option linter.unusedVariables false
set_option linter.unusedSimpArgs false

theorem own_bytes {w : World} {base n c : Nat} {A : Option Addr} {bs : List UInt8} (h : w.ownsRow base 5 1 (.slice A n c) n (bvl bs)) : BytesAt w A n bs := by
  obtain ⟨A2, c2, e2, h2, _⟩ := own_slice h
  injection e2 with e2 _ _
  rw [e2]; exact h2

end Go.Proofs.YtcmpkcmfhfajpaaDoor.Wire

namespace Go.Proofs.YtcmpkcmfhfajpaaDoor
open Go.RowKit
section
variable {P : Program} {ops : Array Oper} {md : Region.Mode} {Q : Exit → Act → World → Prop} {S : World → Prop} {need : Nat → Bool}

/-- Behind operation i S holds, where it is needed. -/
def wpAnyN (P : Program) (md : Region.Mode) (ops : Array Oper) (Q : Exit → Act → World → Prop) (S : World → Prop) (need : Nat → Bool) : Nat → Array Bool → Act → World → Prop
  | 0, listed, a, w => Region.ready md ops listed = [] ∧ Q .normal a w
  | fuel + 1, listed, a, w =>
    (Region.ready md ops listed = [] → Q .normal a w) ∧
    ∀ i ∈ Region.ready md ops listed, wpOp P ops Q i (fun a' w' => (need i = true → S w') ∧ wpAnyN P md ops Q S need fuel (listed.setIfInBounds i true) a' w') a w
theorem wpAny_of_need : ∀ (fuel : Nat) (listed : Array Bool) (a : Act) (w : World), wpAnyN P md ops Q S need fuel listed a w → wpAny P md ops Q fuel listed a w
  | 0, _, _, _, h => h
  | fuel + 1, _, _, _, h => ⟨h.1, fun i hi => wpOp_mono (fun a' w' h' => wpAny_of_need fuel _ a' w' h'.2) (h.2 i hi)⟩

/-- What is listed has all listed that it waits for. -/
def Closed (md : Region.Mode) (ops : Array Oper) (listed : Array Bool) : Prop :=
  ∀ j oj, ops[j]? = some oj → listed.getD j false = true → ∀ e ∈ oj.after, Region.binds md e = true → listed.getD e.on false = true
theorem Closed.start (md : Region.Mode) (ops : Array Oper) (n : Nat) : Closed md ops (Array.replicate n false) := fun j oj _ h => by
  rw [getD_replicate_false] at h; cases h
theorem Closed.set {listed : Array Bool} {i : Nat} (hc : Closed md ops listed) (hi : i ∈ Region.ready md ops listed) : Closed md ops (listed.setIfInBounds i true) := by
  obtain ⟨_, oi, hoi, hall⟩ := mem_ready.1 hi
  intro j oj hj hl e he hb
  by_cases hij : i = j
  · subst hij
    have : oj = oi := Option.some.inj (hj.symm.trans hoi)
    subst this
    exact getD_set_true (hall e he hb)
  · rw [getD_set_ne false hij] at hl
    exact getD_set_true (hc j oj hj hl e he hb)
/-- j waits for k, maybe through others. -/
inductive Waits (md : Region.Mode) (ops : Array Oper) (k : Nat) : Nat → Prop
  | one {j : Nat} : Region.waitsFor md ops j k = true → Waits md ops k j
  | more {j m : Nat} : Region.waitsFor md ops j m = true → Waits md ops k m → Waits md ops k j
theorem Waits.listed {k j : Nat} {listed : Array Bool} (h : Waits md ops k j) (hc : Closed md ops listed) : listed.getD j false = true → listed.getD k false = true := by
  induction h with
  | one h =>
    intro hl
    obtain ⟨oj, hoj, e, he, hb, hon⟩ := Region.waitsFor_spec h
    have := hc _ oj hoj hl e he hb
    rwa [hon] at this
  | more h _ ih =>
    intro hl
    obtain ⟨oj, hoj, e, he, hb, hon⟩ := Region.waitsFor_spec h
    have := hc _ oj hoj hl e he hb
    rw [hon] at this
    exact ih this
theorem Waits.ready {k j : Nat} {listed : Array Bool} (h : Waits md ops k j) (hc : Closed md ops listed) (hr : j ∈ Region.ready md ops listed) : listed.getD k false = true := by
  obtain ⟨_, oj, hoj, hall⟩ := mem_ready.1 hr
  cases h with
  | one h =>
    obtain ⟨o', ho', e, he, hb, hon⟩ := Region.waitsFor_spec h
    have : o' = oj := Option.some.inj (ho'.symm.trans hoj)
    subst this
    have := hall e he hb
    rwa [hon] at this
  | more h hm =>
    obtain ⟨o', ho', e, he, hb, hon⟩ := Region.waitsFor_spec h
    have : o' = oj := Option.some.inj (ho'.symm.trans hoj)
    subst this
    have := hall e he hb
    rw [hon] at this
    exact hm.listed hc this
/-- Who waits for k, reckoned in the text's order: a list of places. -/
def waiters (md : Region.Mode) (ops : Array Oper) (k : Nat) : Nat → List Nat
  | 0 => []
  | n + 1 => let l := waiters md ops k n; if Region.waitsFor md ops n k || l.any (fun m => Region.waitsFor md ops n m) then n :: l else l
theorem waiters_spec {k : Nat} : ∀ (n j : Nat), j ∈ waiters md ops k n → Waits md ops k j
  | 0, j, h => by simp [waiters] at h
  | n + 1, j, h => by
    simp only [waiters] at h
    split at h
    · rename_i hc
      rcases List.mem_cons.1 h with rfl | h
      · simp only [Bool.or_eq_true, List.any_eq_true] at hc
        rcases hc with hc | ⟨m, hm, hc⟩
        · exact .one hc
        · exact .more hc (waiters_spec _ m hm)
      · exact waiters_spec n j h
    · exact waiters_spec n j h
/-- May operation i be taken first now? -/
def takeOk (md : Region.Mode) (ops : Array Oper) (need : Nat → Bool) (listed : Array Bool) (i : Nat) : Bool :=
  Region.noSelect ops && ((Region.ready md ops listed).contains i && (Region.free md ops listed i &&
    (let l := waiters md ops i ops.size; (List.range ops.size).all fun j => need j || (listed.getD j true || l.contains j))))

theorem wpAnyN_first {i : Nat} {oi : Oper} {v : Value} (hi : ops[i]? = some oi) (hsel : ∀ (j : Nat) (o : Oper) cs b, ops[j]? = some o → o.op ≠ .select cs b)
    (hQ : ∀ c a w, Q (.panic c) (a.put oi.dst v) w → Q (.panic c) a w) : ∀ (fuel : Nat) (listed : Array Bool) (a : Act) (w : World),
      Closed md ops listed → (∀ j, need j = false → listed.getD j true = false → Waits md ops i j) →
      (∀ j oj, ops[j]? = some oj → j ≠ i → listed.getD j true = false → (∀ e ∈ oj.after, Region.binds md e = true → e.on ≠ i) → oi.apart ops oj = true) →
      i ∈ Region.ready md ops listed → YI P ops S oi v a → S w →
      wpAnyN P md ops Q S need fuel (listed.setIfInBounds i true) (a.put oi.dst v) w → wpAnyN P md ops Q S need (fuel + 1) listed a w
  | fuel, listed, a, w, hcl, hwt, hfree, hr, hy, hS, H => by
    refine ⟨fun h => (by rw [h] at hr; cases hr), fun j hj => ?_⟩
    by_cases hji : j = i
    · subst hji; exact hy.wpOp hi hS ⟨fun _ => hS, H⟩
    · obtain ⟨hjun, oj, hoj, hall⟩ := mem_ready.1 hj
      have hiun := getD_falseT (mem_ready.1 hr).1
      have hneed : need j = true := by
        cases hn : need j
        · have := (hwt j hn hjun).ready hcl hj
          rw [hiun] at this; cases this
        · rfl
      cases fuel with
      | zero =>
        have := ready_mono hj hji
        rw [H.1] at this
        cases this
      | succ fuel =>
        have h1 := H.2 j (ready_mono hj hji)
        have hnot : ∀ e ∈ oj.after, Region.binds md e = true → e.on ≠ i := fun e he hb heq => by
          have h1 := hall e he hb
          rw [heq, hiun] at h1
          cases h1
        have hap := hfree j oj hoj hji hjun hnot
        obtain ⟨a1, a2, a3⟩ := Oper.apart_spec hap
        have h2 := wpOp_putY (Y := fun a' => YI P ops S oi v a') hoj hap (fun cs b => hsel j oj cs b hoj) hQ
          (fun a hy u => hy.of_same (execOp_put oi (fun cs b => hsel i oi cs b hi) a oj.dst u a3) (wanted_put oi a oj.dst u a3)) (fun a d hy => hy.of_same rfl rfl) hy h1
        have hun' : ∀ k, (listed.setIfInBounds j true).getD k true = false → listed.getD k true = false := fun k hun => by
          by_cases hjk : j = k
          · subst hjk; exact hjun
          · rwa [getD_set_ne true hjk] at hun
        refine wpOp_mono (fun a' w' h3 => ⟨fun _ => h3.2.1 hneed, wpAnyN_first hi hsel hQ fuel (listed.setIfInBounds j true) a' w' (hcl.set hj) (fun k hk hun => hwt k hk (hun' k hun))
          (fun k ok hk hki hun hno => hfree k ok hk hki (hun' k hun) hno) (ready_mono hr (Ne.symm hji)) h3.1 (h3.2.1 hneed) ?_⟩) h2
        rw [Array.setIfInBounds_comm _ _ hji]
        exact h3.2.2

/-- As wpAnyN, closed to unfolding. -/
structure NW (P : Program) (md : Region.Mode) (ops : Array Oper) (Q : Exit → Act → World → Prop) (S : World → Prop) (need : Nat → Bool) (fuel : Nat) (listed : Array Bool) (a : Act) (w : World) : Prop where
  out : Closed md ops listed → wpAnyN P md ops Q S need fuel listed a w
theorem region_need {id : Nat} {a : Act} {w : World} (S : World → Prop) (need : Nat → Bool) (hm : P.follows .mixedOrders = true)
    (h : NW P .any ops Q S need ops.size (Array.replicate ops.size false) a w.drew) : (Code.region id ops true).wp P Q a w :=
  wp_region_any hm (wpAny_of_need _ _ _ _ (h.out (Closed.start _ _ _)))
theorem region_need_at {id : Nat} {a : Act} {w v : World} (S : World → Prop) (need : Nat → Bool) (hv : w.drew = v) (hm : P.follows .mixedOrders = true)
    (h : NW P .any ops Q S need ops.size (Array.replicate ops.size false) a v) : (Code.region id ops true).wp P Q a w := by
  subst hv; exact region_need S need hm h
theorem takeOk_spec {listed : Array Bool} {i : Nat} (h : takeOk md ops need listed i = true) : Region.noSelect ops = true ∧ i ∈ Region.ready md ops listed ∧ Region.free md ops listed i = true ∧
    ∀ j, need j = false → listed.getD j true = false → j < ops.size → Waits md ops i j := by
  simp only [takeOk, Bool.and_eq_true, List.all_eq_true, List.mem_range, Bool.or_eq_true] at h
  refine ⟨h.1, by simpa using h.2.1, h.2.2.1, fun j hn hu hj => ?_⟩
  rcases h.2.2.2 j hj with h' | h' | h'
  · rw [hn] at h'; cases h'
  · rw [hu] at h'; cases h'
  · exact waiters_spec _ j (by simpa using h')
theorem nw_put {i fuel : Nat} {oi : Oper} {v : Value} {listed : Array Bool} {a : Act} {w : World} (hi : ops[i]? = some oi) (hsz : listed.size = ops.size) (hk : takeOk md ops need listed i = true) (hQ : ∀ c (a : Act) d v w, Q (.panic c) (a.put d v) w → Q (.panic c) a w)
    (hy : YI P ops S oi v a) (hS : S w) (h : NW P md ops Q S need fuel (listed.setIfInBounds i true) (a.put oi.dst v) w) : NW P md ops Q S need (fuel + 1) listed a w := by
  obtain ⟨h1, h2, h3, h4⟩ := takeOk_spec hk
  refine ⟨fun hc => wpAnyN_first hi (Region.noSelect_spec h1) (fun c a w => hQ c a _ _ w) fuel listed a w hc (fun j hn hu => h4 j hn hu ?_) (Region.free_spec hi h3) h2 hy hS (h.out (hc.set h2))⟩
  rcases Nat.lt_or_ge j listed.size with h | h
  · omega
  · rw [Array.getD_eq_getD_getElem?, Array.getElem?_eq_none h] at hu; cases hu
theorem nw_take {i fuel : Nat} {oi : Oper} {v : Value} {listed : Array Bool} {a : Act} {w : World} (hi : ops[i]? = some oi) (hsz : listed.size = ops.size) (hk : takeOk md ops need listed i = true) (hQ : ∀ c (a : Act) d v w, Q (.panic c) (a.put d v) w → Q (.panic c) a w) (hS : S w)
    (hw : Region.wanted oi (yielded ops a.tmps) = true) (hy : ∀ w', S w' → (execOp a.eval oi).run P w' = .ok (.value v) w')
    (h : ∀ K : Act → Prop, (∀ a', NW P md ops Q S need fuel (listed.setIfInBounds i true) a' w → K a') → K (a.put oi.dst v)) : NW P md ops Q S need (fuel + 1) listed a w :=
  nw_put hi hsz hk hQ (.inl ⟨hw, fun w' hs => .inl (hy w' hs)⟩) hS (h (fun a' => NW P md ops Q S need fuel (listed.setIfInBounds i true) a' w) fun _ h => h)
theorem nw_skip {i fuel : Nat} {oi : Oper} {listed : Array Bool} {a : Act} {w : World} (hi : ops[i]? = some oi) (hsz : listed.size = ops.size) (hk : takeOk md ops need listed i = true) (hQ : ∀ c (a : Act) d v w, Q (.panic c) (a.put d v) w → Q (.panic c) a w) (hS : S w)
    (hw : Region.wanted oi (yielded ops a.tmps) = false)
    (h : ∀ K : Act → Prop, (∀ a', NW P md ops Q S need fuel (listed.setIfInBounds i true) a' w → K a') → K (a.put oi.dst undef)) : NW P md ops Q S need (fuel + 1) listed a w :=
  nw_put hi hsz hk hQ (.inr ⟨hw, rfl⟩) hS (h (fun a' => NW P md ops Q S need fuel (listed.setIfInBounds i true) a' w) fun _ h => h)
theorem nw_call {i fuel : Nat} {oi : Oper} {v : Value} {f : FuncId} {args : Array Value} {listed : Array Bool} {a : Act} {w : World} (hi : ops[i]? = some oi) (hsz : listed.size = ops.size) (hk : takeOk md ops need listed i = true) (hQ : ∀ c (a : Act) d v w, Q (.panic c) (a.put d v) w → Q (.panic c) a w) (hS : S w)
    (hw : Region.wanted oi (yielded ops a.tmps) = true) (hy : ∀ w', S w' → (execOp a.eval oi).run P w' = .ok (.enter f args) w')
    (hc : ∀ w', S w' → Calls P f args w' fun e w'' => e = .returned v ∧ w'' = w')
    (h : ∀ K : Act → Prop, (∀ a', NW P md ops Q S need fuel (listed.setIfInBounds i true) a' w → K a') → K (a.put oi.dst v)) : NW P md ops Q S need (fuel + 1) listed a w :=
  nw_put hi hsz hk hQ (.inl ⟨hw, fun w' hs => .inr ⟨f, args, hy w' hs, hc w' hs⟩⟩) hS (h (fun a' => NW P md ops Q S need fuel (listed.setIfInBounds i true) a' w) fun _ h => h)
/-- An operation whose value is the same in every world. -/
theorem wpAnyN_free {i : Nat} {oi : Oper} {v : Value} (hi : ops[i]? = some oi) (hsel : ∀ (j : Nat) (o : Oper) cs b, ops[j]? = some o → o.op ≠ .select cs b) (hn : need i = false)
    (hQ : ∀ c a w, Q (.panic c) (a.put oi.dst v) w → Q (.panic c) a w) : ∀ (fuel : Nat) (listed : Array Bool) (a : Act) (w : World),
      (∀ j oj, ops[j]? = some oj → j ≠ i → listed.getD j true = false → (∀ e ∈ oj.after, Region.binds md e = true → e.on ≠ i) → oi.apart ops oj = true) →
      i ∈ Region.ready md ops listed → YI P ops (fun _ => True) oi v a →
      wpAnyN P md ops Q S need fuel (listed.setIfInBounds i true) (a.put oi.dst v) w → wpAnyN P md ops Q S need (fuel + 1) listed a w
  | fuel, listed, a, w, hfree, hr, hy, H => by
    refine ⟨fun h => (by rw [h] at hr; cases hr), fun j hj => ?_⟩
    by_cases hji : j = i
    · subst hji; exact hy.wpOp hi trivial ⟨(fun h => by rw [hn] at h; cases h), H⟩
    · obtain ⟨hjun, oj, hoj, hall⟩ := mem_ready.1 hj
      have hiun := getD_falseT (mem_ready.1 hr).1
      cases fuel with
      | zero =>
        have := ready_mono hj hji
        rw [H.1] at this
        cases this
      | succ fuel =>
        have h1 := H.2 j (ready_mono hj hji)
        have hnot : ∀ e ∈ oj.after, Region.binds md e = true → e.on ≠ i := fun e he hb heq => by
          have h1 := hall e he hb
          rw [heq, hiun] at h1
          cases h1
        have hap := hfree j oj hoj hji hjun hnot
        obtain ⟨a1, a2, a3⟩ := Oper.apart_spec hap
        have h2 := wpOp_putY (Y := fun a' => YI P ops (fun _ => True) oi v a') hoj hap (fun cs b => hsel j oj cs b hoj) hQ
          (fun a hy u => hy.of_same (execOp_put oi (fun cs b => hsel i oi cs b hi) a oj.dst u a3) (wanted_put oi a oj.dst u a3)) (fun a d hy => hy.of_same rfl rfl) hy h1
        have hun' : ∀ k, (listed.setIfInBounds j true).getD k true = false → listed.getD k true = false := fun k hun => by
          by_cases hjk : j = k
          · subst hjk; exact hjun
          · rwa [getD_set_ne true hjk] at hun
        refine wpOp_mono (fun a' w' h3 => ⟨h3.2.1, wpAnyN_free hi hsel hn hQ fuel (listed.setIfInBounds j true) a' w'
          (fun k ok hk hki hun hno => hfree k ok hk hki (hun' k hun) hno) (ready_mono hr (Ne.symm hji)) h3.1 ?_⟩) h2
        rw [Array.setIfInBounds_comm _ _ hji]
        exact h3.2.2
theorem nw_free {i fuel : Nat} {oi : Oper} {v : Value} {listed : Array Bool} {a : Act} {w : World} (hi : ops[i]? = some oi) (hk : (Region.noSelect ops && ((Region.ready md ops listed).contains i && (Region.free md ops listed i && !need i))) = true) (hQ : ∀ c (a : Act) d v w, Q (.panic c) (a.put d v) w → Q (.panic c) a w)
    (hw : Region.wanted oi (yielded ops a.tmps) = true) (hy : ∀ w', (execOp a.eval oi).run P w' = .ok (.value v) w')
    (h : ∀ K : Act → Prop, (∀ a', NW P md ops Q S need fuel (listed.setIfInBounds i true) a' w → K a') → K (a.put oi.dst v)) : NW P md ops Q S need (fuel + 1) listed a w := by
  simp only [Bool.and_eq_true, Bool.not_eq_true'] at hk
  have h2 : i ∈ Region.ready md ops listed := by simpa using hk.2.1
  exact ⟨fun hc => wpAnyN_free hi (Region.noSelect_spec hk.1) hk.2.2.2 (fun c a w => hQ c a _ _ w) fuel listed a w (Region.free_spec hi hk.2.2.1) h2 (.inl ⟨hw, fun w' _ => .inl (hy w')⟩)
    ((h (fun a' => NW P md ops Q S need fuel (listed.setIfInBounds i true) a' w) fun _ h => h).out (hc.set h2))⟩
/-- Whichever of those that may come up now comes up. -/
theorem nw_branch {rs : List Nat} {fuel : Nat} {listed : Array Bool} {a : Act} {w : World} (hr : Region.ready md ops listed = rs) (hne : rs ≠ [])
    (h : ∀ i ∈ rs, ∃ oi, ops[i]? = some oi ∧ ∀ K : Act → World → Prop, Hid (∀ a' w', (need i = true → S w') → NW P md ops Q S need fuel (listed.setIfInBounds i true) a' w' → K a' w') →
      if Region.wanted oi (yielded ops a.tmps) = true then oi.wp P a w K Q else K (a.put oi.dst undef) w) : NW P md ops Q S need (fuel + 1) listed a w := by
  refine ⟨fun hc => ⟨fun h0 => absurd (hr ▸ h0) hne, fun i hi => ?_⟩⟩
  obtain ⟨oi, hoi, hk⟩ := h i (hr ▸ hi)
  have := hk (fun a' w' => (need i = true → S w') ∧ wpAnyN P md ops Q S need fuel (listed.setIfInBounds i true) a' w') (Lib.hid fun a' w' h1 h2 => ⟨h1, h2.out (hc.set hi)⟩)
  unfold wpOp
  simp only [hoi]
  split
  · rename_i hw
    rw [if_pos hw] at this
    exact .inl this
  · rename_i hw
    rw [if_neg hw] at this
    exact this
theorem nw_one {i fuel : Nat} {oi : Oper} {E : Prop} {listed : Array Bool} {a : Act} {w : World} (hi : ops[i]? = some oi) (hr : Region.ready md ops listed = [i])
    (h : ∀ K : Act → World → Prop, Hid (∀ a' w', (need i = true → S w') → NW P md ops Q S need fuel (listed.setIfInBounds i true) a' w' → K a' w') →
      if Region.wanted oi (yielded ops a.tmps) = true then oi.wp P a w K Q else E) (hw : Region.wanted oi (yielded ops a.tmps) = true) : NW P md ops Q S need (fuel + 1) listed a w :=
  nw_branch hr (by simp) fun j hj => by
    obtain rfl : j = i := by simpa using hj
    exact ⟨oi, hi, fun K hK => by have := h K hK; rw [if_pos hw] at this ⊢; exact this⟩
theorem nw_two {i j fuel : Nat} {oi oj : Oper} {E E' : Prop} {listed : Array Bool} {a : Act} {w : World} (hi : ops[i]? = some oi) (hj : ops[j]? = some oj) (hr : Region.ready md ops listed = [i, j])
    (hwi : Region.wanted oi (yielded ops a.tmps) = true) (hwj : Region.wanted oj (yielded ops a.tmps) = true)
    (h : ∀ K : Act → World → Prop, Hid (∀ a' w', (need i = true → S w') → NW P md ops Q S need fuel (listed.setIfInBounds i true) a' w' → K a' w') →
      if Region.wanted oi (yielded ops a.tmps) = true then oi.wp P a w K Q else E)
    (h' : ∀ K : Act → World → Prop, Hid (∀ a' w', (need j = true → S w') → NW P md ops Q S need fuel (listed.setIfInBounds j true) a' w' → K a' w') →
      if Region.wanted oj (yielded ops a.tmps) = true then oj.wp P a w K Q else E') : NW P md ops Q S need (fuel + 1) listed a w :=
  nw_branch hr (by simp) fun k hk => by
    rcases List.mem_cons.1 hk with rfl | hk
    · exact ⟨oi, hi, fun K hK => by have := h K hK; rw [if_pos hwi] at this ⊢; exact this⟩
    · obtain rfl : k = j := by simpa using hk
      exact ⟨oj, hj, fun K hK => by have := h' K hK; rw [if_pos hwj] at this ⊢; exact this⟩
theorem nw_end {fuel : Nat} {listed : Array Bool} {a : Act} {w : World} (hr : Region.ready md ops listed = []) (h : Q .normal a w) : NW P md ops Q S need fuel listed a w :=
  ⟨fun _ => by
    cases fuel with
    | zero => exact ⟨hr, h⟩
    | succ n => exact ⟨fun _ => h, by rw [hr]; simp⟩⟩
end
end Go.Proofs.YtcmpkcmfhfajpaaDoor

namespace Go.Proofs.YtcmpkcmfhfajpaaDoor.Bits
open Go.RowKit Go.Proofs.YtcmpkcmfhfajpaaDoor
set_option maxHeartbeats 8000000
set_option maxRecDepth 100000
set_option linter.unusedVariables false
set_option linter.unusedSimpArgs false

theorem clone_any (A : Option Addr) (n c : Nat) (bs : List UInt8) (w : World) (hn : n ≤ 140737488351232) (hA : A = none → n = 0 ∧ c = 0) (hb : BytesAt w A n bs) :
    Calls Tryd.prog 35 #[.slice A n c] w fun e w' => ∃ v, e = .returned v ∧ Below w.heap.size w w' ∧ w'.ownsRow w.heap.size 5 1 v n (bvl bs) := by
  cases A with
  | none =>
    obtain ⟨rfl, rfl⟩ := hA rfl
    have e : bs = [] := List.eq_nil_of_length_eq_zero hb.len
    subst e
    clear hb hA
    have heq := fun w => Lib.run_eql_slice_nil (P := Tryd.prog) w 22 5 none 0 0 0 0 Tryd.underlying22
    go_enter Tryd.func35, Tryd.ntmps35
    go_wp2
    go_ret
    exact ⟨_, rfl, Below.refl _ _, World.ownsRow_nil _ _ _ _⟩
  | some a =>
    have heq := fun w => Lib.run_eql_slice_nil (P := Tryd.prog) w 22 5 (some a) n c 0 0 Tryd.underlying22
    have HB := Lib.hid (hb.alloc (.cells (bvl []).toArray 5))
    have HO := Lib.hid (lit_ownN w 5 1 (bvl []) 0 rfl (by unfold maxLen; omega))
    have HE := Lib.hid ((Below.refl w.heap.size w).alloc (Nat.le_refl _) (.cells (bvl []).toArray 5))
    clear hb
    go_enter Tryd.func35, Tryd.ntmps35
    go_wp2_with (first
      | (at_builtin
         refine app_u8 _ rfl (.tmp 5) (.tmp 6) rfl w.heap.size (.slice (some ⟨w.heap.size, 0, none⟩) 0 0) 0 (bvl []) rfl HO.out (some a) n c bs rfl (fun e => by cases e) HB.out (by omega) (by simp) ?_
         intro v1 w1 hown1 hg1
         have bel1 := Lib.hid (below_own HO.out HE.out (Nat.le_refl _) hg1)
         have own1 := Lib.hid hown1
         clear hown1 hg1)
      | fail)
    go_ret
    refine ⟨_, rfl, bel1.out, ?_⟩
    have := own1.out
    rw [Nat.zero_add, show bvl [] = [] from rfl, List.nil_append] at this
    exact this
end Go.Proofs.YtcmpkcmfhfajpaaDoor.Bits

namespace Go.Proofs.YtcmpkcmfhfajpaaDoor.Bits
open Go.RowKit
set_option linter.unusedVariables false
set_option linter.unusedSimpArgs false

/-- Is the chunk of order k from p on free? -/
def fr (s : Nat → Bool) (p k : Nat) : Prop := ∀ i, p ≤ i → i < p + 2 ^ k → s i = false
/-- Is it a buddy's? -/
def buddy (s : Nat → Bool) (p k : Nat) : Prop := 2 ^ k ∣ p ∧ k ≤ 10 ∧ fr s p k ∧ (k = 10 ∨ ¬ fr s (p - p % 2 ^ (k + 1)) (k + 1))
/-- No chunk that is free lies across a. -/
def NS (s : Nat → Bool) (a : Nat) : Prop := ∀ q j, j ≤ 10 → 2 ^ j ∣ q → fr s q j → ¬ (q < a ∧ a < q + 2 ^ j)
theorem dy1 {m x y : Nat} (hx : m ∣ x) (hy : m ∣ y) (h : x < y) : x + m ≤ y := by
  obtain ⟨a, rfl⟩ := hx
  obtain ⟨b, rfl⟩ := hy
  have : a < b := Nat.lt_of_mul_lt_mul_left h
  have := Nat.mul_le_mul_left m (show a + 1 ≤ b from this)
  rwa [Nat.mul_add, Nat.mul_one] at this
theorem pow_dvd {j k : Nat} (h : j ≤ k) : 2 ^ j ∣ 2 ^ k := Nat.pow_dvd_pow 2 h
theorem pow_pos2 (k : Nat) : 0 < 2 ^ k := Nat.two_pow_pos k
theorem fr_sub {s : Nat → Bool} {p k q j : Nat} (h : fr s p k) (h1 : p ≤ q) (h2 : q + 2 ^ j ≤ p + 2 ^ k) : fr s q j := fun i hi hj => h i (by omega) (by omega)
theorem NS_zero (s : Nat → Bool) : NS s 0 := fun q j _ _ _ h => by omega
theorem NS_set {s : Nat → Bool} {a : Nat} (h : s a = true) : NS s (a + 1) := fun q j _ _ hf ⟨h1, h2⟩ => by
  have := hf a (by omega) (by omega)
  rw [h] at this; cases this
theorem parent_dvd (p m : Nat) : m ∣ p - p % m := Nat.dvd_sub_mod p
theorem greedy {s : Nat → Bool} {a b k : Nat} (hns : NS s a) (hfree : ∀ i, a ≤ i → i < b → s i = false) (hb : s b = true) (hk : k ≤ 10) (hd : 2 ^ k ∣ a) (hle : a + 2 ^ k ≤ b)
    (hmax : k = 10 ∨ ¬ 2 ^ (k + 1) ∣ a ∨ b < a + 2 ^ (k + 1)) :
    buddy s a k ∧ NS s (a + 2 ^ k) ∧ ∀ p j, a ≤ p → p < a + 2 ^ k → buddy s p j → p = a ∧ j = k := by
  have hp := pow_pos2 k
  have hfa : fr s a k := fun i h1 h2 => hfree i h1 (by omega)
  -- a free chunk from a on ends in the row
  have hin : ∀ j, fr s a j → a + 2 ^ j ≤ b := fun j hf => by
    rcases Nat.lt_or_ge b (a + 2 ^ j) with h | h
    · have := hf b (by omega) h
      rw [hb] at this; cases this
    · exact h
  have hno : ∀ j, k < j → j ≤ 10 → 2 ^ j ∣ a → fr s a j → False := fun j h1 h2 h3 h4 => by
    have h5 := hin j h4
    have h6 : 2 ^ (k + 1) ≤ 2 ^ j := Nat.pow_le_pow_right (by omega) h1
    rcases hmax with h | h | h
    · omega
    · exact h (Nat.dvd_trans (pow_dvd h1) h3)
    · omega
  refine ⟨⟨hd, hk, hfa, ?_⟩, ?_, ?_⟩
  · rcases hmax with h | h | h
    · exact .inl h
    · by_cases h10 : k = 10
      · exact .inl h10
      · right
        intro hf
        have hm : a % 2 ^ (k + 1) ≠ 0 := fun e => h (Nat.dvd_of_mod_eq_zero e)
        have hlt : a % 2 ^ (k + 1) < 2 ^ (k + 1) := Nat.mod_lt _ (pow_pos2 _)
        have hle2 := Nat.mod_le a (2 ^ (k + 1))
        exact hns _ (k + 1) (by omega) (parent_dvd a (2 ^ (k + 1))) hf ⟨by omega, by omega⟩
    · by_cases h10 : k = 10
      · exact .inl h10
      · right
        intro hf
        by_cases hm : a % 2 ^ (k + 1) = 0
        · rw [hm, Nat.sub_zero] at hf
          have := hin _ hf
          omega
        · have hlt : a % 2 ^ (k + 1) < 2 ^ (k + 1) := Nat.mod_lt _ (pow_pos2 _)
          have hle2 := Nat.mod_le a (2 ^ (k + 1))
          exact hns _ (k + 1) (by omega) (parent_dvd a (2 ^ (k + 1))) hf ⟨by omega, by omega⟩
  · intro q j hj hdq hf ⟨h1, h2⟩
    have hq : a ≤ q := by
      rcases Nat.lt_or_ge q a with h | h
      · exact absurd ⟨h, by omega⟩ (hns q j hj hdq hf)
      · exact h
    rcases Nat.eq_or_lt_of_le hq with rfl | hlt
    · have : k < j := by
        rcases Nat.lt_or_ge k j with h | h
        · exact h
        · have := Nat.pow_le_pow_right (show 0 < 2 by omega) h
          omega
      exact hno j this hj hdq hf
    · rcases Nat.le_total j k with h | h
      · have := dy1 hdq ((Nat.dvd_add_right (Nat.dvd_trans (pow_dvd h) hd)).2 (pow_dvd h)) h1
        omega
      · have := dy1 hd (Nat.dvd_trans (pow_dvd h) hdq) hlt
        omega
  · intro p j hp1 hp2 ⟨hdp, hj, hf, hpar⟩
    rcases Nat.eq_or_lt_of_le hp1 with rfl | hlt
    · refine ⟨rfl, ?_⟩
      rcases Nat.lt_trichotomy j k with h | h | h
      · exfalso
        rcases hpar with h10 | hpar
        · omega
        · apply hpar
          have h3 : 2 ^ (j + 1) ∣ a := Nat.dvd_trans (pow_dvd h) hd
          rw [Nat.mod_eq_zero_of_dvd h3, Nat.sub_zero]
          have : 2 ^ (j + 1) ≤ 2 ^ k := Nat.pow_le_pow_right (by omega) h
          exact fr_sub hfa (Nat.le_refl _) (by omega)
      · exact h
      · exact (hno j h hj hdp hf).elim
    · exfalso
      rcases Nat.le_total k j with h | h
      · have := dy1 hd (Nat.dvd_trans (pow_dvd h) hdp) hlt
        omega
      · rcases Nat.eq_or_lt_of_le h with rfl | hjk
        · have := dy1 hd hdp hlt
          omega
        · rcases hpar with h10 | hpar
          · omega
          · apply hpar
            have h3 : 2 ^ (j + 1) ∣ a := Nat.dvd_trans (pow_dvd hjk) hd
            have h4 := parent_dvd p (2 ^ (j + 1))
            have h5 : 2 ^ (j + 1) ∣ a + 2 ^ k := (Nat.dvd_add_right h3).2 (pow_dvd hjk)
            have hm := Nat.mod_lt p (pow_pos2 (j + 1))
            have hm2 := Nat.mod_le p (2 ^ (j + 1))
            have h6 : a ≤ p - p % 2 ^ (j + 1) := by
              rcases Nat.lt_or_ge (p - p % 2 ^ (j + 1)) a with h | h
              · have := dy1 h4 h3 h
                omega
              · exact h
            have h7 := dy1 h4 h5 (by omega)
            exact fr_sub hfa h6 h7
end Go.Proofs.YtcmpkcmfhfajpaaDoor.Bits

namespace Go.Proofs.YtcmpkcmfhfajpaaDoor.Bits
open Go.RowKit
set_option linter.unusedVariables false
set_option linter.unusedSimpArgs false

/-! ### counts -/
open Classical in
noncomputable def cnt (s : Nat → Bool) (k : Nat) : Nat → Nat
  | 0 => 0
  | a + 1 => cnt s k a + (if buddy s a k then 1 else 0)
open Classical in
noncomputable def fst? (s : Nat → Bool) (k : Nat) : Nat → Option Nat
  | 0 => none
  | a + 1 => (fst? s k a).or (if buddy s a k then some a else none)
def zc (s : Nat → Bool) : Nat → Nat
  | 0 => 0
  | a + 1 => zc s a + (if s a = false then 1 else 0)
open Classical in
theorem fst_none {s : Nat → Bool} {k : Nat} : ∀ a, fst? s k a = none ↔ cnt s k a = 0
  | 0 => by simp [fst?, cnt]
  | a + 1 => by
    have ih := fst_none (s := s) (k := k) a
    simp only [fst?, cnt, Option.or_eq_none_iff]
    rw [ih]
    split <;> simp
theorem fst_some {s : Nat → Bool} {k : Nat} : ∀ a p, fst? s k a = some p → buddy s p k ∧ p < a ∧ ∀ q, q < p → ¬ buddy s q k
  | 0, p, h => by simp [fst?] at h
  | a + 1, p, h => by
    classical
    simp only [fst?] at h
    cases hf : fst? s k a with
    | some q =>
      rw [hf, Option.some_or] at h
      injection h with h
      subst h
      obtain ⟨h1, h2, h3⟩ := fst_some a q hf
      exact ⟨h1, by omega, h3⟩
    | none =>
      rw [hf, Option.none_or] at h
      split at h
      · rename_i hb
        injection h with h
        subst h
        refine ⟨hb, by omega, fun q hq hbq => ?_⟩
        have hc := (fst_none a).1 hf
        have : ∀ m, q < m → m ≤ a → 0 < cnt s k m := fun m => by
          induction m with
          | zero => intro h; omega
          | succ m ih =>
            intro h1 h2
            simp only [cnt]
            rcases Nat.lt_or_ge q m with h | h
            · have := ih h (by omega); omega
            · obtain rfl : q = m := by omega
              rw [if_pos hbq]; omega
        have := this a hq (Nat.le_refl _)
        omega
      · cases h
/-- A step over one bit that is set. -/
theorem cnt_set {s : Nat → Bool} {a k : Nat} (h : s a = true) : cnt s k (a + 1) = cnt s k a ∧ fst? s k (a + 1) = fst? s k a ∧ zc s (a + 1) = zc s a := by
  have : ¬ buddy s a k := fun hb => by
    have := hb.2.2.1 a (Nat.le_refl _) (by have := pow_pos2 k; omega)
    rw [h] at this; cases this
  simp [cnt, fst?, zc, this, h]
theorem cnt_gap {s : Nat → Bool} {a k : Nat} : ∀ m, (∀ p, a ≤ p → p < a + m → ¬ buddy s p k) → cnt s k (a + m) = cnt s k a ∧ fst? s k (a + m) = fst? s k a
  | 0, _ => ⟨rfl, rfl⟩
  | m + 1, h => by
    obtain ⟨h1, h2⟩ := cnt_gap m (fun p hp1 hp2 => h p hp1 (by omega))
    have := h (a + m) (by omega) (by omega)
    rw [← Nat.add_assoc]
    simp only [cnt, fst?, this, if_false, h1, h2, Option.or_none, Nat.add_zero]
    exact ⟨trivial, trivial⟩
theorem zc_free {s : Nat → Bool} {a : Nat} : ∀ m, (∀ p, a ≤ p → p < a + m → s p = false) → zc s (a + m) = zc s a + m
  | 0, _ => rfl
  | m + 1, h => by
    have h1 := zc_free m (fun p hp1 hp2 => h p hp1 (by omega))
    rw [← Nat.add_assoc]
    simp only [zc, h (a + m) (by omega) (by omega), if_true, h1]
    omega
/-- A step over a chunk that is a buddy's. -/
theorem cnt_chunk {s : Nat → Bool} {a k : Nat} (hb : buddy s a k) (hu : ∀ p j, a ≤ p → p < a + 2 ^ k → buddy s p j → p = a ∧ j = k) (j : Nat) :
    cnt s j (a + 2 ^ k) = cnt s j a + (if j = k then 1 else 0) ∧ fst? s j (a + 2 ^ k) = (fst? s j a).or (if j = k then some a else none) := by
  have hp := pow_pos2 k
  have e : a + 2 ^ k = (a + 1) + (2 ^ k - 1) := by omega
  obtain ⟨h1, h2⟩ := cnt_gap (s := s) (a := a + 1) (k := j) (2 ^ k - 1) (fun p hp1 hp2 hbp => by have := (hu p j (by omega) (by omega) hbp).1; omega)
  rw [e, h1, h2]
  simp only [cnt, fst?]
  by_cases hj : j = k
  · subst hj
    simp [hb]
  · have : ¬ buddy s a j := fun hbp => hj (hu a j (Nat.le_refl _) (by omega) hbp).2
    simp [hj, this]

/-! ### the program's reckoning -/
abbrev T := List Int × List Int
def T0 : T := (List.replicate 11 0, List.replicate 11 0)
def put (t : T) (p k : Nat) : T := (if t.2.getD k 0 = 0 then t.1.set k p else t.1, t.2.set k (t.2.getD k 0 + 1))
def down (f e : Nat) : Nat → Nat
  | 0 => 0
  | k + 1 => if f + 2 ^ (k + 1) ≤ e then k + 1 else down f e k
/-- How often two goes into a number, up to n times. -/
def tz : Nat → Nat → Nat
  | 0, _ => 0
  | n + 1, x => if x % 2 = 0 then tz n (x / 2) + 1 else 0
def most (f : Nat) : Nat := if 0 < f then tz 10 f else 10
def ord (f e : Nat) : Nat := down f e (most f)
def spF : Nat → T → Nat → Nat → T
  | 0, t, _, _ => t
  | n + 1, t, f, e => if f < e then spF n (put t f (ord f e)) (f + 2 ^ ord f e) e else t
def sp (t : T) (f e : Nat) : T := spF (e - f) t f e
def bstep (s : Nat → Bool) (x : T × Option Nat) (i : Nat) : T × Option Nat :=
  match s i, x.2 with
  | true, some f => (sp x.1 f i, none)
  | true, none => (x.1, none)
  | false, none => (x.1, some i)
  | false, some f => (x.1, some f)
def boF (s : Nat → Bool) (n : Nat) : T × Option Nat := (List.range n).foldl (bstep s) (T0, none)
def bo (s : Nat → Bool) : T := (boF s 2017).1
theorem boF_succ (s : Nat → Bool) (n : Nat) : boF s (n + 1) = bstep s (boF s n) n := by simp [boF, List.range_succ]
theorem spF_more (n : Nat) : ∀ (m : Nat) (t : T) (f e : Nat), e - f ≤ n → e - f ≤ m → spF n t f e = spF m t f e := by
  induction n with
  | zero =>
    intro m t f e h1 h2
    have : ¬ f < e := by omega
    cases m <;> simp [spF, this]
  | succ n ih =>
    intro m t f e h1 h2
    cases m with
    | zero =>
      have : ¬ f < e := by omega
      simp [spF, this]
    | succ m =>
      simp only [spF]
      have := pow_pos2 (ord f e)
      split
      · exact ih m _ _ e (by omega) (by omega)
      · rfl
theorem sp_step {t : T} {f e : Nat} (h : f < e) : sp t f e = sp (put t f (ord f e)) (f + 2 ^ ord f e) e := by
  have hp := pow_pos2 (ord f e)
  unfold sp
  rw [show e - f = (e - f - 1) + 1 by omega, spF, if_pos h]
  exact spF_more _ _ _ _ _ (by omega) (by omega)
theorem sp_end {t : T} {f e : Nat} (h : ¬ f < e) : sp t f e = t := by
  unfold sp
  rw [show e - f = 0 by omega]; rfl

theorem tz_dvd : ∀ (n x : Nat), 2 ^ tz n x ∣ x
  | 0, x => by simp [tz]
  | n + 1, x => by
    simp only [tz]
    split
    · rename_i h
      obtain ⟨c, hc⟩ := tz_dvd n (x / 2)
      exact ⟨c, by rw [Nat.pow_succ, Nat.mul_assoc, Nat.mul_comm 2 c, ← Nat.mul_assoc, ← hc]; omega⟩
    · simp
theorem tz_le : ∀ (n x : Nat), tz n x ≤ n
  | 0, x => by simp [tz]
  | n + 1, x => by
    simp only [tz]
    have := tz_le n (x / 2)
    split <;> omega
theorem tz_max : ∀ (n x k : Nat), tz n x < k → k ≤ n → ¬ 2 ^ k ∣ x
  | 0, x, k, h1, h2 => by omega
  | n + 1, x, k, h1, h2 => fun ⟨c, hc⟩ => by
    obtain ⟨k, rfl⟩ : ∃ j, k = j + 1 := ⟨k - 1, by omega⟩
    simp only [tz] at h1
    have h0 : x % 2 = 0 := by rw [hc, Nat.pow_succ, Nat.mul_comm (2 ^ k) 2, Nat.mul_assoc]; omega
    rw [if_pos h0] at h1
    refine tz_max n (x / 2) k (by omega) (by omega) ⟨c, ?_⟩
    rw [hc, Nat.pow_succ, Nat.mul_comm (2 ^ k) 2, Nat.mul_assoc]; omega
theorem down_le (f e : Nat) : ∀ k, down f e k ≤ k
  | 0 => Nat.le_refl _
  | k + 1 => by
    have := down_le f e k
    simp only [down]; split <;> omega
theorem down_fits (f e : Nat) (h : f < e) : ∀ k, f + 2 ^ down f e k ≤ e
  | 0 => by simp [down]; omega
  | k + 1 => by
    have := down_fits f e h k
    simp only [down]; split <;> omega
theorem down_max (f e : Nat) : ∀ k j, down f e k < j → j ≤ k → e < f + 2 ^ j
  | 0, j, h1, h2 => by omega
  | k + 1, j, h1, h2 => by
    simp only [down] at h1
    split at h1
    · omega
    · rename_i hn
      rcases Nat.eq_or_lt_of_le h2 with rfl | h3
      · omega
      · exact down_max f e k j h1 (by omega)
/-- The order that the program takes is the greatest that may be. -/
theorem ord_spec {f e : Nat} (h : f < e) : ord f e ≤ 10 ∧ 2 ^ ord f e ∣ f ∧ f + 2 ^ ord f e ≤ e ∧ (ord f e = 10 ∨ ¬ 2 ^ (ord f e + 1) ∣ f ∨ e < f + 2 ^ (ord f e + 1)) := by
  have h1 := down_le f e (most f)
  have h2 := down_fits f e h (most f)
  have hm : most f ≤ 10 := by unfold most; split; exact tz_le _ _; omega
  refine ⟨Nat.le_trans h1 hm, ?_, h2, ?_⟩
  · by_cases h0 : 0 < f
    · have hd := tz_dvd 10 f
      have : ord f e ≤ tz 10 f := by have := h1; unfold most at this; rw [if_pos h0] at this; unfold ord most; rw [if_pos h0]; exact this
      exact Nat.dvd_trans (pow_dvd this) hd
    · obtain rfl : f = 0 := by omega
      simp
  · rcases Nat.lt_or_ge (ord f e) (most f) with h3 | h3
    · exact .inr (.inr (down_max f e (most f) _ (Nat.lt_succ_self _) h3))
    · have he : ord f e = most f := Nat.le_antisymm h1 h3
      by_cases h0 : 0 < f
      · rw [he]
        unfold most
        rw [if_pos h0]
        rcases Nat.lt_or_ge (tz 10 f) 10 with h4 | h4
        · exact .inr (.inl (tz_max 10 f _ (Nat.lt_succ_self _) h4))
        · exact .inl (Nat.le_antisymm (tz_le _ _) h4)
      · left; rw [he]; unfold most; rw [if_neg h0]

/-! ### it is so -/
structure Good (s : Nat → Bool) (t : T) (a : Nat) : Prop where
  l1 : t.1.length = 11
  l2 : t.2.length = 11
  c : ∀ k, k ≤ 10 → t.2.getD k 0 = (cnt s k a : Int)
  f : ∀ k, k ≤ 10 → t.1.getD k 0 = (((fst? s k a).getD 0 : Nat) : Int)
theorem getD_set_self {l : List Int} {k : Nat} {x : Int} (h : k < l.length) : (l.set k x).getD k 0 = x := by
  simp [List.getD_eq_getElem?_getD, List.getElem?_set, h]
theorem getD_set_other {l : List Int} {k j : Nat} {x : Int} (h : k ≠ j) : (l.set k x).getD j 0 = l.getD j 0 := by
  simp [List.getD_eq_getElem?_getD, List.getElem?_set, h]
theorem Good.put {s : Nat → Bool} {t : T} {a k : Nat} (h : Good s t a) (hk : k ≤ 10) (hb : buddy s a k) (hu : ∀ p j, a ≤ p → p < a + 2 ^ k → buddy s p j → p = a ∧ j = k) : Good s (put t a k) (a + 2 ^ k) := by
  refine ⟨?_, ?_, ?_, ?_⟩
  · unfold Bits.put; simp only; split <;> simp [h.l1]
  · simp [Bits.put, h.l2]
  · intro j hj
    obtain ⟨c1, _⟩ := cnt_chunk hb hu j
    rw [c1]
    by_cases e : k = j
    · subst e
      simp only [Bits.put]
      rw [getD_set_self (by rw [h.l2]; omega), h.c k hk]
      simp
    · simp only [Bits.put]
      rw [getD_set_other e, h.c j hj, if_neg (fun e' => e e'.symm)]; simp
  · intro j hj
    obtain ⟨_, c2⟩ := cnt_chunk hb hu j
    rw [c2]
    by_cases e : k = j
    · subst e
      simp only [Bits.put]
      split
      · rename_i h0
        rw [getD_set_self (by rw [h.l1]; omega)]
        rw [h.c k hk] at h0
        have hn := (fst_none (s := s) (k := k) a).2 (by omega)
        rw [hn]; simp
      · rename_i h0
        rw [h.c k hk] at h0
        rw [h.f k hk]
        cases hf : fst? s k a with
        | none => exact absurd ((fst_none a).1 hf) (by omega)
        | some q => simp
    · have e' : ¬ j = k := fun e' => e e'.symm
      simp only [Bits.put, e', if_false, Option.or_none]
      split
      · rw [getD_set_other e, h.f j hj]
      · rw [h.f j hj]
theorem Good.sp {s : Nat → Bool} (n : Nat) : ∀ {t : T} {f e : Nat}, e - f ≤ n → f ≤ e → Good s t f → NS s f → (∀ i, f ≤ i → i < e → s i = false) → s e = true → Good s (sp t f e) e ∧ NS s e := by
  induction n with
  | zero =>
    intro t f e hn hfe hg hns _ _
    obtain rfl : f = e := by omega
    rw [sp_end (by omega)]
    exact ⟨hg, hns⟩
  | succ n ih =>
    intro t f e hn hfe hg hns hfree he
    rcases Nat.eq_or_lt_of_le hfe with rfl | hlt
    · rw [sp_end (by omega)]
      exact ⟨hg, hns⟩
    · obtain ⟨o1, o2, o3, o4⟩ := ord_spec hlt
      obtain ⟨g1, g2, g3⟩ := greedy hns hfree he o1 o2 o3 o4
      have hp := pow_pos2 (ord f e)
      rw [sp_step hlt]
      exact ih (by omega) o3 (hg.put o1 g1 g3) g2 (fun i h1 h2 => hfree i (by omega) h2) he
def Inv (s : Nat → Bool) (x : T × Option Nat) (n : Nat) : Prop :=
  match x.2 with
  | none => Good s x.1 n ∧ NS s n
  | some f => f < n ∧ Good s x.1 f ∧ NS s f ∧ ∀ i, f ≤ i → i < n → s i = false
theorem Good.skip {s : Nat → Bool} {t : T} {a : Nat} (h : Good s t a) (hs : s a = true) : Good s t (a + 1) :=
  ⟨h.l1, h.l2, fun k hk => by rw [(cnt_set hs).1]; exact h.c k hk, fun k hk => by rw [(cnt_set (k := k) hs).2.1]; exact h.f k hk⟩
theorem inv_step {s : Nat → Bool} {x : T × Option Nat} {n : Nat} (h : Inv s x n) : Inv s (bstep s x n) (n + 1) := by
  obtain ⟨t, o⟩ := x
  cases hs : s n <;> cases o with
  | none => _
  | some f => _
  · simp only [bstep, hs]
    exact ⟨by omega, h.1, h.2, fun i h1 h2 => by obtain rfl : i = n := by omega
                                                 exact hs⟩
  · simp only [bstep, hs]
    obtain ⟨h1, h2, h3, h4⟩ := h
    exact ⟨by omega, h2, h3, fun i h5 h6 => by
      rcases Nat.lt_or_ge i n with h7 | h7
      · exact h4 i h5 h7
      · obtain rfl : i = n := by omega
        exact hs⟩
  · simp only [bstep, hs]
    exact ⟨h.1.skip hs, NS_set hs⟩
  · simp only [bstep, hs]
    obtain ⟨h1, h2, h3, h4⟩ := h
    obtain ⟨g1, g2⟩ := Good.sp (n - f) (Nat.le_refl _) (by omega) h2 h3 h4 hs
    exact ⟨g1.skip hs, NS_set hs⟩
theorem rep_zero (k : Nat) : (List.replicate 11 (0 : Int)).getD k 0 = 0 := by
  rw [List.getD_eq_getElem?_getD, List.getElem?_replicate]; split <;> rfl
theorem inv_boF (s : Nat → Bool) : ∀ n, Inv s (boF s n) n
  | 0 => ⟨⟨rfl, rfl, fun k hk => rep_zero k, fun k hk => rep_zero k⟩, NS_zero s⟩
  | n + 1 => by rw [boF_succ]; exact inv_step (inv_boF s n)
theorem boF_good (s : Nat → Bool) (n : Nat) (h : s n = true) : Good s (boF s (n + 1)).1 (n + 1) := by
  have h2 := inv_step (inv_boF s n)
  rw [boF_succ]
  have h3 : (bstep s (boF s n) n).2 = none := by
    unfold bstep
    rw [h]
    split <;> first | rfl | simp_all
  unfold Inv at h2
  rw [h3] at h2
  exact h2.1
/-- The program's reckoning is the document's. -/
theorem bo_good (s : Nat → Bool) (h : s 2016 = true) : Good s (bo s) 2017 := boF_good s 2016 h
end Go.Proofs.YtcmpkcmfhfajpaaDoor.Bits
