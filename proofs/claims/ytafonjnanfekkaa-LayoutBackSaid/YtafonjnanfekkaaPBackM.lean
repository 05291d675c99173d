
/-
  THE ROW of hayricklaw04.LayoutBack: for every input the law returns true, and its arguments read as they did. No condition.
-/
import Derived.Test.YtafonjnanfekkaaGrpM
import Derived.Test.YtafonjnanfekkaaBackP
import Derived.Test.YtafonjnanfekkaaLGroups
import Derived.Test.YtafonjnanfekkaaLay3
import Derived.StillTailTactics
import Derived.Test.YtafonjnanfekkaaRows
import Derived.ProofKit
import Derived.OpenShut
import Derived.ShutString
import Derived.ChangeOld
import Derived.SizedLaws
import Derived.Lib.SmallJoins
import Derived.Test.YtafonjnanfekkaaI3
namespace Go.Proofs.Ytafonjnanfekkaa.Lay
open Go.RowKit Go.Proofs.Ytafonjnanfekkaa.Wire
set_option linter.unusedVariables false
set_option linter.unusedSimpArgs false

/-- What was packed is read where it lies. -/
theorem uf_pre {bs t : List UInt8} {l : List Nat} {ws : List Int} (hbs : bs = pre l ws l.length ++ t) (hl : l.length = ws.length) (hw : wok ws = true) (hz : ∀ p ∈ l.zip ws, p.1 < 256 ^ p.2.toNat)
    {k x : Nat} {z : Int} (hx : l[k]? = some x) (hwz : ws[k]? = some z) {p : Int} (hp : (ws.take k).sum = p) : uf bs p z = (x : Int) := by
  subst hp
  have hun := unpacks_pre l ws t hl hw (zip_fits hz)
  have hat := unpacks_at ws bs k z hw hwz
  rw [hbs, hun, ← hbs, hx] at hat
  have hxn : x = num ((bs.drop ((ws.take k).sum).toNat).take z.toNat) := by injection hat
  obtain ⟨z1, z2⟩ := wok_at hw hwz
  obtain ⟨s0, s1⟩ := wsum_mono hw k
  obtain ⟨s2, s3⟩ := wsum_mono hw (k + 1)
  have hss := wsum_succ hwz
  have hpl := pre_length l ws l.length hl hw
  rw [hl, List.take_length, ← hl] at hpl
  have hbl : (ws.sum : Int) ≤ bs.length := by rw [hbs, List.length_append]; omega
  have hf : fits bs.length (ws.take k).sum z = true := fits_mk z1 z2 s0 (by omega)
  show ((getX bs (ws.take k).sum z : Nat) : Int) = _
  rw [getX, if_pos hf, sub, ← hxn]
/-- A sealed block begins with what was packed. -/
theorem sealed_pre {l : List Nat} {ws : List Int} (seed : BitVec 32) (hm : pmay l ws 256 = true) (hz : ∀ p ∈ l.zip ws, p.1 < 256 ^ p.2.toNat) (hs : ws.sum ≤ 252) :
    ∃ t, sealB seed (packB l ws 256) = pre l ws l.length ++ t ∧ sealedB seed (sealB seed (packB l ws 256)) = true ∧ (sealB seed (packB l ws 256)).length = 256 := by
  have hm' := hm
  simp only [pmay, Bool.and_eq_true, decide_eq_true_eq] at hm'
  obtain ⟨m1, m2, m3, m4⟩ := hm'
  obtain ⟨_, e2, e3⟩ := packB_full hm hz (by omega)
  have e3' : (packB l ws 256).length = 256 := e3
  have hpl := pre_length l ws l.length m1 m2
  rw [m1, List.take_length, ← m1] at hpl
  refine ⟨(List.replicate ((256 : Int).toNat - (pre l ws l.length).length) (0 : UInt8)).take (252 - (pre l ws l.length).length) ++ le 4 (crc seed ((packB l ws 256).take 252)).toNat, ?_, sealed_seal _ _ (by omega), by rw [sealB_length]; exact e3'⟩
  rw [sealB, if_pos (by omega), e3', ← List.append_assoc]
  congr 1
  rw [e2, List.take_append, List.take_of_length_le (by omega)]
/-- What was packed, with one byte turned, is none. -/
theorem us_turned {bs : List UInt8} {j : Nat} {x y : UInt8} (h : sealedB 0#32 bs = true) (hj : bs[j]? = some x) (hxy : x ≠ y) : usOk (bs.set j y) = false := by
  have ht := turned_unsealed 0#32 bs j x y h hj hxy
  cases hu : usOk (bs.set j y)
  · rfl
  · exfalso
    have hlen := usOk_len hu
    simp only [usOk, Bool.and_eq_true, beq_iff_eq] at hu
    obtain ⟨hok, hbs⟩ := hu
    have : sealedB 0#32 (bs.set j y) = true := by
      rw [supB, if_pos hok] at hbs
      have h4 : 4 ≤ (packB (superL (uf (bs.set j y) 6 4) (uf (bs.set j y) 10 4) (uf (bs.set j y) 14 4) (uf (bs.set j y) 18 4) (uf (bs.set j y) 22 4) (uf (bs.set j y) 26 4) (uf (bs.set j y) 30 4) (uf (bs.set j y) 34 4) (ucl (bs.set j y))) superWs 256).length := by
        have := congrArg List.length hbs
        rw [sealB_length, hlen] at this
        omega
      rw [hbs]
      exact sealed_seal _ _ h4
    rw [ht] at this
    cases this
theorem super_back {B P I J fb fi o m : Int} {cl : Bool} (hok : supOk B P I J fb fi o m = true) :
    usV (supB B P I J fb fi o m cl) = supV B P I J fb fi o m cl ∧ usE (supB B P I J fb fi o m cl) = 0 ∧ sealedB 0#32 (supB B P I J fb fi o m cl) = true ∧ (supB B P I J fb fi o m cl).length = 256 := by
  obtain ⟨hg, c1, c2, c3, c4⟩ := supOk_parts hok
  have hn := sup_nat hg c1 c2 c3 c4
  have hz := super_zip (cl := cl) hn
  obtain ⟨⟨z0, _⟩, ⟨z1, _⟩, ⟨z2, _⟩, ⟨z3, _⟩, ⟨z4, _⟩, ⟨z5, _⟩, ⟨z6, _⟩, ⟨z7, _⟩⟩ := hn
  obtain ⟨t, ht, hs, hl⟩ := sealed_pre 0#32 (super_may B P I J fb fi o m cl) hz (by decide)
  have hb : supB B P I J fb fi o m cl = sealB 0#32 (packB (superL B P I J fb fi o m cl) superWs 256) := by simp [supB, hok]
  rw [← hb] at ht hs hl
  generalize hbs : supB B P I J fb fi o m cl = bs at *
  have hw : wok superWs = true := by decide
  have u2 : uf bs 6 4 = B := (uf_pre ht rfl hw hz (k := 2) rfl rfl rfl).trans (Int.toNat_of_nonneg z0)
  have u3 : uf bs 10 4 = P := (uf_pre ht rfl hw hz (k := 3) rfl rfl rfl).trans (Int.toNat_of_nonneg z1)
  have u4 : uf bs 14 4 = I := (uf_pre ht rfl hw hz (k := 4) rfl rfl rfl).trans (Int.toNat_of_nonneg z2)
  have u5 : uf bs 18 4 = J := (uf_pre ht rfl hw hz (k := 5) rfl rfl rfl).trans (Int.toNat_of_nonneg z3)
  have u6 : uf bs 22 4 = fb := (uf_pre ht rfl hw hz (k := 6) rfl rfl rfl).trans (Int.toNat_of_nonneg z4)
  have u7 : uf bs 26 4 = fi := (uf_pre ht rfl hw hz (k := 7) rfl rfl rfl).trans (Int.toNat_of_nonneg z5)
  have u8 : uf bs 30 4 = o := (uf_pre ht rfl hw hz (k := 8) rfl rfl rfl).trans (Int.toNat_of_nonneg z6)
  have u9 : uf bs 34 4 = m := (uf_pre ht rfl hw hz (k := 9) rfl rfl rfl).trans (Int.toNat_of_nonneg z7)
  have u10 : uf bs 38 1 = (((if cl then 1 else 0 : Nat)) : Int) := uf_pre ht rfl hw hz (k := 10) rfl rfl rfl
  have hcl : ucl bs = cl := by unfold ucl; rw [u10]; cases cl <;> rfl
  have huo : usOk bs = true := by simp [usOk, u2, u3, u4, u5, u6, u7, u8, u9, hcl, hok, hbs]
  refine ⟨?_, by simp [usE, huo], hs, hl⟩
  simp [usV, huo, u2, u3, u4, u5, u6, u7, u8, u9, hcl]
theorem groups_back {gs : List Grp} (hok : gsOk gs = true) : ugX (gB gs) gs.length = gs ∧ ugE (gB gs) gs.length = 0 := by
  have h' := hok
  simp only [gsOk, Bool.and_eq_true] at h'
  obtain ⟨hn1, hn2⟩ := rg_true h'.1
  have hll : (gL gs).length = (gWs gs.length).length := by rw [gL_length]; simp [gWs]
  have hm : pmay (gL gs) (gWs gs.length) 256 = true := by
    have h2 := gWs_wok gs.length
    have h3 : (gWs gs.length).sum ≤ 256 := by rw [gWs_sum]; omega
    simp [pmay, hll, h2, h3]
  have hz : ∀ p ∈ (gL gs).zip (gWs gs.length), p.1 < 256 ^ p.2.toNat := fun p hp => by
    obtain ⟨h1, h2⟩ := List.of_mem_zip (a := p.1) (b := p.2) hp
    have h3 := gL_le h'.2 _ h1
    simp only [gWs, List.mem_replicate] at h2
    rw [h2.2]
    show p.1 < 256 ^ 4
    omega
  obtain ⟨t, ht, _, _⟩ := sealed_pre 1#32 hm hz (by rw [gWs_sum]; omega)
  have hb : gB gs = sealB 1#32 (packB (gL gs) (gWs gs.length) 256) := by simp [gB, hok]
  rw [← hb] at ht
  have hsum : ∀ q : Nat, q ≤ 3 * gs.length → ((gWs gs.length).take q).sum = 4 * (q : Int) := fun q hq => by
    have : ∀ m : Nat, (List.replicate m (4 : Int)).sum = 4 * (m : Int) := fun m => by
      induction m with
      | zero => rfl
      | succ m ih => rw [List.replicate_succ, List.sum_cons, ih]; omega
    rw [gWs, List.take_replicate, this, Nat.min_eq_left hq]
  have hws : ∀ q : Nat, q < 3 * gs.length → (gWs gs.length)[q]? = some 4 := fun q hq => by simp [gWs, hq]
  have hu : ugs (gB gs) gs.length = gs := by
    apply List.ext_getElem?
    intro k
    by_cases hk : k < gs.length
    · obtain ⟨g, hg⟩ : ∃ g, gs[k]? = some g := ⟨_, List.getElem?_eq_getElem hk⟩
      rw [ugs_at hk, hg]
      have hgk := gOk1_parts (List.all_eq_true.1 h'.2 g (List.mem_of_getElem? hg))
      obtain ⟨⟨a0, _⟩, ⟨b0, _⟩, ⟨c0, _⟩⟩ := hgk
      obtain ⟨f0, f1, f2⟩ := flat3_at (fun g : Grp => g.1.toNat) (fun g => g.2.1.toNat) (fun g => g.2.2.toNat) gs k g hg
      have e0 := uf_pre ht hll (gWs_wok _) hz (k := k * 3) f0 (hws _ (by omega)) (p := 12 * (k : Int)) (by rw [hsum _ (by omega)]; omega)
      have e1 := uf_pre ht hll (gWs_wok _) hz (k := k * 3 + 1) f1 (hws _ (by omega)) (p := 12 * (k : Int) + 4) (by rw [hsum _ (by omega)]; omega)
      have e2 := uf_pre ht hll (gWs_wok _) hz (k := k * 3 + 2) f2 (hws _ (by omega)) (p := 12 * (k : Int) + 8) (by rw [hsum _ (by omega)]; omega)
      rw [e0, e1, e2, Int.toNat_of_nonneg a0, Int.toNat_of_nonneg b0, Int.toNat_of_nonneg c0]
    · rw [List.getElem?_eq_none (by rw [ugs_length]; omega), List.getElem?_eq_none (by omega)]
  have huo : ugOk (gB gs) gs.length = true := by simp [ugOk, h'.1, hu, hok]
  exact ⟨by simp [ugX, huo, hu], by simp [ugE, huo, h'.1]⟩
end Go.Proofs.Ytafonjnanfekkaa.Lay

namespace Go.Proofs.Ytafonjnanfekkaa.Lay
open Go.RowKit Go.Proofs.Ytafonjnanfekkaa.Wire
set_option maxHeartbeats 8000000
set_option maxRecDepth 100000
set_option linter.unusedVariables false
set_option linter.unusedSimpArgs false

theorem and_mask (b : Int) (M : Nat) (hM : M < 9223372036854775808) : ∃ A : Nat, bits .and .i64 b (M : Int) = (A : Int) ∧ A ≤ M := by
  refine ⟨(BitVec.ofInt 64 b &&& BitVec.ofInt 64 (M : Int)).toNat, ?_, ?_⟩
  · have h : (BitVec.ofInt 64 b &&& BitVec.ofInt 64 (M : Int)).toNat ≤ M := by
      rw [BitVec.toNat_and]
      refine Nat.le_trans Nat.and_le_right ?_
      rw [BitVec.ofInt_natCast, BitVec.toNat_ofNat]
      exact Nat.mod_le _ _
    show IntKind.i64.wrap ((BitVec.ofInt 64 b &&& BitVec.ofInt 64 (M : Int)).toNat : Int) = _
    rw [IntKind.wrap_i64]; omega
  · rw [BitVec.toNat_and]
    refine Nat.le_trans Nat.and_le_right ?_
    rw [BitVec.ofInt_natCast, BitVec.toNat_ofNat]
    exact Nat.mod_le _ _
theorem super_neq (x0 x1 x2 x3 x4 x5 x6 x7 : Int) (c : Bool) (w : World) : (binOp .neq 39 (.agg #[.int .i64 x0, .int .i64 x1, .int .i64 x2, .int .i64 x3, .int .i64 x4, .int .i64 x5, .int .i64 x6, .int .i64 x7, .bool c]) (.agg #[.int .i64 x0, .int .i64 x1, .int .i64 x2, .int .i64 x3, .int .i64 x4, .int .i64 x5, .int .i64 x6, .int .i64 x7, .bool c])).run Try.prog w = .ok (.bool false) w := by
  simp [go_sem]

theorem layoutBack_run (B P I J fb fi o m : Int) (cl : Bool) (A0 : Option Addr) (n0 c0 : Nat) (gs : List Grp) (bit : Int) (w : World) (hn0 : n0 ≤ 9223372036854775807) (hr : RowAt w A0 (n0 * 3) (gcells gs)) :
    Calls Try.prog 11 #[.agg #[.int .i64 B, .int .i64 P, .int .i64 I, .int .i64 J, .int .i64 fb, .int .i64 fi, .int .i64 o, .int .i64 m, .bool cl], .slice A0 n0 c0, .int .i64 bit] w fun e w' => e = .returned (.bool true) ∧ Below w.heap.size w w' := by
  have hgn : gs.length = n0 := by have := hr.len; rw [gcells_length] at this; omega
  have HGN := Lib.hid hgn
  have HR := Lib.hid hr
  obtain ⟨W, hW⟩ : ∃ W, w.alloc (.cells #[.int .i64 B, .int .i64 P, .int .i64 I, .int .i64 J, .int .i64 fb, .int .i64 fi, .int .i64 o, .int .i64 m, .bool cl] 39) = W := ⟨_, rfl⟩
  have b0 : Blk W w.heap.size 39 #[.int .i64 B, .int .i64 P, .int .i64 I, .int .i64 J, .int .i64 fb, .int .i64 fi, .int .i64 o, .int .i64 m, .bool cl] := by rw [← hW]; exact Blk.new w _ _
  have B0 := Lib.hid (show Below w.heap.size w W by rw [← hW]; exact (Below.refl w.heap.size w).alloc (Nat.le_refl _) _)
  have HW := Lib.hid hW
  have K0 := Lib.hid b0
  clear hW b0 hgn hr
  cases hok : supOk B P I J fb fi o m
  · have e1 : (supE B P I J fb fi o m == 0) = false := by simp [supE, hok]
    clear hok
    go_enter Try.func11, Try.ntmps11
    go_wp2_with fail
    rw [HW.out]
    refine (awake_any _).mono ?_
    rintro e w1 ⟨rfl, hb1⟩
    have B1 := Lib.hid (below_all B0.out B0.out.size hb1)
    have s1 := K0.out.belowAll hb1
    obtain ⟨q0, q1, q2, q3, q4, q5, q6, q7, q8⟩ := sup_cells s1
    clear hb1
    go_wp2_with fail
    refine (packSuper_any B P I J fb fi o m cl _).mono ?_
    rintro e w2 ⟨v2, rfl, hb2, ho2⟩
    have B2 := Lib.hid (below_all B1.out B1.out.size hb2)
    clear hb2 ho2 q0 q1 q2 q3 q4 q5 q6 q7 q8 s1
    cases hgo : gsOk gs
    · have ge : (gE gs != 0) = true := by simp [gE, hgo]
      have gb : gB gs = [] := by simp [gB, hgo]
      have GB := Lib.hid gb
      clear hgo gb
      go_wp2_with fail
      refine (packGroups_any A0 n0 c0 gs _ hn0 (HR.out.below B2.out)).mono ?_
      rintro e x1 ⟨y1, rfl, hb1, ho1⟩
      rw [GB.out] at ho1
      have C1 := Lib.hid (below_all B2.out B2.out.size hb1)
      obtain ⟨D1, d1, rfl, _, _, _, _, _⟩ := own_slice ho1
      clear hb1 ho1
      go_wp2_with fail
      go_ret
      exact ⟨rfl, C1.out⟩
    · have ge : gE gs = 0 := by simp [gE, hgo]
      obtain ⟨gx, gz⟩ := groups_back hgo
      have gl := gB_len hgo
      have h14 : n0 ≤ 14 := by
        simp only [gsOk, Bool.and_eq_true] at hgo
        have h1 := rg_true hgo.1
        have h2 := HGN.out
        omega
      have GE := Lib.hid ge
      have GX := Lib.hid gx
      have GZ := Lib.hid gz
      have GL := Lib.hid gl
      clear hgo ge gx gz gl
      go_wp2_with fail
      refine (packGroups_any A0 n0 c0 gs _ hn0 (HR.out.below B2.out)).mono ?_
      rintro e x1 ⟨y1, rfl, hb1, ho1⟩
      rw [GE.out]
      rw [GL.out] at ho1
      have C1 := Lib.hid (below_all B2.out B2.out.size hb1)
      obtain ⟨D1, d1, rfl, hr1, hd1, hm1, _, _⟩ := own_slice ho1
      have Q1 := Lib.hid hr1
      have hd64 : d1 ≤ 9223372036854775807 := by unfold maxLen at hm1; omega
      clear hb1 ho1 hr1 hm1
      go_wp2_with fail
      refine (unpackGroups_any D1 256 d1 (n0 : Int) (gB gs) _ hd1 hd64 Q1.out).mono ?_
      rintro e x2 ⟨y2, rfl, hb2, ho2⟩
      rw [show (n0 : Int) = (gs.length : Int) by rw [HGN.out], GX.out, HGN.out] at ho2
      rw [show (n0 : Int) = (gs.length : Int) by rw [HGN.out], GZ.out]
      have C2 := Lib.hid (below_all C1.out C1.out.size hb2)
      obtain ⟨D2, d2, rfl, hr2, _, _, _, _⟩ := own_sliceN ho2
      have Q2 := Lib.hid hr2
      clear hb2 ho2 hr2
      go_wp2_with fail
      refine (sameGroups_any A0 D2 n0 c0 d2 gs _ (by omega) (HR.out.below C2.out) Q2.out).mono ?_
      rintro e x3 ⟨rfl, nn, rfl⟩
      go_wp2_with fail
      go_ret
      exact ⟨rfl, below_drewN C2.out _⟩
  · have e1 : supE B P I J fb fi o m = 0 := by simp [supE, hok]
    obtain ⟨hv, he, hs, hl⟩ := super_back (cl := cl) hok
    obtain ⟨pb, hpb⟩ : ∃ pb, supB B P I J fb fi o m cl = pb := ⟨_, rfl⟩
    rw [hpb] at hv he hs hl
    have E1 := Lib.hid e1
    have HV := Lib.hid hv
    have HE := Lib.hid he
    have HS := Lib.hid hs
    have HL := Lib.hid hl
    have HPB := Lib.hid hpb
    have hneq := super_neq B P I J fb fi o m cl
    clear e1 hok hv he hs hl hpb
    obtain ⟨t, ht, ht2⟩ := and_mask bit 2047 (by omega)
    rw [show ((2047 : Nat) : Int) = 2047 from rfl] at ht
    have HT := Lib.hid ht
    clear ht
    go_enter Try.func11, Try.ntmps11
    go_wp2_with fail
    rw [HW.out]
    refine (awake_any _).mono ?_
    rintro e w1 ⟨rfl, hb1⟩
    have B1 := Lib.hid (below_all B0.out B0.out.size hb1)
    have s1 := K0.out.belowAll hb1
    obtain ⟨q0, q1, q2, q3, q4, q5, q6, q7, q8⟩ := sup_cells s1
    clear hb1
    go_wp2_with fail
    refine (packSuper_any B P I J fb fi o m cl _).mono ?_
    rintro e w2 ⟨v2, rfl, hb2, ho2⟩
    rw [HPB.out, HL.out] at ho2
    rw [E1.out]
    have B2 := Lib.hid (below_all B1.out B1.out.size hb2)
    have s2 := s1.belowAll hb2
    have hz1 := B1.out.size
    have hz2 := hb2.size
    obtain ⟨g, c2, cs2, rfl, hg2, _, hc2, hm2, _⟩ := own_form ho2 (by omega)
    have hc64 : c2 ≤ 9223372036854775807 := by unfold maxLen at hm2; omega
    have O2 := Lib.hid ho2
    have hgw : w.heap.size ≤ g := by omega
    clear hb2 ho2 hm2 q0 q1 q2 q3 q4 q5 q6 q7 q8 s1
    go_wp2_with fail
    refine (unpackSuper_any _ 256 c2 pb _ hc2 hc64 (BytesAt.of_own O2.out)).mono ?_
    rintro e w3 ⟨rfl, hb3⟩
    rw [HV.out, HE.out]
    have s3 := s2.belowAll hb3
    have O3 := Lib.hid (own_below O2.out hb3)
    have B3 := Lib.hid (below_all B2.out B2.out.size hb3)
    have hz3 := hb3.size
    clear hb3 s2 O2
    obtain ⟨q0, q1, q2, q3, q4, q5, q6, q7, q8⟩ := sup_cells (s3.alloc (.cells #[.int .i64 B, .int .i64 P, .int .i64 I, .int .i64 J, .int .i64 fb, .int .i64 fi, .int .i64 o, .int .i64 m, .bool cl] 39))
    obtain ⟨r0, r1, r2, r3, r4, r5, r6, r7, r8⟩ := sup_cells (Blk.new w3 39 #[.int .i64 B, .int .i64 P, .int .i64 I, .int .i64 J, .int .i64 fb, .int .i64 fi, .int .i64 o, .int .i64 m, .bool cl])
    have B4 := Lib.hid (B3.out.alloc B3.out.size (.cells #[.int .i64 B, .int .i64 P, .int .i64 I, .int .i64 J, .int .i64 fb, .int .i64 fi, .int .i64 o, .int .i64 m, .bool cl] 39))
    have O4 := Lib.hid (O3.out.alloc (.cells #[.int .i64 B, .int .i64 P, .int .i64 I, .int .i64 J, .int .i64 fb, .int .i64 fi, .int .i64 o, .int .i64 m, .bool cl] 39))
    clear s3 O3
    unfold supV
    go_wp2_with fail
    clear q0 q1 q2 q3 q4 q5 q6 q7 q8 r0 r1 r2 r3 r4 r5 r6 r7 r8 hneq
    rw [HT.out]
    generalize w3.alloc (.cells #[.int .i64 B, .int .i64 P, .int .i64 I, .int .i64 J, .int .i64 fb, .int .i64 fi, .int .i64 o, .int .i64 m, .bool cl] 39) = w4 at *
    obtain ⟨j, ej⟩ : ∃ j, t / 8 = j := ⟨_, rfl⟩
    obtain ⟨r, er⟩ : ∃ r, t % 8 = r := ⟨_, rfl⟩
    have hj : j < 256 := by omega
    have hr8 : r < 8 := by omega
    obtain ⟨x, hx⟩ : ∃ x, pb[j]? = some x := ⟨_, List.getElem?_eq_getElem (by have := HL.out; omega)⟩
    have hcx2 : w4.drew.cell? ⟨g, j, none⟩ = some (.int .u8 (x.toNat : Int)) := by
      show w4.cell? ⟨g, j, none⟩ = _
      rw [O4.out.cellAt j (by omega), bvl_get, hx]; rfl
    have hfx2 : w4.drew.frozen? ⟨g, j, none⟩ = false := O4.out.frozenAt j
    have g1 : (t : Int) / 8 = (j : Int) := by omega
    have g2 : (t : Int) % 8 = (r : Int) := by omega
    have g2' : (t : Int).tmod 8 = (r : Int) := by rw [Int.tmod_eq_emod_of_nonneg (by omega)]; omega
    have g3 : (j : Int) < 256 := by omega
    have g7 : ¬ (r : Int) < 0 := by omega
    have g8 : (0 : Int) ≤ (r : Int) := by omega
    have g5 : IntKind.i64.wrap (j : Int) = (j : Int) := by rw [IntKind.wrap_i64]; omega
    have g6 : (0 : Int) ≤ (j : Int) := by omega
    have HX := Lib.hid hx
    clear hx ej er
    have O5 := Lib.hid (show w4.drew.ownsRow w1.heap.size 5 1 (.slice (some ⟨g, 0, none⟩) 256 c2) 256 (bvl pb) from O4.out)
    have B5 := Lib.hid (show Below w.heap.size w w4.drew from below_drewN B4.out 1)
    go_wp2_with fail
    go_still_tail 13, (by kernel_rfl)
    change wpList _ _ _ _ _ w4.drew
    clear O4 B4
    generalize w4.drew = w5 at *
    obtain ⟨y, hy, hxy⟩ := turn_byte x r hr8
    have HY := Lib.hid hy
    have O6 := Lib.hid (own_set O5.out j y)
    have B6 := Lib.hid (B5.out.setCell (p := ⟨g, j, none⟩) hgw (.int .u8 (y.toNat : Int)))
    have hnot := us_turned HS.out HX.out hxy
    have hv2 : usV (pb.set j y) = supV 0 0 0 0 0 0 0 0 false := by simp [usV, hnot]
    have he2 : usE (pb.set j y) = 117 := by simp [usE, hnot]
    have HV2 := Lib.hid hv2
    have HE2 := Lib.hid he2
    clear hy hxy O5 B5 hnot hv2 he2
    go_wp2_with fail
    rw [HY.out]
    refine (unpackSuper_any _ 256 c2 (pb.set j y) _ hc2 hc64 (BytesAt.of_own O6.out)).mono ?_
    rintro e w6 ⟨rfl, hb6⟩
    rw [HV2.out, HE2.out]
    have B7 := Lib.hid ((below_all B6.out B6.out.size hb6).alloc (Nat.le_trans B6.out.size hb6.size) (.cells #[.int .i64 0, .int .i64 0, .int .i64 0, .int .i64 0, .int .i64 0, .int .i64 0, .int .i64 0, .int .i64 0, .bool false] 39))
    clear hb6 O6 B6 g1 g2 g2' g3 g5 g6 g7 g8 hcx2 hfx2
    unfold supV
    cases hgo : gsOk gs
    · have ge : (gE gs != 0) = true := by simp [gE, hgo]
      have gb : gB gs = [] := by simp [gB, hgo]
      have GB := Lib.hid gb
      clear hgo gb
      go_wp2_with fail
      refine (packGroups_any A0 n0 c0 gs _ hn0 (HR.out.below B7.out)).mono ?_
      rintro e x1 ⟨y1, rfl, hb1, ho1⟩
      rw [GB.out] at ho1
      have C1 := Lib.hid (below_all B7.out B7.out.size hb1)
      obtain ⟨D1, d1, rfl, _, _, _, _, _⟩ := own_slice ho1
      clear hb1 ho1
      go_wp2_with fail
      go_ret
      exact ⟨rfl, C1.out⟩
    · have ge : gE gs = 0 := by simp [gE, hgo]
      obtain ⟨gx, gz⟩ := groups_back hgo
      have gl := gB_len hgo
      have h14 : n0 ≤ 14 := by
        simp only [gsOk, Bool.and_eq_true] at hgo
        have h1 := rg_true hgo.1
        have h2 := HGN.out
        omega
      have GE := Lib.hid ge
      have GX := Lib.hid gx
      have GZ := Lib.hid gz
      have GL := Lib.hid gl
      clear hgo ge gx gz gl
      go_wp2_with fail
      refine (packGroups_any A0 n0 c0 gs _ hn0 (HR.out.below B7.out)).mono ?_
      rintro e x1 ⟨y1, rfl, hb1, ho1⟩
      rw [GE.out]
      rw [GL.out] at ho1
      have C1 := Lib.hid (below_all B7.out B7.out.size hb1)
      obtain ⟨D1, d1, rfl, hr1, hd1, hm1, _, _⟩ := own_slice ho1
      have Q1 := Lib.hid hr1
      have hd64 : d1 ≤ 9223372036854775807 := by unfold maxLen at hm1; omega
      clear hb1 ho1 hr1 hm1
      go_wp2_with fail
      refine (unpackGroups_any D1 256 d1 (n0 : Int) (gB gs) _ hd1 hd64 Q1.out).mono ?_
      rintro e x2 ⟨y2, rfl, hb2, ho2⟩
      rw [show (n0 : Int) = (gs.length : Int) by rw [HGN.out], GX.out, HGN.out] at ho2
      rw [show (n0 : Int) = (gs.length : Int) by rw [HGN.out], GZ.out]
      have C2 := Lib.hid (below_all C1.out C1.out.size hb2)
      obtain ⟨D2, d2, rfl, hr2, _, _, _, _⟩ := own_sliceN ho2
      have Q2 := Lib.hid hr2
      clear hb2 ho2 hr2
      go_wp2_with fail
      refine (sameGroups_any A0 D2 n0 c0 d2 gs _ (by omega) (HR.out.below C2.out) Q2.out).mono ?_
      rintro e x3 ⟨rfl, nn, rfl⟩
      go_wp2_with fail
      go_ret
      exact ⟨rfl, below_drewN C2.out _⟩

theorem layoutBack_walk (w : World) (B P I J fb fi o m : Int) (cl : Bool) (A0 : Option Addr) (len0 cap0 : Nat) (gs : List Grp) (r0 : RowAt w A0 (len0 * 3) (gcells gs)) (l0 : len0 ≤ cap0) (m0 : cap0 ≤ maxLen) (a2 : Int) (w2 : (Lit.int .i64 a2).wf = true) :
    Calls Try.prog 11 #[.agg #[.int .i64 B, .int .i64 P, .int .i64 I, .int .i64 J, .int .i64 fb, .int .i64 fi, .int .i64 o, .int .i64 m, .bool cl], .slice A0 len0 cap0, .int .i64 a2] w fun e w' => e = .returned (.bool true) ∧ Below w.heap.size w w' :=
  layoutBack_run B P I J fb fi o m cl A0 len0 cap0 gs a2 w (by unfold maxLen at m0; omega) r0
end Go.Proofs.Ytafonjnanfekkaa.Lay

namespace Go.Proofs.Ytafonjnanfekkaa.layoutBack
open Go.ChangeShapes Go.WideShapes Go.ChangeAt Go.RowKit Go.Joins
set_option linter.unusedVariables false
set_option linter.unusedSimpArgs false

open Go.Proofs.Ytafonjnanfekkaa.Lay
theorem own : ownKnob Try.prog.godebug = none := by kernel_rfl
theorem laidOut : laidOutB Try.prog = true := by kernel_rfl

set_option maxRecDepth 100000 in
theorem lifted (os : Os) (started : os.Started) (H : Type) (enc : TypeId × Value → H) :
    ReturnsInHanded {} Try.checked os 11 .any (Rows.layoutBackSpec.pre6 enc Try.prog Try.f11 Rows.layoutBackRow.domain false) (Rows.layoutBackSpec.post enc Try.prog Try.f11 false true false false) := by
  refine returnsInHanded_of_change_sized (C := Try.checked) own started (by kernel_rfl) Try.func11
    (ChangeSpec.witness6 (enc := enc) (C := Try.checked) false ⟨#[], #[.agg #[.int .i64 0, .int .i64 0, .int .i64 0, .int .i64 0, .int .i64 0, .int .i64 0, .int .i64 0, .int .i64 0, .bool false], .slice none 0 0, .int .i64 0], []⟩ 8 (by kernel_rfl) (by kernel_rfl) (by kernel_rfl) (by kernel_rfl)) ?_
  intro W base args ds gs before hval0 hW hcnd hsz0 _
  have hval : ∀ (j : Nat) t v, Try.f11.params[j]? = some t → args[j]? = some v → Value.okWide Try.prog W .any base t v := hval0
  have hW' := hW
  obtain ⟨p, q, hA0, hV, rfl, hfz, hnd⟩ := hW
  have hA : DataW.TrodAll enc Try.prog W 0 (fun _ => true) true Try.f11.params.toList args.toList ds p := hA0
  have hsz : (DataW.weightsEach Try.prog (Try.f11.params.toList ++ Rows.layoutBackSpec.plain.varTypes Try.prog) (ds ++ gs)).all (· ≤ reachBytes) = true := hsz0
  rw [Try.params11] at hA hval hsz
  obtain ⟨v0, vs0, d0, ds0, p0, q0, hargs, rfl, rfl, h0, r0⟩ := trodAll_cons hA
  obtain ⟨v1, vs1, d1, ds1, p1, q1, rfl, rfl, rfl, h1, r1⟩ := trodAll_cons r0
  obtain ⟨v2, vs2, d2, ds2, p2, q2, rfl, rfl, rfl, h2, r2⟩ := trodAll_cons r1
  obtain ⟨rfl, rfl, rfl⟩ := trodAll_nil r2
  obtain rfl : args = #[v0, v1, v2] := by cases args; simp_all
  obtain ⟨rfl, rfl⟩ := trodVars_none hV
  have k0 := h0
  have lt0 : ∀ x ∈ p0, x.block < W.heap.size := by obtain ⟨m, hm⟩ := k0; exact DataW.trod_lt m _ _ _ hm
  obtain ⟨s0B, s0P, s0I, s0J, s0fb, s0fi, s0o, s0m, s0cl, rfl⟩ := open_super (hval 0 39 v0 rfl rfl) h0
  have k1 := h1
  have lt1 : ∀ x ∈ p1, x.block < W.heap.size := by obtain ⟨m, hm⟩ := k1; exact DataW.trod_lt m _ _ _ hm
  obtain ⟨a1, len1, cap1, gs1, rfl, ro1, lc1, ml1⟩ := open_groups (hval 1 45 v1 rfl rfl) h1
  obtain ⟨a2, rfl, rfl, rfl, w2⟩ := open_int Try.underlying3 (hval 2 3 v2 rfl rfl) h2
  clear hA0 hval0
  refine (layoutBack_walk W s0B s0P s0I s0J s0fb s0fi s0o s0m s0cl a1 len1 cap1 gs1 ro1 lc1 ml1 a2 w2).mono fun e W' ⟨he, bel⟩ => ?_
  subst he
  exact ⟨_, rfl, _, _, _, [], _, [], hW', trodAll_mk1 (shut_bool Try.underlying4 _), (trodAll_cons_mk (Below.trod laidOut (by kernel_rfl) (of_decide_eq_true (by kernel_rfl)) k0 bel lt0) (trodAll_cons_mk (Below.trod laidOut (by kernel_rfl) (of_decide_eq_true (by kernel_rfl)) k1 bel lt1) (trodAll_cons_mk (shut_int Try.underlying3 w2) trodAll_mk0))), rfl, bel.frame _, fun h => by cases h⟩

theorem over : Rows.layoutBackRow.holds Try.pinned (OpenSpec.ofChange Rows.layoutBackSpec) :=
  OpenClaim.holds_of_wide 11 Try.f11 rfl rfl rfl rfl rfl rfl rfl ⟨rfl, rfl, rfl, rfl, rfl⟩ rfl rfl rfl rfl rfl (by kernel_rfl) Try.func11 (by kernel_rfl)
    (of_decide_eq_true (by kernel_rfl)) (by unfold Func.isWrapper; first | (rw [if_pos (by decide +kernel)]; kernel_rfl) | (rw [if_neg (by decide +kernel)]; exact ⟨rfl, rfl⟩))
    (fun os started H enc _ => lifted os started H enc)

theorem proved : Rows.LayoutBackSaid := over
#print axioms proved
end Go.Proofs.Ytafonjnanfekkaa.layoutBack
