
/-
  THE ROW of hayricklaw06.StoreHomes: for every input the law returns true, and its arguments read as they did. No condition.
-/
import Derived.Test.YtomoliickggghaaKR6N9
import Derived.Test.YtomoliickggghaaKR6N7
import Derived.Deep.DeepCutAuto
import Derived.Deep.CutBlock
import Derived.Test.YtomoliickggghaaRows
import Derived.ProofKit
import Derived.OpenShut
import Derived.ShutString
import Derived.ChangeOld
import Derived.SizedLaws
import Derived.Lib.SmallJoins
namespace Go.Proofs.Ytomoliickggghaa.Mem
open Go.RowKit Go.Proofs.Ytomoliickggghaa Go.Proofs.Ytomoliickggghaa.Wire
set_option maxHeartbeats 16000000
set_option maxRecDepth 100000
set_option linter.unusedVariables false
set_option linter.unusedSimpArgs false

theorem storeHomes_run (w : World) (A : Option Addr) (len cap : Nat) (gs : List Op3) (ro : RowAt w A (len * 3) (ocells gs)) (lc : len ≤ cap) (ml : cap ≤ maxLen) (hl : gs.length = len) :
    Calls Try.prog 7 #[.slice A len cap] w fun e w' => e = .returned (.bool true) ∧ Below w.heap.size w w' := by
  have HA := Lib.hid (awake_any w)
  have RO := Lib.hid ro
  have hml : cap ≤ 9223372036854775807 := by unfold maxLen at ml; omega
  have hmk := make_falses 128 (by omega)
  rw [show ((128 : Nat) : Int) = 128 from rfl] at hmk
  clear ro ml
  go_enter Try.func7, Try.ntmps7
  go_wp2_with fail
  refine HA.out.mono ?_
  rintro e w1 ⟨rfl, hb1⟩
  have B1 := Lib.hid hb1
  have HD := Lib.hid (dnew_any w1 (fun _ => 0) w1.heap.size 24 2 300 128 (by omega) (by omega) (Nat.le_refl _) (by omega) (by omega) (by omega))
  rw [show ((128 : Nat) : Int) = 128 from rfl] at HD
  clear HA hb1
  go_wp2_with fail
  refine HD.out.mono ?_
  rintro e w2 ⟨q, col2, rfl, ht2, hd2, _⟩
  have T2 := Lib.hid ht2
  have HS := Lib.hid (snew_all w2 col2 w1.heap.size 16 q 4 8 _ hd2 (by omega) ht2.size (ht2.tidy (fun _ _ => rfl)) (by omega) (by omega) (by omega) (by omega))
  rw [show ((4 : Nat) : Int) = 4 from rfl, show ((8 : Nat) : Int) = 8 from rfl] at HS
  clear HD ht2 hd2
  unfold ptr at HS ⊢
  go_wp2_with fail
  refine HS.out.mono ?_
  rintro e w3 ⟨p, col3, rfl, ht3, hs3, _⟩
  obtain ⟨S0, hS0⟩ : ∃ S0, SS.fresh (DS.fresh 128 q) 4 8 = S0 := ⟨_, rfl⟩
  have hc0 : S0.chg = fun _ => none := by rw [← hS0]; rfl
  have hn0 : S0.d.N = 128 := by rw [← hS0]; rfl
  have hf0 : S0.cnt = 0 := by rw [← hS0]; rfl
  have hp0 : S0.d.pend.length + S0.d.ops = 0 := by rw [← hS0]; rfl
  have hq0 : S0.d.at_ = q := by rw [← hS0]; rfl
  have hw0 : S0.wait = fun _ => none := by rw [← hS0]; rfl
  have hi0 : CI S0 := by rw [← hS0]; exact CI.fresh _ _ (by omega)
  rw [hS0] at hs3
  have L3 := Lib.hid (show Liv w1 w3 col3 w1.heap.size 16 p S0 from ⟨T2.out.trans (ht3.mono (by omega) (by omega)), hs3, Nat.le_trans T2.out.size ht3.size, by omega, rfl⟩)
  clear T2 HS ht3 hs3 hS0
  unfold ptr
  obtain ⟨w4, hw4⟩ : ∃ w4, w3.alloc (.cells (falses 128) 4) = w4 := ⟨_, rfl⟩
  obtain ⟨col4, ht4, hla4⟩ := bools_new (col := col3) (B := w1.heap.size) 128 L3.out.b (by omega) w4 hw4
  have L4 := Lib.hid (L3.out.own ht4 (by omega) (by omega))
  obtain ⟨gt, hgt⟩ : ∃ gt, w3.heap.size = gt := ⟨_, rfl⟩
  rw [hgt] at hla4
  have LT4 := Lib.hid hla4
  have HW4 := Lib.hid hw4
  have HGT := Lib.hid hgt
  have TD0 := Lib.hid (show Tchd S0 (fun _ => false) from fun k _ hh => by rw [hc0, hw0] at hh; rcases hh with hh | hh <;> cases hh)
  clear L3 ht4 hla4 hw4 hgt hc0 hw0
  go_upto_block 0 with (first | rw [HGT.out, HW4.out] | fail)
  go_cut [9, 10] (fun _ _ wx => ∃ (S : SS) (col : Col) (tf : Nat → Bool), Liv w1 wx col w1.heap.size 16 p S ∧ S.d.N = 128 ∧ S.cnt ≤ 300 ∧ CI S ∧ S.d.pend.length + S.d.ops = 0 ∧ S.d.at_ = q ∧ Tchd S tf ∧ Row wx col w1.heap.size 6 4 1 (.slice (some ⟨gt, 0, none⟩) 128 128) 128 (bools tf 128))
  case first =>
    go_wp2_with fail
    go_loopw [9, 10] (fun ii _ wr => ∃ (j : Nat) (S : SS) (col : Col) (tf : Nat → Bool), ii = .int .i64 j ∧ j ≤ len ∧ j ≤ 300 ∧ Liv w1 wr col w1.heap.size 16 p S ∧ S.d.N = 128 ∧ S.cnt ≤ j ∧ CI S ∧ S.d.pend.length + S.d.ops = 0 ∧ S.d.at_ = q ∧ Tchd S tf ∧ Row wr col w1.heap.size 6 4 1 (.slice (some ⟨gt, 0, none⟩) 128 128) 128 (bools tf 128)) (fun ii _ _ => 300 - (intOf ii).toNat)
    case atStart => exact ⟨0, S0, col4, fun _ => false, rfl, by omega, by omega, L4.out, hn0, by omega, hi0, hp0, hq0, TD0.out, LT4.out⟩
    case round =>
      clear L4 LT4 TD0
      obtain ⟨j, S, col, tf, rfl, hj, hj2, hL, hN, hcnt, hci, hpo, hat, htd, hrt⟩ := hrel
      have LV := Lib.hid hL
      have CIS := Lib.hid hci
      have TDS := Lib.hid htd
      have RT := Lib.hid hrt
      clear hL hci htd hrt
      by_cases hlt : j < len ∧ j < 300
      · obtain ⟨hlt, hlt2⟩ := hlt
        have RR := Lib.hid (LV.out.old (RO.out.below B1.out))
        obtain ⟨a, x, b, f, hAe, hgk, k0, k1, k2⟩ := op3_at RR.out hl hlt
        subst hAe
        have i1 : (j : Int) < (len : Int) := by omega
        have i2 : (j : Int) < 300 := by omega
        obtain ⟨wo, hwo⟩ : ∃ wo, wr.alloc (.cells #[.int .i64 x, .int .i64 b, .int .i64 f] 32) = wo := ⟨_, rfl⟩
        obtain ⟨go, hgo⟩ : ∃ go, wr.heap.size = go := ⟨_, rfl⟩
        have BO := Lib.hid (show Below wr.heap.size wr wo from hwo ▸ (Below.refl wr.heap.size wr).alloc (Nat.le_refl _) _)
        have LVO := Lib.hid (LV.out.below BO.out)
        have RT' := Lib.hid (RT.out.keep (lo := 16) (hi := 16) (Tch.of_below BO.out) (by omega))
        have OB := Lib.hid (show Bk wo col 0 0 go 32 #[.int .i64 x, .int .i64 b, .int .i64 f] from ⟨by rw [← hwo, ← hgo]; exact Blk.new _ _ _, by rw [← hgo]; exact LV.out.tidy _ (Nat.le_refl _), Nat.zero_le _⟩)
        have z0 : wo.cell? ⟨go, 0, none⟩ = some (.int .i64 x) := OB.out.blk.cell 0
        have z1 : wo.cell? ⟨go, 1, none⟩ = some (.int .i64 b) := OB.out.blk.cell 1
        have z2 : wo.cell? ⟨go, 2, none⟩ = some (.int .i64 f) := OB.out.blk.cell 2
        have HWO := Lib.hid hwo
        have HGO := Lib.hid hgo
        clear hwo hgo RR LV BO hgk RT
        go_wp2_with (first | rw [HGO.out, HWO.out] | fail)

        have LD := Lib.hid (LVO.out.below (below_drewN (Below.refl _ _) 1))
        rw [show wo.drewN 1 = wo.drew from rfl] at LD
        have RT' := Lib.hid (RT'.out.keep (lo := 16) (hi := 16) ((Tch.refl 16 16 col wo).drew) (by omega))
        have OD := Lib.hid (OB.out.keep (lo := 16) (hi := 16) ((Tch.refl 16 16 col wo).drew) (by omega))
        have hlen0 : ∀ (cx : Col) (wx : World), Bk wx cx 0 0 go 32 #[.int .i64 x, .int .i64 b, .int .i64 f] → wx.cell? ⟨go, 1, none⟩ = some (.int .i64 b) ∧ wx.cell? ⟨go, 2, none⟩ = some (.int .i64 f) := fun cx wx h => ⟨h.blk.cell 1, h.blk.cell 2⟩
        refine region_mix [true, true, true, true, true, false, false] (S := fun w' => w'.cell? ⟨go, 1, none⟩ = some (.int .i64 b) ∧ w'.cell? ⟨go, 2, none⟩ = some (.int .i64 f)) (by kernel_rfl) (by kernel_rfl) (fun _ _ d _ _ h => by cases d <;> exact h) (hlen0 _ _ OD.out) ?_
        iterate 5 (refine mix_take (v := ?_) (by kernel_rfl) ?_ (fun K hK => ?_); rotate_left; (· (intro w' hSw; (try dsimp only at hSw); go_simp; with_reducible rfl)); simp only [Act.put, List.setIfInBounds_toArray, List.set_cons_zero, List.set_cons_succ]; refine hK _ ?_; clear hK K)
        refine mix_do (E := False) (fun K hK => ?_) (by kernel_rfl)
        go_simp
        refine (filled_all f wo.drew col LD.out.tidy).mono ?_
        rintro e w6 ⟨g6, rfl, hb6, hy6, hr6, hc6, hg6⟩
        have L6 := Lib.hid (LD.out.below hb6)
        have RT' := Lib.hid (RT'.out.keep (lo := 16) (hi := 16) (Tch.of_below hb6) (by omega))
        have O6 := Lib.hid (OD.out.keep (lo := 16) (hi := 16) (Tch.of_below hb6) (by omega))
        have HW := Lib.hid (swrite_all w6 col w1.heap.size 16 p g6 256 S b (fillB f) L6.out.s L6.out.b (by have := hcnt; unfold SS.cnt at this; omega) hy6 (by omega))
        have hp := writeS_parts S b (fillB f)
        have HCS := Lib.hid (show S.has b = true → S.writeS b (fillB f) = S.write b (fillB f) from fun h => by rw [SS.writeS, if_pos h])
        have HCN := Lib.hid (show S.has b = false → S.writeS b (fillB f) = S from fun h => by rw [SS.writeS, h]; rfl)
        have HE1 := Lib.hid (show S.has b = true → S.writeE b = 0 from fun h => by rw [SS.writeE, if_pos h])
        have HE0 := Lib.hid (show S.has b = false → S.writeE b = 5 from fun h => by rw [SS.writeE, h]; rfl)
        obtain ⟨S7, hS7⟩ : ∃ S7, S.writeS b (fillB f) = S7 := ⟨_, rfl⟩
        have CI7 := Lib.hid (show CI S7 by rw [← hS7]; exact CIS.out.writeS _ _)
        rw [hS7] at hp HW HCS HCN
        generalize S.writeE b = er at *
        have hN7 : S7.d.N = 128 := by rw [hp.1]; exact hN
        have hpo7 : S7.d.pend.length + S7.d.ops = 0 := by rw [hp.1]; exact hpo
        have hat7 : S7.d.at_ = q := by rw [hp.1]; exact hat
        have hc7 : S7.cnt ≤ j + 1 := by omega
        clear hp hS7 CIS
        clear hb6 hy6 hr6 LD OD LVO OB
        unfold ptr at HW
        refine hK.out _ _ ((hlen0 _ _ O6.out)) ?_
        clear hK K
        try simp only [Act.put, List.setIfInBounds_toArray, List.set_cons_zero, List.set_cons_succ]
        refine mix_do (E := False) (fun K hK => ?_) (by kernel_rfl)
        go_simp
        refine HW.out.mono ?_
        rintro e w7 ⟨col7, rfl, ht7, hs7⟩
        have L7 := Lib.hid (L6.out.next ht7 hs7)
        have RT' := Lib.hid (RT'.out.keep ht7 (by omega))
        have O7 := Lib.hid (O6.out.keep ht7 (by omega))
        clear ht7 hs7 L6 O6 HW
        refine hK.out _ _ ((hlen0 _ _ O7.out)) ?_
        clear hK K
        try simp only [Act.put, List.setIfInBounds_toArray, List.set_cons_zero, List.set_cons_succ]
        refine mix_still ?_
        iterate 1 (refine still_take (v := ?_) (by kernel_rfl) ?_ (fun K hK => ?_); rotate_left; (· (go_simp; with_reducible rfl)); simp only [Act.put, List.setIfInBounds_toArray, List.set_cons_zero, List.set_cons_succ]; refine hK _ ?_; clear hK K)
        refine still_end ?_
        go_upto_if 56 with fail
        go_cut [] (fun wx => ∃ (S8 : SS) (col8 : Col) (tf8 : Nat → Bool), Liv w1 wx col8 w1.heap.size 16 p S8 ∧ S8.d.N = 128 ∧ S8.cnt ≤ j + 1 ∧ CI S8 ∧ S8.d.pend.length + S8.d.ops = 0 ∧ S8.d.at_ = q ∧ Tchd S8 tf8 ∧ Row wx col8 w1.heap.size 6 4 1 (.slice (some ⟨gt, 0, none⟩) 128 128) 128 (bools tf8 128) ∧ Bk wx col8 0 0 go 32 #[.int .i64 x, .int .i64 b, .int .i64 f])
        case first =>
          cases hh : S.has b with
          | false =>
            obtain rfl := HE0.out hh
            obtain rfl := HCN.out hh
            go_wp2_with fail
            go_meet
            exact ⟨S7, col7, tf, L7.out, hN7, hc7, CI7.out, hpo7, hat7, TDS.out, RT'.out, O7.out⟩
          | true =>
            obtain rfl := HE1.out hh
            obtain rfl := HCS.out hh
            have hb2 : 0 ≤ b ∧ b < 128 := by have : 0 ≤ b ∧ b < (S.d.N : Int) := of_decide_eq_true hh; omega
            obtain ⟨kb, rfl⟩ := Int.eq_ofNat_of_zero_le hb2.1
            have hkb : (kb : Int) < 128 := hb2.2
            have hkb0 : (0 : Int) ≤ (kb : Int) := hb2.1
            have htn : ((kb : Int)).toNat = kb := by omega
            have q1 : w7.cell? ⟨go, 1, none⟩ = some (.int .i64 (kb : Int)) := O7.out.blk.cell 1
            have q2 : w7.cell? ⟨gt, kb, none⟩ = some (.bool (tf kb)) := by rw [RT'.out.own.cellAt kb (by omega), bools_at _ (by omega)]
            have q3 : w7.frozen? ⟨gt, kb, none⟩ = false := RT'.out.own.frozenAt kb
            obtain ⟨hr9, ht9⟩ := bools_put (k := kb) RT'.out true
            have RT9 := Lib.hid hr9
            have L9 := Lib.hid (L7.out.own ht9 (by omega) (by omega))
            have O9 := Lib.hid (O7.out.keep ht9 (by omega))
            clear hr9 ht9
            go_wp2_with fail
            go_meet
            exact ⟨S.write kb (fillB f), col7, _, L9.out, hN7, hc7, CI7.out, hpo7, hat7, TDS.out.write kb (fillB f), RT9.out, O9.out⟩
        case rest =>
          obtain ⟨S8, col8, tf8, l8, hN8, hc8, hci8, hpo8, hat8, htd8, hrt8, ob8⟩ := hcut
          have L8 := Lib.hid l8
          have CI8 := Lib.hid hci8
          have TD8 := Lib.hid htd8
          have RT8 := Lib.hid hrt8
          have O8 := Lib.hid ob8
          clear l8 hci8 htd8 hrt8 ob8
          have z0 : wc.cell? ⟨go, 0, none⟩ = some (.int .i64 x) := O8.out.blk.cell 0
          obtain ⟨y, hy⟩ : ∃ y, bits .and .i64 x 7 = y := ⟨_, rfl⟩
          by_cases hy1 : y = 1
          · subst hy1
            have HC := Lib.hid (scommit_any wc col8 w1.heap.size 16 p S8 L8.out.s)
            have HP := Lib.hid (commit_parts S8)
            unfold ptr at HC
            go_wp2_with (simp only [hy])
            refine HC.out.mono ?_
            rintro e w9 ⟨v9, col9, rfl, ht9, hs9, _⟩
            have L9 := Lib.hid (L8.out.next ht9 hs9)
            have RT9 := Lib.hid (RT8.out.keep ht9 (by omega))
            clear ht9 hs9 HC
            go_wp2_with fail
            go_roundw
            case rel => exact ⟨j + 1, S8.commit, col9, tf8, by go_num, by omega, by omega, L9.out, by rw [HP.out.1]; exact hN8, by have := HP.out.2.2.1; omega, CI8.out.commit, by rw [HP.out.1]; exact hpo8, by rw [HP.out.1]; exact hat8, TD8.out.commit, RT9.out⟩
            case measure => simp [intOf]; omega
          · have hyb : (y == 1) = false := by simp [hy1]
            go_wp2_with (simp only [hy, hyb])
            go_roundw
            case rel => exact ⟨j + 1, S8, col8, tf8, by go_num, by omega, by omega, L8.out, hN8, hc8, CI8.out, hpo8, hat8, TD8.out, RT8.out⟩
            case measure => simp [intOf]; omega
      · have hcase : (j = 300 ∧ (j : Int) < (len : Int)) ∨ j = len := by omega
        rcases hcase with ⟨rfl, i1⟩ | rfl
        all_goals
          go_wp2_with fail
          go_meet
          exact ⟨S, col, tf, LV.out, hN, by omega, CIS.out, hpo, hat, TDS.out, RT.out⟩
  case rest =>
    clear L4 LT4 TD0
    obtain ⟨S, col, tf, hL, hN, hcnt, hci, hpo, hat, htd, hrt⟩ := hcut
    have LV := Lib.hid hL
    have CIS := Lib.hid hci
    have TDS := Lib.hid htd
    have RT := Lib.hid hrt
    clear hL hci htd hrt
    have HC := Lib.hid (scommit_any wc col w1.heap.size 16 p S LV.out.s)
    have hp := commit_parts S
    obtain ⟨SW, hSW⟩ : ∃ SW, S.commit = SW := ⟨_, rfl⟩
    have CIW := Lib.hid (show CI SW by rw [← hSW]; exact CIS.out.commit)
    have TDW := Lib.hid (show Tchd SW tf by rw [← hSW]; exact TDS.out.commit)
    rw [hSW] at HC hp
    have hNW : SW.d.N = 128 := by rw [hp.1]; exact hN
    have hcW : SW.cnt ≤ 300 := by omega
    have hpW : SW.d.pend.length = 0 ∧ SW.d.ops = 0 := by rw [hp.1]; omega
    have haW : SW.d.at_ = q := by rw [hp.1]; exact hat
    have HST := Lib.hid (Homed.start (S0 := SW) (fun k => by rw [hp.2.1]))
    clear hSW hp CIS TDS hN hcnt hpo hat
    unfold ptr at HC
    go_wp2_with fail
    refine HC.out.mono ?_
    rintro e w5 ⟨v5, col5, rfl, ht5, hs5, _⟩
    have L5 := Lib.hid (LV.out.next ht5 hs5)
    have RT5 := Lib.hid (RT.out.keep ht5 (by omega))
    have HWT := Lib.hid (swaiting_any w5 col5 w1.heap.size 16 p SW hs5)
    rw [hNW] at HWT
    clear ht5 hs5 HC LV RT
    unfold ptr at HWT
    go_wp2_with fail
    refine HWT.out.mono ?_
    rintro e w6 ⟨v6, col6, rfl, ht6, hs6, ho6⟩
    have L6 := Lib.hid (L5.out.same ht6)
    have RT6 := Lib.hid (RT5.out.keep ht6 (by omega))
    obtain ⟨AW, cw, rfl, hlw, hcw⟩ := ho6.form
    have W6 := Lib.hid ho6
    clear ht6 hs6 ho6 HWT L5 RT5
    have hK : (wsOf 128 SW.wait).length = (keysOf 128 SW.wait).length := wsOf_len _ _
    obtain ⟨K, hKe⟩ : ∃ K, (keysOf 128 SW.wait).length = K := ⟨_, rfl⟩
    have hK128 : K ≤ 128 := by rw [← hKe]; exact keysOf_len _ _
    rw [hK, hKe] at W6 ⊢
    rw [hK, hKe] at hlw
    have HKE := Lib.hid hKe
    have HK2 := Lib.hid (hK.trans hKe)
    clear hK hKe
    go_wp2_with fail
    go_loopw [12] (fun ii wr => ∃ (i : Nat) (S : SS) (col : Col), ii = .int .i64 i ∧ i ≤ K ∧ Liv w1 wr col w1.heap.size 16 p S ∧ Homed SW S i ∧ CI S ∧ WrO wr col w5.heap.size (.slice AW K cw) (wsOf 128 SW.wait) ∧ Row wr col w1.heap.size 6 4 1 (.slice (some ⟨gt, 0, none⟩) 128 128) 128 (bools tf 128)) (fun ii _ => K - (intOf ii).toNat)
    case atStart => exact ⟨0, SW, col6, rfl, by omega, L6.out, HST.out, CIW.out, W6.out, RT6.out⟩
    case round =>
      clear L6 RT6 W6
      obtain ⟨i, S, col, rfl, hi, hL, hho, hci, hw, hrt⟩ := hrel
      have LV := Lib.hid hL
      have CIS := Lib.hid hci
      have HO := Lib.hid hho
      have WV := Lib.hid hw
      have RT := Lib.hid hrt
      clear hL hci hho hw hrt
      by_cases hlt : i < K
      · have hii : (i : Int) < (K : Int) := by omega
        obtain ⟨nn, hnn⟩ : ∃ nn, (keysOf 128 SW.wait)[i]? = some nn := ⟨_, List.getElem?_eq_getElem (by rw [HKE.out]; exact hlt)⟩
        obtain ⟨hnr, hns⟩ := keysOf_mem.1 (List.mem_of_getElem? hnn)
        obtain ⟨n, rfl⟩ := Int.eq_ofNat_of_zero_le hnr.1
        have hn1 : (n : Int) < 128 := by omega
        have hn0' : (0 : Int) ≤ (n : Int) := by omega
        have htn : ((n : Int)).toNat = n := by omega
        have htf : tf n = true := TDW.out n (by omega) (.inr hns)
        obtain ⟨bs, hbs⟩ : ∃ bs, (wsOf 128 SW.wait)[i]? = some ((n : Int), bs) := ⟨_, by rw [wsOf, List.getElem?_map, hnn]; rfl⟩
        have hw1 := WV.out
        rw [← HK2.out] at hw1
        obtain ⟨gw, g2, c2, rfl, hg2c, hk0, _, _⟩ := hw1.at_ hbs
        obtain ⟨hhE, hhN⟩ := HO.out.next hnn hNW
        have HH := Lib.hid (shome_all wr col w1.heap.size 16 p S n LV.out.s LV.out.b (by rw [HO.out.pend, HO.out.ops]; omega))
        rw [hhE] at HH
        have HN := Lib.hid hhN
        have CIN := Lib.hid (CIS.out.home (n : Int))
        obtain ⟨S7, hS7⟩ : ∃ S7, S.home n = S7 := ⟨_, rfl⟩
        rw [hS7] at HH HN CIN
        clear hS7 hw1 hhN hhE hnn hns CIS HO
        unfold ptr at HH
        go_wp2_with fail
        refine HH.out.mono ?_
        rintro e w7 ⟨col7, rfl, ht7, hs7⟩
        have L7 := Lib.hid (LV.out.next ht7 hs7)
        have W7 := Lib.hid (WV.out.keep ht7 (by omega))
        have RT7 := Lib.hid (RT.out.keep ht7 (by omega))
        have hw7 := W7.out
        rw [← HK2.out] at hw7
        obtain ⟨gw', g2', c2', hge, _, hk7, _, _⟩ := hw7.at_ hbs
        obtain rfl : gw = gw' := by injection hge with hge; injection hge
        have q2 : w7.cell? ⟨gt, n, none⟩ = some (.bool true) := by rw [RT7.out.own.cellAt n (by omega), bools_at _ (by omega), htf]
        clear ht7 hs7 hw7 HH hk0 LV WV RT hge
        go_wp2_with fail
        go_roundw
        case rel => exact ⟨i + 1, S7, col7, by go_num, by omega, L7.out, HN.out, CIN.out, W7.out, RT7.out⟩
        case measure => simp [intOf]; omega
      · obtain rfl : i = K := by omega
        have HOK := Lib.hid (show Homed SW S (keysOf 128 SW.wait).length by rw [HKE.out]; exact HO.out)
        have hpS : S.d.pend.length = i := by rw [HO.out.pend]; omega
        have hNS : S.d.N = 128 := by rw [HO.out.n]; exact hNW
        have hcS : S.cnt ≤ 300 := by rw [HO.out.cnt]; exact hcW
        have haS : S.d.at_ = q := by rw [HO.out.at_]; exact haW
        obtain ⟨SM, hSM⟩ : ∃ SM, S = SM := ⟨_, rfl⟩
        rw [hSM] at HOK hpS hNS hcS haS LV CIS
        clear hSM HO HST RT
        go_wp2_with fail
        go_loopw [13, 14, 15, 16, 17] (fun nn _ _ _ _ wr => ∃ (n : Nat) (S : SS) (col : Col), nn = .int .i64 n ∧ n ≤ 128 ∧ Liv w1 wr col w1.heap.size 16 p S ∧ S.core = SM.core ∧ S.cnt ≤ 300 + n ∧ CI S) (fun nn _ _ _ _ _ => 128 - (intOf nn).toNat)
        case atStart => exact ⟨0, SM, col, rfl, by omega, LV.out, rfl, by omega, CIS.out⟩
        case round =>
          clear LV CIS
          obtain ⟨n, S, col, rfl, hn, hL, hco, hcnt, hci⟩ := hrel
          have LV := Lib.hid hL
          have CIS := Lib.hid hci
          have HCO := Lib.hid hco
          clear hL hci hco
          by_cases hlt2 : n < 128
          · have hni : (n : Int) < 128 := by omega
            have hcv := core_val HCO.out (n : Int)
            have hd : S.d = SM.d := (core_iff.1 HCO.out).2.2.2.2
            have HRD := Lib.hid (sread_all wr col w1.heap.size 16 p S n LV.out.s LV.out.b (by have := hcnt; unfold SS.cnt at this; omega))
            have hhas : SM.has n = true := by unfold SS.has; rw [hNS]; exact decide_eq_true (by omega)
            have hv := HOK.out.val n hlt2
            have hb1 : S.readB n = SM.d.get n := by rw [CIS.out.readB, if_pos (by rw [hcv.2.1]; exact hhas), hcv.1, hv]
            have hb2 : (SM.d.get n).length = 256 := by rw [← hv, ← hcv.1, ← CIS.out.bytes]; exact LV.out.s.len n
            rw [hb1] at HRD
            obtain ⟨S7, hS7⟩ : ∃ S7, S.readS n = S7 := ⟨_, rfl⟩
            have hp := read_parts S n
            rw [hS7] at HRD hp
            have hcnt7 : S7.cnt ≤ 300 + (n + 1) := by omega
            have HCO7 := Lib.hid (show S7.core = SM.core by rw [← hS7, read_core]; exact HCO.out)
            have CI7 := Lib.hid (show CI S7 by rw [← hS7]; exact CIS.out.readS _)
            have hd7 : S7.d = SM.d := by rw [hp.1]; exact hd
            obtain ⟨er, her⟩ : ∃ er, S.readE n = er := ⟨_, rfl⟩
            rw [her] at HRD
            clear hS7 hb1 her hp CIS HCO hcv hv hhas hd
            unfold ptr at HRD
            go_wp2_with fail
            refine HRD.out.mono ?_
            rintro e w7 ⟨v7, col7, rfl, ht7, hs7, hr7⟩
            rw [hb2] at hr7
            have L7 := Lib.hid (LV.out.next ht7 hs7)
            obtain ⟨gv, cv, _, rfl, _⟩ := own_form hr7.own (by omega)
            have V7 := Lib.hid (BytesAt.of_own hr7.own)
            have hdk := hs7.disk
            rw [hd7, haS] at hdk
            have HDR := Lib.hid (dread_any w7 col7 w1.heap.size 24 q SM.d n hdk)
            have hdh : SM.d.has n = true := by unfold DS.has; rw [hNS]; exact decide_eq_true (by omega)
            rw [show SM.d.readB n = SM.d.get n by unfold DS.readB; rw [if_pos hdh], show SM.d.readE n = 0 by unfold DS.readE; rw [if_pos hdh], hb2] at HDR
            clear ht7 hs7 hr7 hdk hdh HRD LV
            unfold ptr at HDR
            go_wp2_with fail
            refine HDR.out.mono ?_
            rintro e w8 ⟨v8, rfl, hb8, ho8⟩
            obtain ⟨gu, cu, _, rfl, _⟩ := own_form ho8 (by omega)
            have L8 := Lib.hid (L7.out.below hb8)
            have V8 := Lib.hid (V7.out.below hb8)
            have U8 := Lib.hid (BytesAt.of_own ho8)
            clear hb8 ho8 HDR L7 V7
            go_wp2_with fail
            refine (same_any (some ⟨gv, 0, none⟩) (some ⟨gu, 0, none⟩) 256 256 cv cu (SM.d.get n) (SM.d.get n) w8 (by omega) V8.out U8.out).mono ?_
            rintro e wd ⟨rfl, kd, rfl⟩
            rw [show (SM.d.get (n : Int) == SM.d.get (n : Int)) = true by simp]
            have LN := Lib.hid (L8.out.below (below_drewN (Below.refl _ _) kd))
            clear L8 V8 U8
            go_wp2_with fail
            go_roundw
            case rel => first | exact ⟨n + 1, S7, col7, by go_num, by omega, LN.out, HCO7.out, hcnt7, CI7.out⟩ | ((repeat apply Exists.intro); refine ⟨?_, rfl⟩; exact ⟨n + 1, S7, col7, by go_num, by omega, LN.out, HCO7.out, hcnt7, CI7.out⟩)
            case measure => simp [intOf]; omega
          · obtain rfl : n = 128 := by omega
            have hcc := core_iff.1 HCO.out
            have HWT := Lib.hid (swaiting_any wr col w1.heap.size 16 p S LV.out.s)
            rw [hcc.2.2.2.2, hNS, hcc.2.1, HOK.out.none] at HWT
            unfold ptr at HWT
            go_wp2_with fail
            refine HWT.out.mono ?_
            rintro e w7 ⟨v7, col7, rfl, ht7, hs7, ho7⟩
            obtain ⟨A7, c7, rfl, _⟩ := ho7.form
            have L7 := Lib.hid (LV.out.same ht7)
            have hdk := hs7.disk
            rw [hcc.2.2.2.2, haS] at hdk
            have HPD := Lib.hid (dpending_any w7 col7 w1.heap.size 24 q SM.d hdk L7.out.tidy)
            clear ht7 hs7 ho7 hdk HWT LV
            unfold ptr at HPD
            have hii : ((i : Int) == (i : Int)) = true := by simp
            go_wp2_with fail
            refine HPD.out.mono ?_
            rintro e w8 ⟨v8, col8, rfl, ht8, ho8⟩
            obtain ⟨A8, c8, rfl, _⟩ := ho8.form
            rw [hpS]
            have L8 := Lib.hid (L7.out.same ht8)
            clear ht8 ho8 HPD L7
            go_wp2_with fail
            go_ret
            exact ⟨rfl, below_all B1.out B1.out.size L8.out.end⟩
theorem storeHomes_walk (w : World) (a0 : Option Addr) (len0 cap0 : Nat) (gs0 : List Op3) (ro0 : RowAt w a0 (len0 * 3) (ocells gs0)) (lc0 : len0 ≤ cap0) (ml0 : cap0 ≤ maxLen) (ha0 : a0 = none → len0 = 0 ∧ cap0 = 0) (hl0 : gs0.length = len0) (ok0 : ∀ g ∈ gs0, OpOk g) :
    Calls Try.prog 7 #[.slice a0 len0 cap0] w fun e w' => e = .returned (.bool true) ∧ Below w.heap.size w w' := storeHomes_run w a0 len0 cap0 gs0 ro0 lc0 ml0 hl0
end Go.Proofs.Ytomoliickggghaa.Mem

namespace Go.Proofs.Ytomoliickggghaa.storeHomes
open Go.ChangeShapes Go.WideShapes Go.ChangeAt Go.RowKit Go.Joins
set_option linter.unusedVariables false
set_option linter.unusedSimpArgs false

open Go.Proofs.Ytomoliickggghaa.Mem
theorem own : ownKnob Try.prog.godebug = none := by kernel_rfl
theorem laidOut : laidOutB Try.prog = true := by kernel_rfl

set_option maxRecDepth 100000 in
theorem lifted (os : Os) (started : os.Started) (H : Type) (enc : TypeId × Value → H) :
    ReturnsInHanded {} Try.checked os 7 .any (Rows.storeHomesSpec.pre6 enc Try.prog Try.f7 Rows.storeHomesRow.domain false) (Rows.storeHomesSpec.post enc Try.prog Try.f7 false true false false) := by
  refine returnsInHanded_of_change (C := Try.checked) own started (by kernel_rfl) Try.func7
    (ChangeSpec.witness6 (enc := enc) (C := Try.checked) false ⟨#[], #[.slice none 0 0], []⟩ 8 (by kernel_rfl) (by kernel_rfl) (by kernel_rfl) (by kernel_rfl)) ?_
  intro W base args ds gs before hval0 hW hcnd _
  have hval : ∀ (j : Nat) t v, Try.f7.params[j]? = some t → args[j]? = some v → Value.okWide Try.prog W .any base t v := hval0
  have hW' := hW
  obtain ⟨p, q, hA0, hV, rfl, hfz, hnd⟩ := hW
  have hA : DataW.TrodAll enc Try.prog W 0 (fun _ => true) true Try.f7.params.toList args.toList ds p := hA0
  rw [Try.params7] at hA hval
  obtain ⟨v0, vs0, d0, ds0, p0, q0, hargs, rfl, rfl, h0, r0⟩ := trodAll_cons hA
  obtain ⟨rfl, rfl, rfl⟩ := trodAll_nil r0
  obtain rfl : args = #[v0] := by cases args; simp_all
  obtain ⟨rfl, rfl⟩ := trodVars_none hV
  have k0 := h0
  have lt0 : ∀ x ∈ p0, x.block < W.heap.size := by obtain ⟨m, hm⟩ := k0; exact DataW.trod_lt m _ _ _ hm
  obtain ⟨a0, len0, cap0, gs0, rfl, ro0, lc0, ml0, ha0, hl0, ok0⟩ := open_ops (hval 0 22 v0 rfl rfl) h0
  clear hA0 hval0
  refine (storeHomes_walk W a0 len0 cap0 gs0 ro0 lc0 ml0 ha0 hl0 ok0).mono fun e W' ⟨he, bel⟩ => ?_
  subst he
  exact ⟨_, rfl, _, _, _, [], _, [], hW', trodAll_mk1 (shut_bool Try.underlying4 _), (trodAll_cons_mk (Below.trod laidOut (by kernel_rfl) (of_decide_eq_true (by kernel_rfl)) k0 bel lt0) trodAll_mk0), rfl, bel.frame _, fun h => by cases h⟩

theorem over : Rows.storeHomesRow.holds Try.pinned (OpenSpec.ofChange Rows.storeHomesSpec) :=
  OpenClaim.holds_of_wide 7 Try.f7 rfl rfl rfl rfl rfl rfl rfl ⟨rfl, rfl, rfl, rfl, rfl⟩ rfl rfl rfl rfl rfl (by kernel_rfl) Try.func7 (by kernel_rfl)
    (of_decide_eq_true (by kernel_rfl)) (by unfold Func.isWrapper; first | (rw [if_pos (by decide +kernel)]; kernel_rfl) | (rw [if_neg (by decide +kernel)]; exact ⟨rfl, rfl⟩))
    (fun os started H enc _ => lifted os started H enc)

theorem proved : Rows.StoreHomesSaid := over
#print axioms proved
end Go.Proofs.Ytomoliickggghaa.storeHomes
