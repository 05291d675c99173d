
/-
  THE ROW of hayricklaw06.StoreCommits: for every input the law returns true, and its arguments read as they did. No condition.
-/
import Derived.Test.YtomoliickggghaaKR6N7
import Derived.Deep.DeepCutAuto
import Derived.Test.YtomoliickggghaaRows
import Derived.ProofKit
import Derived.OpenShut
import Derived.ShutString
import Derived.ChangeOld
import Derived.SizedLaws
import Derived.Lib.SmallJoins
namespace Go.Proofs.Ytomoliickggghaa.Mem
open Go.RowKit Go.Proofs.Ytomoliickggghaa Go.Proofs.Ytomoliickggghaa.Wire
set_option maxHeartbeats 16000000
set_option maxRecDepth 100000
set_option linter.unusedVariables false
set_option linter.unusedSimpArgs false

theorem storeCommits_run (w : World) (A : Option Addr) (len cap : Nat) (gs : List Op3) (ro : RowAt w A (len * 3) (ocells gs)) (lc : len ≤ cap) (ml : cap ≤ maxLen) (hA : A = none → len = 0 ∧ cap = 0) (hl : gs.length = len) :
    Calls Try.prog 4 #[.slice A len cap] w fun e w' => e = .returned (.bool true) ∧ Below w.heap.size w w' := by
  have HA := Lib.hid (awake_any w)
  have RO := Lib.hid ro
  have hmk := make_rows 128 (by omega)
  rw [show ((128 : Nat) : Int) = 128 from rfl] at hmk
  have hml : cap ≤ 9223372036854775807 := by unfold maxLen at ml; omega
  clear ro ml
  go_enter Try.func4, Try.ntmps4
  go_wp2_with fail
  refine HA.out.mono ?_
  rintro e w1 ⟨rfl, hb1⟩
  have B1 := Lib.hid hb1
  have HD := Lib.hid (dnew_any w1 (fun _ => 0) w1.heap.size 24 2 300 128 (by omega) (by omega) (Nat.le_refl _) (by omega) (by omega) (by omega))
  rw [show ((128 : Nat) : Int) = 128 from rfl] at HD
  clear HA hb1
  go_wp2_with fail
  refine HD.out.mono ?_
  rintro e w2 ⟨q, col2, rfl, ht2, hd2, _⟩
  have T2 := Lib.hid ht2
  have HS := Lib.hid (snew_all w2 col2 w1.heap.size 16 q 4 8 _ hd2 (by omega) ht2.size (ht2.tidy (fun _ _ => rfl)) (by omega) (by omega) (by omega) (by omega))
  rw [show ((4 : Nat) : Int) = 4 from rfl, show ((8 : Nat) : Int) = 8 from rfl] at HS
  clear HD ht2 hd2
  unfold ptr at HS ⊢
  go_wp2_with fail
  refine HS.out.mono ?_
  rintro e w3 ⟨p, col3, rfl, ht3, hs3, _⟩
  obtain ⟨S0, hS0⟩ : ∃ S0, SS.fresh (DS.fresh 128 q) 4 8 = S0 := ⟨_, rfl⟩
  have hc0 : S0.chg = fun _ => none := by rw [← hS0]; rfl
  have hn0 : S0.d.N = 128 := by rw [← hS0]; rfl
  have hf0 : S0.cnt = 0 := by rw [← hS0]; rfl
  rw [hS0] at hs3
  have L3 := Lib.hid (show Liv w1 w3 col3 w1.heap.size 16 p S0 from ⟨T2.out.trans (ht3.mono (by omega) (by omega)), hs3, Nat.le_trans T2.out.size ht3.size, by omega, rfl⟩)
  obtain ⟨w4, hw4⟩ : ∃ w4, w3.alloc (.cells (nils 128) 34) = w4 := ⟨_, rfl⟩
  obtain ⟨col4, ht4, hla4, hg4⟩ := LastAt.new (col := col3) (B := w1.heap.size) 128 L3.out.b (by omega) S0.chg (fun k => by rw [hc0]) w4 hw4
  have L4 := Lib.hid (L3.out.own ht4 (by omega) (by omega))
  have LA4 := Lib.hid hla4
  obtain ⟨gl, hgl⟩ : ∃ gl, w3.heap.size = gl := ⟨_, rfl⟩
  rw [hgl] at LA4 hg4
  have HW4 := Lib.hid hw4
  have HGL := Lib.hid hgl
  clear T2 HS ht3 hs3 hS0 L3 ht4 hla4 hw4 hgl hc0
  unfold ptr
  go_wp2_with (first | rw [HGL.out, HW4.out] | fail)
  go_loopw [9, 10, 11, 12, 13] (fun ii _ _ _ _ wr => ∃ (j : Nat) (S : SS) (col : Col), ii = .int .i64 j ∧ j ≤ len ∧ j ≤ 300 ∧ Liv w1 wr col w1.heap.size 16 p S ∧ S.d.N = 128 ∧ S.cnt ≤ j ∧ LastAt wr col w1.heap.size gl 128 S.chg) (fun ii _ _ _ _ _ => 300 - (intOf ii).toNat)
  case atStart => exact ⟨0, S0, col4, rfl, by omega, by omega, L4.out, hn0, by omega, LA4.out⟩
  case round =>
    obtain ⟨j, S, col, rfl, hj, hj2, hL, hN, hcnt, hLA⟩ := hrel
    have LV := Lib.hid hL
    have LA := Lib.hid hLA
    have RR := Lib.hid (hL.old (RO.out.below B1.out))
    clear hL hLA
    by_cases hlt : j < len
    · by_cases hlt2 : j < 300
      · obtain ⟨a, x, b, f, rfl, hgk, k0, k1, k2⟩ := op3_at RR.out hl hlt
        have i1 : (j : Int) < (len : Int) := by omega
        have i2 : (j : Int) < 300 := by omega
        have hwa : ∃ wo, wr.alloc (.cells #[.int .i64 x, .int .i64 b, .int .i64 f] 32) = wo := ⟨_, rfl⟩
        obtain ⟨wo, hwo⟩ := hwa
        obtain ⟨go, hgo⟩ : ∃ go, wr.heap.size = go := ⟨_, rfl⟩
        have BO := Lib.hid (show Below wr.heap.size wr wo from hwo ▸ (Below.refl wr.heap.size wr).alloc (Nat.le_refl _) _)
        have LVO := Lib.hid (LV.out.below BO.out)
        have LAO := Lib.hid (LA.out.keep (lo := 16) (hi := 16) (Tch.of_below BO.out) (by omega))
        have OB := Lib.hid (show Bk wo col 0 0 go 32 #[.int .i64 x, .int .i64 b, .int .i64 f] from ⟨by rw [← hwo, ← hgo]; exact Blk.new _ _ _, by rw [← hgo]; exact LV.out.tidy _ (Nat.le_refl _), Nat.zero_le _⟩)
        have HWO := Lib.hid hwo
        have HGO := Lib.hid hgo
        clear hwo hgo RR LV LA BO hgk
        go_wp2_with (first | rw [HGO.out, HWO.out] | fail)
        -- region 11: Write
        have LD := Lib.hid (LVO.out.below (below_drewN (Below.refl _ _) 1))
        have LAD := Lib.hid (LAO.out.keep (lo := 16) (hi := 16) ((Tch.refl 16 16 col wo).drew) (by omega))
        have OD := Lib.hid (OB.out.keep (lo := 16) (hi := 16) ((Tch.refl 16 16 col wo).drew) (by omega))
        rw [show wo.drewN 1 = wo.drew from rfl] at LD
        have hlen0 : ∀ (cx : Col) (wx : World), Bk wx cx 0 0 go 32 #[.int .i64 x, .int .i64 b, .int .i64 f] → wx.cell? ⟨go, 1, none⟩ = some (.int .i64 b) ∧ wx.cell? ⟨go, 2, none⟩ = some (.int .i64 f) := fun cx wx h => ⟨h.blk.cell 1, h.blk.cell 2⟩
        refine region_mix [true, true, true, true, true, false, false] (S := fun w' => w'.cell? ⟨go, 1, none⟩ = some (.int .i64 b) ∧ w'.cell? ⟨go, 2, none⟩ = some (.int .i64 f)) (by kernel_rfl) (by kernel_rfl) (fun _ _ d _ _ h => by cases d <;> exact h) (hlen0 _ _ OD.out) ?_
        iterate 5 (refine mix_take (v := ?_) (by kernel_rfl) ?_ (fun K hK => ?_); rotate_left; (· (intro w' hSw; (try dsimp only at hSw); go_simp; with_reducible rfl)); simp only [Act.put, List.setIfInBounds_toArray, List.set_cons_zero, List.set_cons_succ]; refine hK _ ?_; clear hK K)
        refine mix_do (E := False) (fun K hK => ?_) (by kernel_rfl)
        go_simp
        refine (filled_all f wo.drew col LD.out.tidy).mono ?_
        rintro e w6 ⟨g6, rfl, hb6, hy6, hr6, hc6, hg6⟩
        have L6 := Lib.hid (LD.out.below hb6)
        have LA6 := Lib.hid (LAD.out.keep (lo := 16) (hi := 16) (Tch.of_below hb6) (by omega))
        have O6 := Lib.hid (OD.out.keep (lo := 16) (hi := 16) (Tch.of_below hb6) (by omega))
        have HW := Lib.hid (swrite_all w6 col w1.heap.size 16 p g6 256 S b (fillB f) L6.out.s L6.out.b (by have := hcnt; unfold SS.cnt at this; omega) hy6 (by omega))
        have hp := writeS_parts S b (fillB f)
        have HCS := Lib.hid (show S.has b = true → S.writeS b (fillB f) = S.write b (fillB f) from fun h => by rw [SS.writeS, if_pos h])
        have HCN := Lib.hid (show S.has b = false → S.writeS b (fillB f) = S from fun h => by rw [SS.writeS, h]; rfl)
        have HE1 := Lib.hid (show S.has b = true → S.writeE b = 0 from fun h => by rw [SS.writeE, if_pos h])
        have HE0 := Lib.hid (show S.has b = false → S.writeE b = 5 from fun h => by rw [SS.writeE, h]; rfl)
        obtain ⟨S7, hS7⟩ : ∃ S7, S.writeS b (fillB f) = S7 := ⟨_, rfl⟩
        rw [hS7] at hp HW HCS HCN
        generalize S.writeE b = er at *
        have hN7 : S7.d.N = 128 := by rw [hp.1]; exact hN
        have hc7 : S7.cnt ≤ j + 1 := by omega
        clear hb6 hy6 hr6 LD LAD OD LVO LAO OB hp hS7
        unfold ptr at HW
        refine hK.out _ _ ((hlen0 _ _ O6.out)) ?_
        clear hK K
        try simp only [Act.put, List.setIfInBounds_toArray, List.set_cons_zero, List.set_cons_succ]
        refine mix_do (E := False) (fun K hK => ?_) (by kernel_rfl)
        go_simp
        refine HW.out.mono ?_
        rintro e w7 ⟨col7, rfl, ht7, hs7⟩
        have L7 := Lib.hid (L6.out.next ht7 hs7)
        have LA7 := Lib.hid (LA6.out.keep ht7 (by omega))
        have O7 := Lib.hid (O6.out.keep ht7 (by omega))
        clear ht7 hs7 L6 LA6 O6 HW
        refine hK.out _ _ ((by have h := O7.out; exact ⟨h.blk.cell 1, h.blk.cell 2⟩)) ?_
        clear hK K
        try simp only [Act.put, List.setIfInBounds_toArray, List.set_cons_zero, List.set_cons_succ]
        refine mix_still ?_
        iterate 1 (refine still_take (v := ?_) (by kernel_rfl) ?_ (fun K hK => ?_); rotate_left; (· (go_simp; with_reducible rfl)); simp only [Act.put, List.setIfInBounds_toArray, List.set_cons_zero, List.set_cons_succ]; refine hK _ ?_; clear hK K)
        refine still_end ?_
        go_upto_if 52 with fail
        go_cut [] (fun wx => ∃ (S8 : SS) (col8 : Col), Liv w1 wx col8 w1.heap.size 16 p S8 ∧ S8.d.N = 128 ∧ S8.cnt ≤ j + 1 ∧ LastAt wx col8 w1.heap.size gl 128 S8.chg ∧ Bk wx col8 0 0 go 32 #[.int .i64 x, .int .i64 b, .int .i64 f])
        case first =>
          cases hh : S.has b with
          | false =>
            obtain rfl := HE0.out hh
            obtain rfl := HCN.out hh
            go_wp2_with fail
            go_meet
            exact ⟨S7, col7, L7.out, hN7, hc7, LA7.out, O7.out⟩
          | true =>
            obtain rfl := HE1.out hh
            obtain rfl := HCS.out hh
            have hb2 : 0 ≤ b ∧ b < 128 := by have : 0 ≤ b ∧ b < (S.d.N : Int) := of_decide_eq_true hh; omega
            obtain ⟨kb, rfl⟩ := Int.eq_ofNat_of_zero_le hb2.1
            have hkb : (kb : Int) < 128 := hb2.2
            have hkb0 : (0 : Int) ≤ (kb : Int) := hb2.1
            have htn : ((kb : Int)).toNat = kb := by omega
            go_upto_region 12 with fail
            have LD := Lib.hid (L7.out.below (below_drewN (Below.refl _ _) 1))
            have LAD := Lib.hid (LA7.out.keep (lo := 16) (hi := 16) ((Tch.refl 16 16 col7 w7).drew) (by omega))
            have OD := Lib.hid (O7.out.keep (lo := 16) (hi := 16) ((Tch.refl 16 16 col7 w7).drew) (by omega))
            rw [show w7.drewN 1 = w7.drew from rfl] at LD
            refine region_mix [true, true, true, true, true, false, true, false] (S := fun w' => w'.cell? ⟨go, 1, none⟩ = some (.int .i64 kb) ∧ w'.cell? ⟨go, 2, none⟩ = some (.int .i64 f)) (by kernel_rfl) (by kernel_rfl) (fun _ _ d _ _ h => by cases d <;> exact h) (hlen0 _ _ OD.out) ?_
            iterate 5 (refine mix_take (v := ?_) (by kernel_rfl) ?_ (fun K hK => ?_); rotate_left; (· (intro w' hSw; (try dsimp only at hSw); go_simp; with_reducible rfl)); simp only [Act.put, List.setIfInBounds_toArray, List.set_cons_zero, List.set_cons_succ]; refine hK _ ?_; clear hK K)
            refine mix_do (E := False) (fun K hK => ?_) (by kernel_rfl)
            go_simp
            refine (filled_all f w7.drew col7 LD.out.tidy).mono ?_
            rintro e w8 ⟨g8, rfl, hb8, hy8, hr8, hc8, hg8⟩
            have L8 := Lib.hid (LD.out.below hb8)
            have LA8 := Lib.hid (LAD.out.keep (lo := 16) (hi := 16) (Tch.of_below hb8) (by omega))
            have O8 := Lib.hid (OD.out.keep (lo := 16) (hi := 16) (Tch.of_below hb8) (by omega))
            have R8 := Lib.hid (show OptO w8 col7 w1.heap.size (.slice (some ⟨g8, 0, none⟩) 256 256) (some (fillB f)) from ⟨own_mono hr8.own LD.out.b, hr8.c⟩)
            clear hb8 hy8 hr8 LD LAD OD
            refine hK.out _ _ ((hlen0 _ _ O8.out)) ?_
            clear hK K
            try simp only [Act.put, List.setIfInBounds_toArray, List.set_cons_zero, List.set_cons_succ]
            obtain ⟨v0, hv0, _, hz0⟩ := LA8.out.at_ (k := kb) (by omega)
            iterate 1 (refine mix_take (v := ?_) (by kernel_rfl) ?_ (fun K hK => ?_); rotate_left; (· (intro w' hSw; (try dsimp only at hSw); go_simp; with_reducible rfl)); simp only [Act.put, List.setIfInBounds_toArray, List.set_cons_zero, List.set_cons_succ]; refine hK _ ?_; clear hK K)
            refine mix_do (E := False) (fun K hK => ?_) (by kernel_rfl)
            go_simp
            obtain ⟨hla9, ht9⟩ := LA8.out.put (k := kb) R8.out LA8.out.c
            have LA9 := Lib.hid hla9
            have L9 := Lib.hid (L8.out.own ht9 (by omega) (by omega))
            have O9 := Lib.hid (O8.out.keep ht9 (by omega))
            clear hla9 ht9
            refine hK.out _ _ ((hlen0 _ _ O9.out)) ?_
            clear hK K
            try simp only [Act.put, List.setIfInBounds_toArray, List.set_cons_zero, List.set_cons_succ]
            refine mix_end ?_
            go_wp2_with fail
            go_meet
            exact ⟨S.write kb (fillB f), col7, L9.out, hN7, hc7, LA9.out.ext (fun i _ => by rw [(write_parts S kb (fillB f)).2.1]), O9.out⟩
        case rest =>
          obtain ⟨S8, col8, l8, hN8, hc8, la8, ob8⟩ := hcut
          have L8 := Lib.hid l8
          have LA8 := Lib.hid la8
          have O8 := Lib.hid ob8
          clear l8 la8 ob8
          have z0 : wc.cell? ⟨go, 0, none⟩ = some (.int .i64 x) := O8.out.blk.cell 0
          obtain ⟨y, hy⟩ : ∃ y, bits .and .i64 x 7 = y := ⟨_, rfl⟩
          by_cases hy1 : y = 1
          · subst hy1
            have hyb : ((1 : Int) != 1) = false := by decide
            have HC := Lib.hid (scommit_any wc col8 w1.heap.size 16 p S8 L8.out.s)
            have HP := Lib.hid (commit_parts S8)
            rw [hN8] at HC
            obtain ⟨S9, hS9⟩ : ∃ S9, S8.commit = S9 := ⟨_, rfl⟩
            rw [hS9] at HC HP
            have hN9 : S9.d.N = 128 := by rw [HP.out.1]; exact hN8
            have hc9 : S9.cnt ≤ j + 1 := by have := HP.out.2.2.1; omega
            obtain ⟨fc, hfc⟩ : ∃ fc, S8.chg = fc := ⟨_, rfl⟩
            rw [hfc] at HC LA8
            clear hS9 hfc
            unfold ptr at HC
            go_wp2_with (simp only [hy, hyb])
            refine HC.out.mono ?_
            rintro e w9 ⟨v9, col9, rfl, ht9, hs9, ho9⟩
            have L9 := Lib.hid (L8.out.next ht9 hs9)
            have LA9 := Lib.hid (LA8.out.keep ht9 (by omega))
            have W9 := Lib.hid ho9
            clear ht9 hs9 ho9 HC L8 LA8 O8 z0
            go_wp2_with fail
            go_loopw [12, 13] (fun aa nn wx => ∃ (m : Nat), nn = .int .i64 m ∧ m ≤ 128 ∧ aa = .int .i64 (cntTo fc m) ∧ ∃ (col : Col), Liv w1 wx col w1.heap.size 16 p S9 ∧ LastAt wx col w1.heap.size gl 128 (fun k => if k < (m : Int) then none else fc k) ∧ WrO wx col wc.heap.size v9 (wsOf 128 fc)) (fun _ nn _ => 128 - (intOf nn).toNat)
            case atStart => exact ⟨0, rfl, by omega, rfl, col9, L9.out, LA9.out.ext (fun i _ => by rw [if_neg (by omega)]), W9.out⟩
            case round =>
              obtain ⟨m, rfl, hm, rfl, colm, hlm, hlam, hwm⟩ := hrel
              have LM := Lib.hid hlm
              have LAM := Lib.hid hlam
              have WM := Lib.hid hwm
              clear hlm hlam hwm
              by_cases hm2 : m < 128
              · have hmi : (m : Int) < 128 := by omega
                obtain ⟨vm, hvm, hom, hzm⟩ := LAM.out.at_ (k := m) hm2
                have hif : (if (m : Int) < (m : Int) then none else fc m) = fc m := if_neg (by omega)
                rw [hif] at hom
                cases hfm : fc m with
                | none =>
                  rw [hfm] at hom
                  obtain rfl : vm = .slice none 0 0 := hom
                  have hcm := cntTo_none hfm
                  go_wp2_with fail
                  go_roundw
                  case rel => exact ⟨m + 1, by go_num, by omega, by rw [hcm], colm, LM.out, LAM.out.ext (fun i _ => by
                    by_cases h1 : (i : Int) < (m : Int)
                    · rw [if_pos h1, if_pos (by omega)]
                    · rw [if_neg h1]
                      by_cases h2 : i = m
                      · subst h2; rw [if_pos (by omega)]; exact hfm
                      · rw [if_neg (by omega)]), WM.out⟩
                  case measure => simp [intOf]; omega
                | some bs =>
                  rw [hfm] at hom
                  have hrow : Row wr colm w1.heap.size 0 5 1 vm 256 (bvl bs) := hom
                  obtain ⟨gv, cv, _, rfl, hyv⟩ : ∃ gv cv cur, vm = .slice (some ⟨gv, 0, none⟩) 256 cv ∧ BytesAt wr (some ⟨gv, 0, none⟩) 256 bs := by
                    obtain ⟨gv, cv, cur, rfl, _⟩ := own_form hrow.own (by omega)
                    exact ⟨gv, cv, cur, rfl, BytesAt.of_own hrow.own⟩
                  obtain ⟨AW, cw, hvw, hlw, hcw⟩ := WM.out.form
                  subst hvw
                  obtain ⟨gw, g2, c2, rfl, _, hk0, hk1, hr2⟩ := WM.out.at_ (wsOf_at hm2 hfm)
                  have hy2 := BytesAt.of_own hr2.own
                  have hlt := cntTo_lt hm2 (show (fc m).isSome = true by rw [hfm]; rfl)
                  rw [← wsOf_len] at hlt
                  have hcs := cntTo_some (show (fc m).isSome = true by rw [hfm]; rfl)
                  generalize hnl : (wsOf 128 fc).length = NL at *
                  generalize hac : cntTo fc m = ac at *
                  have hac1 : (ac : Int) < (NL : Int) := by omega
                  have hac2 : ¬ (NL : Int) ≤ (ac : Int) := by omega
                  have hac3 : decide ((NL : Int) ≤ (ac : Int)) = false := by simpa using hac1
                  have hac4 : ((ac : Int)).toNat = ac := by omega
                  have hmn : ((m : Int)).toNat = m := by omega
                  have hmm : ((m : Int) != (m : Int)) = false := by simp
                  have HY2 := Lib.hid hy2
                  have HYV := Lib.hid hyv
                  clear hrow hr2 hyv hy2
                  go_upto_region 20 with fail
                  refine region_mix [true, true, true, true, true, true, true, true, true, true, true, true, true, true, true, true, true, true, true, true, true, true, true, false] (S := fun w' => w'.cell? ⟨gw, ac * 2, none⟩ = some (.int .i64 m) ∧ w'.cell? ⟨gw, ac * 2 + 1, none⟩ = some (.slice (some ⟨g2, 0, none⟩) 256 c2) ∧ w'.cell? ⟨gl, m, none⟩ = some (.slice (some ⟨gv, 0, none⟩) 256 cv)) (by kernel_rfl) (by kernel_rfl) (fun _ _ d _ _ h => by cases d <;> exact h) ⟨hk0, hk1, hvm⟩ ?_
                  iterate 23 (refine mix_take (v := ?_) (by kernel_rfl) ?_ (fun K hK => ?_); rotate_left; (· (intro w' hSw; (try dsimp only at hSw); go_simp; with_reducible rfl)); simp only [Act.put, List.setIfInBounds_toArray, List.set_cons_zero, List.set_cons_succ]; refine hK _ ?_; clear hK K)
                  refine mix_do (E := False) (fun K hK => ?_) (by kernel_rfl)
                  go_simp
                  refine (same_any (some ⟨g2, 0, none⟩) (some ⟨gv, 0, none⟩) 256 256 c2 cv bs bs _ (by omega) (HY2.out.drewN 1) (HYV.out.drewN 1)).mono ?_
                  rintro e wd ⟨rfl, kd, rfl⟩
                  rw [show (bs == bs) = true by simp]
                  refine hK.out _ _ (⟨hk0, hk1, hvm⟩) ?_
                  clear hK K
                  try simp only [Act.put, List.setIfInBounds_toArray, List.set_cons_zero, List.set_cons_succ]
                  refine mix_still ?_
                  iterate 2 (refine still_take (v := ?_) (by kernel_rfl) ?_ (fun K hK => ?_); rotate_left; (· (go_simp; with_reducible rfl)); simp only [Act.put, List.setIfInBounds_toArray, List.set_cons_zero, List.set_cons_succ]; refine hK _ ?_; clear hK K)
                  refine still_end ?_
                  obtain ⟨wd, hwd⟩ : ∃ wd, (wr.drewN 1).drewN kd = wd := ⟨_, rfl⟩
                  have td : Tch 16 16 colm colm wr wd := by rw [← hwd]; exact ((Tch.refl _ _ _ _).drewN 1).drewN kd
                  have LN := Lib.hid (LM.out.same td)
                  have LAN := Lib.hid (LAM.out.keep td (by omega))
                  have WN := Lib.hid (WM.out.keep td (by omega))
                  rw [hwd]
                  clear td hwd LM LAM WM hk0 hk1 hvm HY2 HYV
                  obtain ⟨vd, hvd, _, hzd⟩ := LAN.out.at_ (k := m) hm2
                  obtain ⟨lae, te⟩ := LAN.out.put (k := m) (v := .slice none 0 0) (o := none) rfl LAN.out.c
                  have LAE := Lib.hid lae
                  have LE := Lib.hid (LN.out.own te (by omega) (by omega))
                  have WE := Lib.hid (WN.out.keep2 te)
                  clear lae te
                  go_wp2_with fail
                  go_roundw
                  case rel => exact ⟨m + 1, by go_num, by omega, by go_num, colm, LE.out, LAE.out.ext (fun i _ => by
                    by_cases h1 : (i : Int) < (m : Int)
                    · rw [if_neg (by omega), if_pos h1, if_pos (by omega)]
                    · by_cases h2 : i = m
                      · subst h2; rw [if_pos rfl, if_pos (by omega)]
                      · rw [if_neg (by omega), if_neg h1, if_neg (by omega)]), WE.out⟩
                  case measure => simp [intOf]; omega
              · obtain rfl : m = 128 := by omega
                obtain ⟨AW, cw, hvw, hlw, hcw⟩ := WM.out.form
                subst hvw
                have hnl : (wsOf 128 fc).length = cntTo fc 128 := by rw [wsOf_len]; rfl
                rw [hnl]
                generalize cntTo fc 128 = ac at *
                have HCH := Lib.hid (schanged_all wr colm w1.heap.size 16 p S9 LM.out.s)
                have hch : S9.changed = [] := by rw [SS.changed, HP.out.2.1]; exact List.filter_eq_nil_iff.2 (fun x _ => by simp)
                rw [show SChanged wr colm w1.heap.size 16 p S9 = fun e w' => ∃ v, e = .returned v ∧ Tch 16 16 colm colm wr w' ∧ StoreAt w' colm w1.heap.size 16 p S9 ∧ Row w' colm wr.heap.size 0 3 1 v 0 (ints []) from by funext e w'; rw [SChanged, hch]; rfl] at HCH
                unfold ptr at HCH
                have hzz : ((ac : Int) != (ac : Int)) = false := by simp
                go_wp2_with fail
                refine HCH.out.mono ?_
                rintro e wx ⟨vx, rfl, htx, hsx, hrx⟩
                obtain ⟨Ax, cx, rfl, _⟩ := row_len hrx
                have LX := Lib.hid (LM.out.same htx)
                have LAX := Lib.hid (LAM.out.keep htx (by omega))
                have HMK := Lib.hid (smark_all wx colm w1.heap.size 16 p S9 hsx)
                rw [HP.out.2.2.2] at HMK
                clear htx hsx hrx HCH
                unfold ptr at HMK
                go_wp2_with fail
                refine HMK.out.mono ?_
                rintro e w' ⟨rfl, rfl⟩
                go_wp2_with fail
                go_roundw
                case rel => exact ⟨j + 1, S9, colm, by go_num, by omega, by omega, LX.out, hN9, hc9, LAX.out.ext (fun i _ => by rw [HP.out.2.1, if_pos (by omega)])⟩
                case measure => simp [intOf]; omega
          · have hyb : (y != 1) = true := by simp [hy1]
            go_wp2_with (simp only [hy, hyb])
            go_roundw
            case rel => exact ⟨j + 1, S8, col8, by go_num, by omega, by omega, L8.out, hN8, hc8, LA8.out⟩
            case measure => simp [intOf]; omega
      · obtain rfl : j = 300 := by omega
        have i1 : (300 : Int) < (len : Int) := by omega
        go_wp2_with fail
        go_ret
        exact ⟨rfl, below_all B1.out B1.out.size LV.out.end⟩
    · obtain rfl : j = len := by omega
      go_wp2_with fail
      go_ret
      exact ⟨rfl, below_all B1.out B1.out.size LV.out.end⟩
theorem storeCommits_walk (w : World) (a0 : Option Addr) (len0 cap0 : Nat) (gs0 : List Op3) (ro0 : RowAt w a0 (len0 * 3) (ocells gs0)) (lc0 : len0 ≤ cap0) (ml0 : cap0 ≤ maxLen) (ha0 : a0 = none → len0 = 0 ∧ cap0 = 0) (hl0 : gs0.length = len0) (ok0 : ∀ g ∈ gs0, OpOk g) :
    Calls Try.prog 4 #[.slice a0 len0 cap0] w fun e w' => e = .returned (.bool true) ∧ Below w.heap.size w w' := storeCommits_run w a0 len0 cap0 gs0 ro0 lc0 ml0 ha0 hl0
end Go.Proofs.Ytomoliickggghaa.Mem

namespace Go.Proofs.Ytomoliickggghaa.storeCommits
open Go.ChangeShapes Go.WideShapes Go.ChangeAt Go.RowKit Go.Joins
set_option linter.unusedVariables false
set_option linter.unusedSimpArgs false

open Go.Proofs.Ytomoliickggghaa.Mem
theorem own : ownKnob Try.prog.godebug = none := by kernel_rfl
theorem laidOut : laidOutB Try.prog = true := by kernel_rfl

set_option maxRecDepth 100000 in
theorem lifted (os : Os) (started : os.Started) (H : Type) (enc : TypeId × Value → H) :
    ReturnsInHanded {} Try.checked os 4 .any (Rows.storeCommitsSpec.pre6 enc Try.prog Try.f4 Rows.storeCommitsRow.domain false) (Rows.storeCommitsSpec.post enc Try.prog Try.f4 false true false false) := by
  refine returnsInHanded_of_change (C := Try.checked) own started (by kernel_rfl) Try.func4
    (ChangeSpec.witness6 (enc := enc) (C := Try.checked) false ⟨#[], #[.slice none 0 0], []⟩ 8 (by kernel_rfl) (by kernel_rfl) (by kernel_rfl) (by kernel_rfl)) ?_
  intro W base args ds gs before hval0 hW hcnd _
  have hval : ∀ (j : Nat) t v, Try.f4.params[j]? = some t → args[j]? = some v → Value.okWide Try.prog W .any base t v := hval0
  have hW' := hW
  obtain ⟨p, q, hA0, hV, rfl, hfz, hnd⟩ := hW
  have hA : DataW.TrodAll enc Try.prog W 0 (fun _ => true) true Try.f4.params.toList args.toList ds p := hA0
  rw [Try.params4] at hA hval
  obtain ⟨v0, vs0, d0, ds0, p0, q0, hargs, rfl, rfl, h0, r0⟩ := trodAll_cons hA
  obtain ⟨rfl, rfl, rfl⟩ := trodAll_nil r0
  obtain rfl : args = #[v0] := by cases args; simp_all
  obtain ⟨rfl, rfl⟩ := trodVars_none hV
  have k0 := h0
  have lt0 : ∀ x ∈ p0, x.block < W.heap.size := by obtain ⟨m, hm⟩ := k0; exact DataW.trod_lt m _ _ _ hm
  obtain ⟨a0, len0, cap0, gs0, rfl, ro0, lc0, ml0, ha0, hl0, ok0⟩ := open_ops (hval 0 22 v0 rfl rfl) h0
  clear hA0 hval0
  refine (storeCommits_walk W a0 len0 cap0 gs0 ro0 lc0 ml0 ha0 hl0 ok0).mono fun e W' ⟨he, bel⟩ => ?_
  subst he
  exact ⟨_, rfl, _, _, _, [], _, [], hW', trodAll_mk1 (shut_bool Try.underlying4 _), (trodAll_cons_mk (Below.trod laidOut (by kernel_rfl) (of_decide_eq_true (by kernel_rfl)) k0 bel lt0) trodAll_mk0), rfl, bel.frame _, fun h => by cases h⟩

theorem over : Rows.storeCommitsRow.holds Try.pinned (OpenSpec.ofChange Rows.storeCommitsSpec) :=
  OpenClaim.holds_of_wide 4 Try.f4 rfl rfl rfl rfl rfl rfl rfl ⟨rfl, rfl, rfl, rfl, rfl⟩ rfl rfl rfl rfl rfl (by kernel_rfl) Try.func4 (by kernel_rfl)
    (of_decide_eq_true (by kernel_rfl)) (by unfold Func.isWrapper; first | (rw [if_pos (by decide +kernel)]; kernel_rfl) | (rw [if_neg (by decide +kernel)]; exact ⟨rfl, rfl⟩))
    (fun os started H enc _ => lifted os started H enc)

theorem proved : Rows.StoreCommitsSaid := over
#print axioms proved
end Go.Proofs.Ytomoliickggghaa.storeCommits
