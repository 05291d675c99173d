
/-
  THE ROW of hayricklaw06.StoreBack: for every input the law returns true, and its arguments read as they did. No condition.
-/
import Derived.Test.YtomoliickggghaaKR6N8
import Derived.Test.YtomoliickggghaaKR6N7
import Derived.Deep.DeepCutAuto
import Derived.Deep.CutBlock
import Derived.Test.YtomoliickggghaaRows
import Derived.ProofKit
import Derived.OpenShut
import Derived.ShutString
import Derived.ChangeOld
import Derived.SizedLaws
import Derived.Lib.SmallJoins
namespace Go.Proofs.Ytomoliickggghaa.Mem
open Go.RowKit Go.Proofs.Ytomoliickggghaa Go.Proofs.Ytomoliickggghaa.Wire
set_option maxHeartbeats 16000000
set_option maxRecDepth 100000
set_option linter.unusedVariables false
set_option linter.unusedSimpArgs false

theorem storeBack_run (w : World) (A : Option Addr) (len cap : Nat) (gs : List Op3) (ro : RowAt w A (len * 3) (ocells gs)) (lc : len ≤ cap) (ml : cap ≤ maxLen) (hl : gs.length = len)
    (A' : Option Addr) (len' cap' : Nat) (gs' : List Op3) (ro' : RowAt w A' (len' * 3) (ocells gs')) (lc' : len' ≤ cap') (ml' : cap' ≤ maxLen) (hl' : gs'.length = len') :
    Calls Try.prog 3 #[.slice A len cap, .slice A' len' cap'] w fun e w' => e = .returned (.bool true) ∧ Below w.heap.size w w' := by
  have HA := Lib.hid (awake_any w)
  have RO := Lib.hid ro
  have RO' := Lib.hid ro'
  have hml : cap ≤ 9223372036854775807 := by unfold maxLen at ml; omega
  have hml' : cap' ≤ 9223372036854775807 := by unfold maxLen at ml'; omega
  clear ro ml ro' ml'
  go_enter Try.func3, Try.ntmps3
  go_wp2_with fail
  refine HA.out.mono ?_
  rintro e w1 ⟨rfl, hb1⟩
  have B1 := Lib.hid hb1
  have HD := Lib.hid (dnew_any w1 (fun _ => 0) w1.heap.size 24 2 300 128 (by omega) (by omega) (Nat.le_refl _) (by omega) (by omega) (by omega))
  rw [show ((128 : Nat) : Int) = 128 from rfl] at HD
  clear HA hb1
  go_wp2_with fail
  refine HD.out.mono ?_
  rintro e w2 ⟨q, col2, rfl, ht2, hd2, _⟩
  have T2 := Lib.hid ht2
  have HS := Lib.hid (snew_all w2 col2 w1.heap.size 16 q 4 8 _ hd2 (by omega) ht2.size (ht2.tidy (fun _ _ => rfl)) (by omega) (by omega) (by omega) (by omega))
  rw [show ((4 : Nat) : Int) = 4 from rfl, show ((8 : Nat) : Int) = 8 from rfl] at HS
  clear HD ht2 hd2
  unfold ptr at HS ⊢
  go_wp2_with fail
  refine HS.out.mono ?_
  rintro e w3 ⟨p, col3, rfl, ht3, hs3, _⟩
  obtain ⟨S0, hS0⟩ : ∃ S0, SS.fresh (DS.fresh 128 q) 4 8 = S0 := ⟨_, rfl⟩
  have hc0 : S0.chg = fun _ => none := by rw [← hS0]; rfl
  have hn0 : S0.d.N = 128 := by rw [← hS0]; rfl
  have hf0 : S0.cnt = 0 := by rw [← hS0]; rfl
  have hp0 : S0.d.pend.length + S0.d.ops = 0 := by rw [← hS0]; rfl
  have hi0 : CI S0 := by rw [← hS0]; exact CI.fresh _ _ (by omega)
  rw [hS0] at hs3
  have L3 := Lib.hid (show Liv w1 w3 col3 w1.heap.size 16 p S0 from ⟨T2.out.trans (ht3.mono (by omega) (by omega)), hs3, Nat.le_trans T2.out.size ht3.size, by omega, rfl⟩)
  clear T2 HS ht3 hs3 hS0
  unfold ptr
  go_upto_block 0 with fail
  go_cut [10, 11] (fun _ _ wx => ∃ (S : SS) (col : Col), Liv w1 wx col w1.heap.size 16 p S ∧ S.d.N = 128 ∧ S.cnt ≤ 300 ∧ CI S)
  case first =>
    go_wp2_with fail
    go_loopw [10, 11] (fun ii _ wr => ∃ (j : Nat) (S : SS) (col : Col), ii = .int .i64 j ∧ j ≤ len ∧ j ≤ 300 ∧ Liv w1 wr col w1.heap.size 16 p S ∧ S.d.N = 128 ∧ S.cnt ≤ j ∧ CI S ∧ S.d.pend.length + S.d.ops ≤ 2 * j) (fun ii _ _ => 300 - (intOf ii).toNat)
    case atStart => exact ⟨0, S0, col3, rfl, by omega, by omega, L3.out, hn0, by omega, hi0, by omega⟩
    case round =>
      obtain ⟨j, S, col, rfl, hj, hj2, hL, hN, hcnt, hci, hpo⟩ := hrel
      have LV := Lib.hid hL
      have CIS := Lib.hid hci
      clear hL hci
      by_cases hlt : j < len ∧ j < 300
      · obtain ⟨hlt, hlt2⟩ := hlt
        have RR := Lib.hid (LV.out.old (RO.out.below B1.out))
        obtain ⟨a, x, b, f, hAe, hgk, k0, k1, k2⟩ := op3_at RR.out hl hlt
        subst hAe
        have i1 : (j : Int) < (len : Int) := by omega
        have i2 : (j : Int) < 300 := by omega
        obtain ⟨wo, hwo⟩ : ∃ wo, wr.alloc (.cells #[.int .i64 x, .int .i64 b, .int .i64 f] 32) = wo := ⟨_, rfl⟩
        obtain ⟨go, hgo⟩ : ∃ go, wr.heap.size = go := ⟨_, rfl⟩
        have BO := Lib.hid (show Below wr.heap.size wr wo from hwo ▸ (Below.refl wr.heap.size wr).alloc (Nat.le_refl _) _)
        have LVO := Lib.hid (LV.out.below BO.out)
        have OB := Lib.hid (show Bk wo col 0 0 go 32 #[.int .i64 x, .int .i64 b, .int .i64 f] from ⟨by rw [← hwo, ← hgo]; exact Blk.new _ _ _, by rw [← hgo]; exact LV.out.tidy _ (Nat.le_refl _), Nat.zero_le _⟩)
        have z0 : wo.cell? ⟨go, 0, none⟩ = some (.int .i64 x) := OB.out.blk.cell 0
        have z1 : wo.cell? ⟨go, 1, none⟩ = some (.int .i64 b) := OB.out.blk.cell 1
        have z2 : wo.cell? ⟨go, 2, none⟩ = some (.int .i64 f) := OB.out.blk.cell 2
        have HWO := Lib.hid hwo
        have HGO := Lib.hid hgo
        clear hwo hgo RR LV BO hgk 
        obtain ⟨y, hy⟩ : ∃ y, bits .and .i64 x 7 = y := ⟨_, rfl⟩
        by_cases h03 : y = 0 ∨ y = 1 ∨ y = 2 ∨ y = 3
        · rcases h03 with rfl | rfl | rfl | rfl
          all_goals
            go_wp2_with (first | rw [HGO.out, HWO.out] | simp only [hy] | fail)
            have LD := Lib.hid (LVO.out.below (below_drewN (Below.refl _ _) 1))
            rw [show wo.drewN 1 = wo.drew from rfl] at LD
            have OD := Lib.hid (OB.out.keep (lo := 16) (hi := 16) ((Tch.refl 16 16 col wo).drew) (by omega))
            have hlen0 : ∀ (cx : Col) (wx : World), Bk wx cx 0 0 go 32 #[.int .i64 x, .int .i64 b, .int .i64 f] → wx.cell? ⟨go, 1, none⟩ = some (.int .i64 b) ∧ wx.cell? ⟨go, 2, none⟩ = some (.int .i64 f) := fun cx wx h => ⟨h.blk.cell 1, h.blk.cell 2⟩
            refine region_mix [true, true, true, true, true, false, false] (S := fun w' => w'.cell? ⟨go, 1, none⟩ = some (.int .i64 b) ∧ w'.cell? ⟨go, 2, none⟩ = some (.int .i64 f)) (by kernel_rfl) (by kernel_rfl) (fun _ _ d _ _ h => by cases d <;> exact h) (hlen0 _ _ OD.out) ?_
            iterate 5 (refine mix_take (v := ?_) (by kernel_rfl) ?_ (fun K hK => ?_); rotate_left; (· (intro w' hSw; (try dsimp only at hSw); go_simp; with_reducible rfl)); simp only [Act.put, List.setIfInBounds_toArray, List.set_cons_zero, List.set_cons_succ]; refine hK _ ?_; clear hK K)
            refine mix_do (E := False) (fun K hK => ?_) (by kernel_rfl)
            go_simp
            refine (filled_all f wo.drew col LD.out.tidy).mono ?_
            rintro e w6 ⟨g6, rfl, hb6, hy6, hr6, hc6, hg6⟩
            have L6 := Lib.hid (LD.out.below hb6)
            have O6 := Lib.hid (OD.out.keep (lo := 16) (hi := 16) (Tch.of_below hb6) (by omega))
            have HW := Lib.hid (swrite_all w6 col w1.heap.size 16 p g6 256 S b (fillB f) L6.out.s L6.out.b (by have := hcnt; unfold SS.cnt at this; omega) hy6 (by omega))
            have hp := writeS_parts S b (fillB f)
            clear hb6 hy6 hr6 LD OD LVO OB
            unfold ptr at HW
            refine hK.out _ _ ((hlen0 _ _ O6.out)) ?_
            clear hK K
            try simp only [Act.put, List.setIfInBounds_toArray, List.set_cons_zero, List.set_cons_succ]
            refine mix_do (E := False) (fun K hK => ?_) (by kernel_rfl)
            go_simp
            refine HW.out.mono ?_
            rintro e w7 ⟨col7, rfl, ht7, hs7⟩
            have L7 := Lib.hid (L6.out.next ht7 hs7)
            have O7 := Lib.hid (O6.out.keep ht7 (by omega))
            clear ht7 hs7 L6 O6 HW
            refine hK.out _ _ ((hlen0 _ _ O7.out)) ?_
            clear hK K
            try simp only [Act.put, List.setIfInBounds_toArray, List.set_cons_zero, List.set_cons_succ]
            refine mix_end ?_
            go_wp2_with fail
            go_roundw
            case rel => exact ⟨j + 1, _, col7, by go_num, by omega, by omega, L7.out, by rw [hp.1]; exact hN, by omega, CIS.out.writeS _ _, by rw [hp.1]; omega⟩
            case measure => simp [intOf]; omega
        · by_cases h4 : y = 4
          · subst h4
            have HW := Lib.hid (shold_all wo col w1.heap.size 16 p S b LVO.out.s LVO.out.b (by have := hcnt; unfold SS.cnt at this; omega))
            unfold ptr at HW
            have hp := holdS_parts S b
            go_wp2_with (first | rw [HGO.out, HWO.out] | simp only [hy] | fail)
            refine HW.out.mono ?_
            rintro e w7 ⟨col7, rfl, ht7, hs7⟩
            have L7 := Lib.hid (LVO.out.next ht7 hs7)
            clear ht7 hs7 HW LVO
            go_wp2_with fail
            go_roundw
            case rel => first | exact ⟨j + 1, _, col7, by go_num, by omega, by omega, L7.out, by rw [hp.1]; exact hN, by omega, CIS.out.holdS _, by rw [hp.1]; omega⟩ | ((repeat apply Exists.intro); refine ⟨?_, rfl⟩; exact ⟨j + 1, _, col7, by go_num, by omega, by omega, L7.out, by rw [hp.1]; exact hN, by omega, CIS.out.holdS _, by rw [hp.1]; omega⟩)
            case measure => simp [intOf]; omega
          · by_cases h5 : y = 5
            · subst h5
              have HW := Lib.hid (scommit_any wo col w1.heap.size 16 p S LVO.out.s)
              unfold ptr at HW
              have hp := commit_parts S
              go_wp2_with (first | rw [HGO.out, HWO.out] | simp only [hy] | fail)
              refine HW.out.mono ?_
              rintro e w7 ⟨v7, col7, rfl, ht7, hs7, _⟩
              have L7 := Lib.hid (LVO.out.next ht7 hs7)
              clear ht7 hs7 HW LVO
              go_wp2_with fail
              go_roundw
              case rel => first | exact ⟨j + 1, _, col7, by go_num, by omega, by omega, L7.out, by rw [hp.1]; exact hN, by omega, CIS.out.commit, by rw [hp.1]; omega⟩ | ((repeat apply Exists.intro); refine ⟨?_, rfl⟩; exact ⟨j + 1, _, col7, by go_num, by omega, by omega, L7.out, by rw [hp.1]; exact hN, by omega, CIS.out.commit, by rw [hp.1]; omega⟩)
              case measure => simp [intOf]; omega
            · by_cases h6 : y = 6
              · subst h6
                have HW := Lib.hid (shome_all wo col w1.heap.size 16 p S b LVO.out.s LVO.out.b (by omega))
                unfold ptr at HW
                have hp := home_parts S b
                go_wp2_with (first | rw [HGO.out, HWO.out] | simp only [hy] | fail)
                refine HW.out.mono ?_
                rintro e w7 ⟨col7, rfl, ht7, hs7⟩
                have L7 := Lib.hid (LVO.out.next ht7 hs7)
                clear ht7 hs7 HW LVO
                go_wp2_with fail
                go_roundw
                case rel => first | exact ⟨j + 1, _, col7, by go_num, by omega, by omega, L7.out, by rw [hp.1]; exact hN, by omega, CIS.out.home _, by omega⟩ | ((repeat apply Exists.intro); refine ⟨?_, rfl⟩; exact ⟨j + 1, _, col7, by go_num, by omega, by omega, L7.out, by rw [hp.1]; exact hN, by omega, CIS.out.home _, by omega⟩)
                case measure => simp [intOf]; omega
              · have e0 : (y == 0) = false := by simp; omega
                have e1 : (y == 1) = false := by simp; omega
                have e2 : (y == 2) = false := by simp; omega
                have e3 : (y == 3) = false := by simp; omega
                have e4 : (y == 4) = false := by simp; omega
                have e5 : (y == 5) = false := by simp; omega
                have e6 : (y == 6) = false := by simp; omega
                have HW := Lib.hid (sread_all wo col w1.heap.size 16 p S b LVO.out.s LVO.out.b (by have := hcnt; unfold SS.cnt at this; omega))
                unfold ptr at HW
                have hp := read_parts S b
                go_wp2_with (first | rw [HGO.out, HWO.out] | simp only [hy] | fail)
                refine HW.out.mono ?_
                rintro e w7 ⟨v7, col7, rfl, ht7, hs7, _⟩
                have L7 := Lib.hid (LVO.out.next ht7 hs7)
                clear ht7 hs7 HW LVO
                go_wp2_with fail
                go_roundw
                case rel => first | exact ⟨j + 1, _, col7, by go_num, by omega, by omega, L7.out, by rw [hp.1]; exact hN, by omega, CIS.out.readS _, by rw [hp.1]; omega⟩ | ((repeat apply Exists.intro); refine ⟨?_, rfl⟩; exact ⟨j + 1, _, col7, by go_num, by omega, by omega, L7.out, by rw [hp.1]; exact hN, by omega, CIS.out.readS _, by rw [hp.1]; omega⟩)
                case measure => simp [intOf]; omega
      · have hcase : (j = 300 ∧ (j : Int) < (len : Int)) ∨ j = len := by omega
        rcases hcase with ⟨rfl, i1⟩ | rfl
        all_goals
          go_wp2_with fail
          go_meet
          exact ⟨S, col, LV.out, hN, by omega, CIS.out⟩
  case rest =>
    obtain ⟨S, col, hL, hN, hcnt, hci⟩ := hcut
    have L4 := Lib.hid hL
    have CIM := Lib.hid hci
    have HM := Lib.hid (smark_all wc col w1.heap.size 16 p S L4.out.s)
    have HC := Lib.hid (schanged_all wc col w1.heap.size 16 p S L4.out.s)
    clear hL hci L3
    unfold ptr at HM HC
    go_wp2_with fail
    refine HM.out.mono ?_
    rintro e w' ⟨rfl, rfl⟩
    go_wp2_with fail
    refine HC.out.mono ?_
    rintro e w5 ⟨v13, rfl, ht5, hs5, hr5⟩
    have L5 := Lib.hid (L4.out.same ht5)
    have R5 := Lib.hid (show Row w5 col w1.heap.size 0 3 1 v13 S.changed.length (ints S.changed) from ⟨own_mono hr5.own L4.out.b, hr5.c⟩)
    clear ht5 hs5 hr5 HM HC L4
    obtain ⟨SM, hSM⟩ : ∃ SM, S = SM := ⟨_, rfl⟩
    have HHM := Lib.hid (show ∀ k : Nat, k < 128 → SM.has k = true from fun k hk => by
      have hh : SM.d.N = 128 := by rw [← hSM]; exact hN
      unfold SS.has; rw [hh]; exact decide_eq_true (by omega))
    have HCM := Lib.hid (show SM.changed.length ≤ 128 from by
      have hh : SM.d.N = 128 := by rw [← hSM]; exact hN
      have := keysOf_len SM.d.N SM.chg
      unfold SS.changed; omega)
    rw [hSM] at R5 L5 CIM hcnt ⊢
    have HDM := Lib.hid (show SM.d.N = 128 by rw [← hSM]; exact hN)
    clear hSM hN
    go_wp2_with fail
    go_loopw [14, 15, 16, 17, 18] (fun bb hh nn _ _ wr => ∃ (n : Nat) (S : SS) (col : Col) (vb vh : Value), nn = .int .i64 n ∧ vb = bb ∧ vh = hh ∧ n ≤ 128 ∧ Liv w1 wr col w1.heap.size 16 p S ∧ S.core = SM.core ∧ S.cnt ≤ 300 + n ∧ CI S ∧ Row wr col w1.heap.size 0 3 1 v13 SM.changed.length (ints SM.changed) ∧ LstAt wr col w1.heap.size bb n (fun i => SM.val i) ∧ Row wr col w1.heap.size 6 4 1 hh n (bools (fun i => SM.isHeld i) n)) (fun _ _ nn _ _ _ => 128 - (intOf nn).toNat)
    case atStart => exact ⟨0, SM, col, _, _, rfl, rfl, rfl, by omega, L5.out, rfl, by omega, CIM.out, R5.out, LstAt.nil _ _ _ _, Row.nil _ _ _ _ _ _⟩
    case round =>
      obtain ⟨n, S, col, vb, vh, rfl, rfl, rfl, hn, hL, hco, hcnt, hci, hR, hB, hH⟩ := hrel
      have LV := Lib.hid hL
      have CIS := Lib.hid hci
      have RC := Lib.hid hR
      have LB := Lib.hid hB
      have LH := Lib.hid hH
      have HCO := Lib.hid hco
      clear hL hci hR hB hH hco
      by_cases hlt : n < 128
      · have hni : (n : Int) < 128 := by omega
        have hcv := core_val HCO.out (n : Int)
        have HRD := Lib.hid (sread_all wr col w1.heap.size 16 p S n LV.out.s LV.out.b (by have := hcnt; unfold SS.cnt at this; omega))
        have hb1 : S.readB n = SM.val n := by rw [CIS.out.readB, if_pos (by rw [hcv.2.1]; exact HHM.out n hlt)]; exact hcv.1
        have hb2 : (SM.val n).length = 256 := by rw [← hcv.1, ← CIS.out.bytes]; exact LV.out.s.len n
        rw [hb1] at HRD
        obtain ⟨S7, hS7⟩ : ∃ S7, S.readS n = S7 := ⟨_, rfl⟩
        have hp := read_parts S n
        rw [hS7] at HRD hp
        have hcnt7 : S7.cnt ≤ 300 + (n + 1) := by omega
        have HCO7 := Lib.hid (show S7.core = SM.core by rw [← hS7, read_core]; exact HCO.out)
        have CI7 := Lib.hid (show CI S7 by rw [← hS7]; exact CIS.out.readS _)
        obtain ⟨er, her⟩ : ∃ er, S.readE n = er := ⟨_, rfl⟩
        rw [her] at HRD
        clear hS7 hb1 her hp CIS HCO hcv
        unfold ptr at HRD
        go_wp2_with fail
        refine HRD.out.mono ?_
        rintro e w7 ⟨v7, col7, rfl, ht7, hs7, hr7⟩
        rw [hb2] at hr7
        have L7 := Lib.hid (LV.out.next ht7 hs7)
        have RC7 := Lib.hid (RC.out.keep ht7 (by omega))
        have LB7 := Lib.hid (LB.out.keep ht7 (by omega))
        have LH7 := Lib.hid (LH.out.keep ht7 (by omega))
        have V7 := Lib.hid (show Row w7 col7 w1.heap.size 0 5 1 v7 256 (bvl (SM.val n)) from ⟨own_mono hr7.own LV.out.b, hr7.c⟩)
        obtain ⟨gv, cv, _, rfl, _⟩ := own_form hr7.own (by omega)
        clear ht7 hs7 hr7 HRD LV RC LB LH
        obtain ⟨vs, hvs, hvs2⟩ := LB7.out.ex
        have hvl : vs.length = n := by have := hvs.own.1; omega
        obtain ⟨w8, hw8⟩ : ∃ w8, w7.alloc (.cells #[.slice (some ⟨gv, 0, none⟩) 256 cv] 34) = w8 := ⟨_, rfl⟩
        have B8 := Lib.hid (show Below w7.heap.size w7 w8 from hw8 ▸ (Below.refl w7.heap.size w7).alloc (Nat.le_refl _) _)
        have R8 := Lib.hid (hvs.keep (lo := 16) (hi := 16) (Tch.of_below B8.out) (by omega))
        have VS8 := Lib.hid (show ∀ (i : Nat) (u : Value), vs[i]? = some u → Row w8 col7 w1.heap.size 0 5 1 u 256 (bvl (SM.val (i : Int))) from fun i u hu => (hvs2 i u hu).keep (lo := 16) (hi := 16) (Tch.of_below B8.out) (by omega))
        have V8 := Lib.hid (V7.out.keep (lo := 16) (hi := 16) (Tch.of_below B8.out) (by omega))
        have L8 := Lib.hid (L7.out.below B8.out)
        have RC8 := Lib.hid (RC7.out.keep (lo := 16) (hi := 16) (Tch.of_below B8.out) (by omega))
        have LH8 := Lib.hid (LH7.out.keep (lo := 16) (hi := 16) (Tch.of_below B8.out) (by omega))
        have XL := Lib.hid (show RowAt w8 (some ⟨w7.heap.size, 0, none⟩) (1 * 1) [.slice (some ⟨gv, 0, none⟩) 256 cv] by rw [← hw8]; exact lit_rowN w7 34 [.slice (some ⟨gv, 0, none⟩) 256 cv] (1 * 1) w7.heap.size rfl rfl)
        have HW8 := Lib.hid hw8
        clear hvs hvs2 hw8 B8 L7 RC7 LB7 LH7 V7
        go_upto_region 32 with (first
          | (at_builtin
             rw [HW8.out]
             refine app_row _ 44 34 (.slice none 0 0) 1 24 Try.underlying44 info_rows rfl (by decide) rfl (.tmp 104) (.tmp 106) rfl col7 w1.heap.size 5 5 6 vb n vs rfl R8.out ⟨by omega, by omega⟩ (some ⟨w7.heap.size, 0, none⟩) 1 1 [.slice (some ⟨gv, 0, none⟩) 256 cv] rfl (fun e => by cases e) XL.out (by intro u hu; simp at hu; subst hu; rfl) (by unfold maxLen; omega) (by omega) L8.out.b ?_
             intro v9 w9 col9 hrow9 ht9 _
             have L9 := Lib.hid (L8.out.own ht9 (by omega) (by omega))
             have LB9 := Lib.hid (LstAt.snoc (f := fun i => SM.val (i : Int)) VS8.out hvl hrow9 V8.out ht9 (by omega))
             have RC9 := Lib.hid (RC8.out.keep ht9 (by omega))
             have LH9 := Lib.hid (LH8.out.keep ht9 (by omega))
             clear hrow9 ht9 R8 VS8 V8 L8 RC8 LH8 XL HW8)
          | fail)
        have HHD := Lib.hid (sheld_all w9 col9 w1.heap.size 16 p S7 n L9.out.s)
        rw [(core_val HCO7.out (n : Int)).2.2.1] at HHD
        obtain ⟨bv, hbv⟩ : ∃ bv, SM.isHeld n = bv := ⟨_, rfl⟩
        rw [hbv] at HHD
        unfold ptr at HHD
        obtain ⟨wa, hwa⟩ : ∃ wa, w9.alloc (.cells #[.bool bv] 4) = wa := ⟨_, rfl⟩
        have BA := Lib.hid (show Below w9.heap.size w9 wa from hwa ▸ (Below.refl w9.heap.size w9).alloc (Nat.le_refl _) _)
        have LHA := Lib.hid (LH9.out.keep (lo := 16) (hi := 16) (Tch.of_below BA.out) (by omega))
        have LBA := Lib.hid (LB9.out.keep (lo := 16) (hi := 16) (Tch.of_below BA.out) (by omega))
        have RCA := Lib.hid (RC9.out.keep (lo := 16) (hi := 16) (Tch.of_below BA.out) (by omega))
        have LA := Lib.hid (L9.out.below BA.out)
        have XLA := Lib.hid (show RowAt wa (some ⟨w9.heap.size, 0, none⟩) (1 * 1) [.bool bv] by rw [← hwa]; exact lit_rowN w9 4 [.bool bv] (1 * 1) w9.heap.size rfl rfl)
        have HWA := Lib.hid hwa
        clear hwa BA L9 LH9 LB9 RC9
        go_wp2_with fail
        refine HHD.out.mono ?_
        rintro e w' ⟨rfl, rfl⟩
        clear HHD
        go_wp2_with (first
          | (at_builtin
             rw [HWA.out]
             refine app_row _ 45 4 (.bool false) 1 1 Try.underlying45 info_bool rfl (by decide) rfl (.tmp 108) (.tmp 112) rfl col9 w1.heap.size 6 6 7 vh n (bools (fun i => SM.isHeld i) n) rfl LHA.out ⟨by omega, by omega⟩ (some ⟨w9.heap.size, 0, none⟩) 1 1 [.bool bv] rfl (fun e => by cases e) XLA.out (by intro u hu; simp at hu; subst hu; rfl) (by unfold maxLen; omega) (by omega) LA.out.b ?_
             intro vq wb colb hrowb htb _
             have LBB := Lib.hid (LBA.out.keep htb (by omega))
             have RCB := Lib.hid (RCA.out.keep htb (by omega))
             have LBv := Lib.hid (LA.out.own htb (by omega) (by omega))
             have LHB := Lib.hid (show Row wb colb w1.heap.size 6 4 1 vq (n + 1) (bools (fun i => SM.isHeld i) (n + 1)) by rw [bools_succ]; simp only [hbv]; exact hrowb)
             clear hrowb htb LA LHA LBA RCA XLA HWA)
          | fail)
        go_roundw
        case rel => exact ⟨n + 1, S7, colb, _, _, by go_num, rfl, rfl, by omega, LBv.out, HCO7.out, hcnt7, CI7.out, RCB.out, LBB.out, LHB.out⟩
        case measure => simp [intOf]; omega
      · obtain rfl : n = 128 := by omega
        have hcnt2 : S.cnt ≤ 428 := hcnt
        go_upto_block 5 with fail
        go_cut [19, 20] (fun _ _ wx => ∃ (S : SS) (col : Col), Liv w1 wx col w1.heap.size 16 p S ∧ Since SM S ∧ S.cnt ≤ 728 ∧ CI S ∧ Row wx col w1.heap.size 0 3 1 v13 SM.changed.length (ints SM.changed) ∧ LstAt wx col w1.heap.size vb 128 (fun i => SM.val i) ∧ Row wx col w1.heap.size 6 4 1 vh 128 (bools (fun i => SM.isHeld i) 128))
        case first =>
          have SN0 := Lib.hid (Since.of_core HCO.out)
          go_wp2_with fail
          go_loopw [19, 20] (fun ii _ wr => ∃ (j : Nat) (S : SS) (col : Col), ii = .int .i64 j ∧ j ≤ len' ∧ j ≤ 300 ∧ Liv w1 wr col w1.heap.size 16 p S ∧ Since SM S ∧ S.cnt ≤ 428 + j ∧ CI S ∧ Row wr col w1.heap.size 0 3 1 v13 SM.changed.length (ints SM.changed) ∧ LstAt wr col w1.heap.size vb 128 (fun i => SM.val i) ∧ Row wr col w1.heap.size 6 4 1 vh 128 (bools (fun i => SM.isHeld i) 128)) (fun ii _ _ => 300 - (intOf ii).toNat)
          case atStart => exact ⟨0, S, col, rfl, by omega, by omega, LV.out, SN0.out, by omega, CIS.out, RC.out, LB.out, LH.out⟩
          case round =>
            clear LV CIS RC LB LH HCO SN0 hcnt hcnt2 hn
            obtain ⟨j, S, col, rfl, hj, hj2, hL, hsn, hcnt, hci, hR, hB, hH⟩ := hrel
            have LV := Lib.hid hL
            have CIS := Lib.hid hci
            have SNS := Lib.hid hsn
            have RC := Lib.hid hR
            have LB := Lib.hid hB
            have LH := Lib.hid hH
            clear hL hci hsn hR hB hH
            by_cases hlt : j < len' ∧ j < 300
            · obtain ⟨hlt, hlt2⟩ := hlt
              have RR := Lib.hid (LV.out.old (RO'.out.below B1.out))
              obtain ⟨a, x, b, f, hAe, hgk, k0, k1, k2⟩ := op3_at RR.out hl' hlt
              subst hAe
              have i1 : (j : Int) < (len' : Int) := by omega
              have i2 : (j : Int) < 300 := by omega
              obtain ⟨wo, hwo⟩ : ∃ wo, wr.alloc (.cells #[.int .i64 x, .int .i64 b, .int .i64 f] 32) = wo := ⟨_, rfl⟩
              obtain ⟨go, hgo⟩ : ∃ go, wr.heap.size = go := ⟨_, rfl⟩
              have BO := Lib.hid (show Below wr.heap.size wr wo from hwo ▸ (Below.refl wr.heap.size wr).alloc (Nat.le_refl _) _)
              have LVO := Lib.hid (LV.out.below BO.out)
              have RC' := Lib.hid (RC.out.keep (lo := 16) (hi := 16) (Tch.of_below BO.out) (by omega))
              have LB' := Lib.hid (LB.out.keep (lo := 16) (hi := 16) (Tch.of_below BO.out) (by omega))
              have LH' := Lib.hid (LH.out.keep (lo := 16) (hi := 16) (Tch.of_below BO.out) (by omega))
              have OB := Lib.hid (show Bk wo col 0 0 go 32 #[.int .i64 x, .int .i64 b, .int .i64 f] from ⟨by rw [← hwo, ← hgo]; exact Blk.new _ _ _, by rw [← hgo]; exact LV.out.tidy _ (Nat.le_refl _), Nat.zero_le _⟩)
              have z0 : wo.cell? ⟨go, 0, none⟩ = some (.int .i64 x) := OB.out.blk.cell 0
              have z1 : wo.cell? ⟨go, 1, none⟩ = some (.int .i64 b) := OB.out.blk.cell 1
              have z2 : wo.cell? ⟨go, 2, none⟩ = some (.int .i64 f) := OB.out.blk.cell 2
              have HWO := Lib.hid hwo
              have HGO := Lib.hid hgo
              clear hwo hgo RR LV BO hgk RC LB LH
              obtain ⟨y, hy⟩ : ∃ y, bits .and .i64 x 3 = y := ⟨_, rfl⟩
              by_cases h01 : y = 0 ∨ y = 1
              · rcases h01 with rfl | rfl
                all_goals
                  go_wp2_with (first | rw [HGO.out, HWO.out] | simp only [hy] | fail)
                  have LD := Lib.hid (LVO.out.below (below_drewN (Below.refl _ _) 1))
                  rw [show wo.drewN 1 = wo.drew from rfl] at LD
                  have RC' := Lib.hid (RC'.out.keep (lo := 16) (hi := 16) ((Tch.refl 16 16 col wo).drew) (by omega))
                  have LB' := Lib.hid (LB'.out.keep (lo := 16) (hi := 16) ((Tch.refl 16 16 col wo).drew) (by omega))
                  have LH' := Lib.hid (LH'.out.keep (lo := 16) (hi := 16) ((Tch.refl 16 16 col wo).drew) (by omega))
                  have OD := Lib.hid (OB.out.keep (lo := 16) (hi := 16) ((Tch.refl 16 16 col wo).drew) (by omega))
                  have hlen0 : ∀ (cx : Col) (wx : World), Bk wx cx 0 0 go 32 #[.int .i64 x, .int .i64 b, .int .i64 f] → wx.cell? ⟨go, 1, none⟩ = some (.int .i64 b) ∧ wx.cell? ⟨go, 2, none⟩ = some (.int .i64 f) := fun cx wx h => ⟨h.blk.cell 1, h.blk.cell 2⟩
                  refine region_mix [true, true, true, true, true, false, false] (S := fun w' => w'.cell? ⟨go, 1, none⟩ = some (.int .i64 b) ∧ w'.cell? ⟨go, 2, none⟩ = some (.int .i64 f)) (by kernel_rfl) (by kernel_rfl) (fun _ _ d _ _ h => by cases d <;> exact h) (hlen0 _ _ OD.out) ?_
                  iterate 5 (refine mix_take (v := ?_) (by kernel_rfl) ?_ (fun K hK => ?_); rotate_left; (· (intro w' hSw; (try dsimp only at hSw); go_simp; with_reducible rfl)); simp only [Act.put, List.setIfInBounds_toArray, List.set_cons_zero, List.set_cons_succ]; refine hK _ ?_; clear hK K)
                  refine mix_do (E := False) (fun K hK => ?_) (by kernel_rfl)
                  go_simp
                  refine (filled_all f wo.drew col LD.out.tidy).mono ?_
                  rintro e w6 ⟨g6, rfl, hb6, hy6, hr6, hc6, hg6⟩
                  have L6 := Lib.hid (LD.out.below hb6)
                  have RC' := Lib.hid (RC'.out.keep (lo := 16) (hi := 16) (Tch.of_below hb6) (by omega))
                  have LB' := Lib.hid (LB'.out.keep (lo := 16) (hi := 16) (Tch.of_below hb6) (by omega))
                  have LH' := Lib.hid (LH'.out.keep (lo := 16) (hi := 16) (Tch.of_below hb6) (by omega))
                  have O6 := Lib.hid (OD.out.keep (lo := 16) (hi := 16) (Tch.of_below hb6) (by omega))
                  have HW := Lib.hid (swrite_all w6 col w1.heap.size 16 p g6 256 S b (fillB f) L6.out.s L6.out.b (by have := hcnt; unfold SS.cnt at this; omega) hy6 (by omega))
                  have hp := writeS_parts S b (fillB f)
                  clear hb6 hy6 hr6 LD OD LVO OB
                  unfold ptr at HW
                  refine hK.out _ _ ((hlen0 _ _ O6.out)) ?_
                  clear hK K
                  try simp only [Act.put, List.setIfInBounds_toArray, List.set_cons_zero, List.set_cons_succ]
                  refine mix_do (E := False) (fun K hK => ?_) (by kernel_rfl)
                  go_simp
                  refine HW.out.mono ?_
                  rintro e w7 ⟨col7, rfl, ht7, hs7⟩
                  have L7 := Lib.hid (L6.out.next ht7 hs7)
                  have RC' := Lib.hid (RC'.out.keep ht7 (by omega))
                  have LB' := Lib.hid (LB'.out.keep ht7 (by omega))
                  have LH' := Lib.hid (LH'.out.keep ht7 (by omega))
                  have O7 := Lib.hid (O6.out.keep ht7 (by omega))
                  clear ht7 hs7 L6 O6 HW
                  refine hK.out _ _ ((hlen0 _ _ O7.out)) ?_
                  clear hK K
                  try simp only [Act.put, List.setIfInBounds_toArray, List.set_cons_zero, List.set_cons_succ]
                  refine mix_end ?_
                  go_wp2_with fail
                  go_roundw
                  case rel => ((repeat apply Exists.intro); refine ⟨?_, rfl⟩; exact ⟨j + 1, _, col7, by go_num, by omega, by omega, L7.out, SNS.out.writeS _ _, by omega, CIS.out.writeS _ _, RC'.out, LB'.out, LH'.out⟩)
                  case measure => simp [intOf]; omega
              · by_cases h2 : y = 2
                · subst h2
                  have HW := Lib.hid (shold_all wo col w1.heap.size 16 p S b LVO.out.s LVO.out.b (by have := hcnt; unfold SS.cnt at this; omega))
                  unfold ptr at HW
                  have hp := holdS_parts S b
                  go_wp2_with (first | rw [HGO.out, HWO.out] | simp only [hy] | fail)
                  refine HW.out.mono ?_
                  rintro e w7 ⟨col7, rfl, ht7, hs7⟩
                  have L7 := Lib.hid (LVO.out.next ht7 hs7)
                  have RC' := Lib.hid (RC'.out.keep ht7 (by omega))
                  have LB' := Lib.hid (LB'.out.keep ht7 (by omega))
                  have LH' := Lib.hid (LH'.out.keep ht7 (by omega))
                  clear ht7 hs7 HW LVO
                  go_wp2_with fail
                  go_roundw
                  case rel => first | exact ⟨j + 1, _, col7, by go_num, by omega, by omega, L7.out, SNS.out.holdS _, by omega, CIS.out.holdS _, RC'.out, LB'.out, LH'.out⟩ | ((repeat apply Exists.intro); refine ⟨?_, rfl⟩; exact ⟨j + 1, _, col7, by go_num, by omega, by omega, L7.out, SNS.out.holdS _, by omega, CIS.out.holdS _, RC'.out, LB'.out, LH'.out⟩)
                  case measure => simp [intOf]; omega
                · have e0 : (y == 0) = false := by simp; omega
                  have e1 : (y == 1) = false := by simp; omega
                  have e2 : (y == 2) = false := by simp; omega
                  have HW := Lib.hid (sread_all wo col w1.heap.size 16 p S b LVO.out.s LVO.out.b (by have := hcnt; unfold SS.cnt at this; omega))
                  unfold ptr at HW
                  have hp := read_parts S b
                  go_wp2_with (first | rw [HGO.out, HWO.out] | simp only [hy] | fail)
                  refine HW.out.mono ?_
                  rintro e w7 ⟨v7, col7, rfl, ht7, hs7, _⟩
                  have L7 := Lib.hid (LVO.out.next ht7 hs7)
                  have RC' := Lib.hid (RC'.out.keep ht7 (by omega))
                  have LB' := Lib.hid (LB'.out.keep ht7 (by omega))
                  have LH' := Lib.hid (LH'.out.keep ht7 (by omega))
                  clear ht7 hs7 HW LVO
                  go_wp2_with fail
                  go_roundw
                  case rel => first | exact ⟨j + 1, _, col7, by go_num, by omega, by omega, L7.out, SNS.out.readS _, by omega, CIS.out.readS _, RC'.out, LB'.out, LH'.out⟩ | ((repeat apply Exists.intro); refine ⟨?_, rfl⟩; exact ⟨j + 1, _, col7, by go_num, by omega, by omega, L7.out, SNS.out.readS _, by omega, CIS.out.readS _, RC'.out, LB'.out, LH'.out⟩)
                  case measure => simp [intOf]; omega
            · have hcase : (j = 300 ∧ (j : Int) < (len' : Int)) ∨ j = len' := by omega
              rcases hcase with ⟨rfl, i1⟩ | rfl
              all_goals
                go_wp2_with fail
                go_meet
                exact ⟨S, col, LV.out, SNS.out, by omega, CIS.out, RC.out, LB.out, LH.out⟩
        case rest =>
          clear LV CIS RC LB LH HCO hcnt hcnt2 hn
          obtain ⟨S, col, hL, hsn, hcnt, hci, hR, hB, hH⟩ := hcut
          have LV := Lib.hid hL
          have CIS := Lib.hid hci
          have SNS := Lib.hid hsn
          have RC := Lib.hid hR
          have LB := Lib.hid hB
          have LH := Lib.hid hH
          clear hL hci hsn hR hB hH
          have HBK := Lib.hid (sback_all wc col w1.heap.size 16 p S SM.undo.length LV.out.s)
          have hbk := SNS.out.back
          rw [hbk.1] at HBK
          obtain ⟨SB, hSB⟩ : ∃ SB, S.back SM.undo.length = SB := ⟨_, rfl⟩
          have hbc := (back_parts S SM.undo.length).2.1
          have CIB := Lib.hid (show CI SB by rw [← hSB]; exact CIS.out.back _)
          rw [hSB] at HBK hbk hbc
          have HCB := Lib.hid hbk.2
          have hcB : SB.cnt ≤ 728 := by omega
          clear hSB hbk hbc CIS SNS hcnt
          unfold ptr at HBK
          go_wp2_with fail
          refine HBK.out.mono ?_
          rintro e w7 ⟨col7, rfl, ht7, hs7⟩
          have L7 := Lib.hid (LV.out.next ht7 hs7)
          have RC7 := Lib.hid (RC.out.keep ht7 (by omega))
          have LB7 := Lib.hid (LB.out.keep ht7 (by omega))
          have LH7 := Lib.hid (LH.out.keep ht7 (by omega))
          clear ht7 hs7 HBK LV RC LB LH
          go_wp2_with fail
          go_loopw [22, 23, 24] (fun nn _ _ wr => ∃ (n : Nat) (S : SS) (col : Col), nn = .int .i64 n ∧ n ≤ 128 ∧ Liv w1 wr col w1.heap.size 16 p S ∧ S.core = SM.core ∧ S.cnt ≤ 728 + n ∧ CI S ∧ Row wr col w1.heap.size 0 3 1 v13 SM.changed.length (ints SM.changed) ∧ LstAt wr col w1.heap.size vb 128 (fun i => SM.val i) ∧ Row wr col w1.heap.size 6 4 1 vh 128 (bools (fun i => SM.isHeld i) 128)) (fun nn _ _ _ => 128 - (intOf nn).toNat)
          case atStart => exact ⟨0, SB, col7, rfl, by omega, L7.out, HCB.out, by omega, CIB.out, RC7.out, LB7.out, LH7.out⟩
          case round =>
            clear L7 RC7 LB7 LH7 HCB CIB hcB
            obtain ⟨n, S, col, rfl, hn, hL, hco, hcnt, hci, hR, hB, hH⟩ := hrel
            have LV := Lib.hid hL
            have CIS := Lib.hid hci
            have RC := Lib.hid hR
            have LB := Lib.hid hB
            have LH := Lib.hid hH
            have HCO := Lib.hid hco
            clear hL hci hR hB hH hco
            by_cases hlt : n < 128
            · have hni : (n : Int) < 128 := by omega
              have hcv := core_val HCO.out (n : Int)
              have HRD := Lib.hid (sread_all wr col w1.heap.size 16 p S n LV.out.s LV.out.b (by have := hcnt; unfold SS.cnt at this; omega))
              have hb1 : S.readB n = SM.val n := by rw [CIS.out.readB, if_pos (by rw [hcv.2.1]; exact HHM.out n hlt)]; exact hcv.1
              have hb2 : (SM.val n).length = 256 := by rw [← hcv.1, ← CIS.out.bytes]; exact LV.out.s.len n
              rw [hb1] at HRD
              obtain ⟨S7, hS7⟩ : ∃ S7, S.readS n = S7 := ⟨_, rfl⟩
              have hp := read_parts S n
              rw [hS7] at HRD hp
              have hcnt7 : S7.cnt ≤ 728 + (n + 1) := by omega
              have HCO7 := Lib.hid (show S7.core = SM.core by rw [← hS7, read_core]; exact HCO.out)
              have CI7 := Lib.hid (show CI S7 by rw [← hS7]; exact CIS.out.readS _)
              obtain ⟨er, her⟩ : ∃ er, S.readE n = er := ⟨_, rfl⟩
              rw [her] at HRD
              clear hS7 hb1 her hp CIS HCO hcv
              unfold ptr at HRD
              go_wp2_with fail
              refine HRD.out.mono ?_
              rintro e w7 ⟨v7, col7, rfl, ht7, hs7, hr7⟩
              rw [hb2] at hr7
              have t8 := (Tch.refl 16 16 col7 w7).drew
              obtain ⟨w8, hw8⟩ : ∃ w8, w7.drew = w8 := ⟨_, rfl⟩
              rw [hw8] at t8
              have L8 := Lib.hid ((LV.out.next ht7 hs7).same t8)
              have RC8 := Lib.hid ((RC.out.keep ht7 (by omega)).keep t8 (by omega))
              have LB8 := Lib.hid ((LB.out.keep ht7 (by omega)).keep t8 (by omega))
              have LH8 := Lib.hid ((LH.out.keep ht7 (by omega)).keep t8 (by omega))
              obtain ⟨gv, cv, _, rfl, _⟩ := own_form hr7.own (by omega)
              have V8 := Lib.hid (BytesAt.of_own (hr7.keep t8 (by omega)).own)
              clear ht7 hs7 hr7 HRD LV RC LB LH t8
              obtain ⟨gb, cb, g2, c2, rfl, hk0, hy2⟩ := LB8.out.at_ hlt
              obtain ⟨gh, ch, _, rfl, _⟩ := own_form LH8.out.own (by omega)
              obtain ⟨bv, hbv⟩ : ∃ bv, SM.isHeld n = bv := ⟨_, rfl⟩
              have hk1 : w8.cell? ⟨gh, n, none⟩ = some (.bool bv) := by rw [LH8.out.own.cellAt n (by omega), bools_at _ hlt, hbv]
              have HHD := Lib.hid (fun (kd : Nat) => sheld_all (w8.drewN kd) col7 w1.heap.size 16 p S7 n (L8.out.below (below_drewN (Below.refl _ _) kd)).s)
              rw [(core_val HCO7.out (n : Int)).2.2.1, hbv] at HHD
              unfold ptr at HHD
              have hnn : ((n : Int)).toNat = n := by omega
              have Y2 := Lib.hid hy2
              have HW8 := Lib.hid hw8
              clear hy2 hw8
              go_upto_region 49 with fail
              have hNS : w8.cell? ⟨gb, n, none⟩ = some (.slice (some ⟨g2, 0, none⟩) 256 c2) ∧ w8.cell? ⟨gh, n, none⟩ = some (.bool bv) := ⟨hk0, hk1⟩
              refine region_need_at (v := w8) (fun w' => w'.cell? ⟨gb, n, none⟩ = some (.slice (some ⟨g2, 0, none⟩) 256 c2) ∧ w'.cell? ⟨gh, n, none⟩ = some (.bool bv)) (fun _ => true) HW8.out (by kernel_rfl) ?_
              refine nw_take (i := 0) (v := ?_) rfl (by kernel_rfl) (by kernel_rfl) (fun _ _ d _ _ h => by cases d <;> exact h) (by exact hNS) (by kernel_rfl) ?_ (fun K hK => ?_); rotate_left; (· (intro w' hSw; (try dsimp only at hSw); go_simp; with_reducible rfl)); simp only [Act.put, List.setIfInBounds_toArray, List.set_cons_zero, List.set_cons_succ]; refine hK _ ?_; clear hK K
              refine nw_take (i := 1) (v := ?_) rfl (by kernel_rfl) (by kernel_rfl) (fun _ _ d _ _ h => by cases d <;> exact h) (by exact hNS) (by kernel_rfl) ?_ (fun K hK => ?_); rotate_left; (· (intro w' hSw; (try dsimp only at hSw); go_simp; with_reducible rfl)); simp only [Act.put, List.setIfInBounds_toArray, List.set_cons_zero, List.set_cons_succ]; refine hK _ ?_; clear hK K
              refine nw_take (i := 2) (v := ?_) rfl (by kernel_rfl) (by kernel_rfl) (fun _ _ d _ _ h => by cases d <;> exact h) (by exact hNS) (by kernel_rfl) ?_ (fun K hK => ?_); rotate_left; (· (intro w' hSw; (try dsimp only at hSw); go_simp; with_reducible rfl)); simp only [Act.put, List.setIfInBounds_toArray, List.set_cons_zero, List.set_cons_succ]; refine hK _ ?_; clear hK K
              refine nw_take (i := 3) (v := ?_) rfl (by kernel_rfl) (by kernel_rfl) (fun _ _ d _ _ h => by cases d <;> exact h) (by exact hNS) (by kernel_rfl) ?_ (fun K hK => ?_); rotate_left; (· (intro w' hSw; (try dsimp only at hSw); go_simp; with_reducible rfl)); simp only [Act.put, List.setIfInBounds_toArray, List.set_cons_zero, List.set_cons_succ]; refine hK _ ?_; clear hK K
              refine nw_take (i := 4) (v := ?_) rfl (by kernel_rfl) (by kernel_rfl) (fun _ _ d _ _ h => by cases d <;> exact h) (by exact hNS) (by kernel_rfl) ?_ (fun K hK => ?_); rotate_left; (· (intro w' hSw; (try dsimp only at hSw); go_simp; with_reducible rfl)); simp only [Act.put, List.setIfInBounds_toArray, List.set_cons_zero, List.set_cons_succ]; refine hK _ ?_; clear hK K
              refine nw_one (i := 5) (E := False) rfl (by kernel_rfl) (fun K hK => ?_) (by kernel_rfl)
              go_simp
              refine (same_any (some ⟨gv, 0, none⟩) (some ⟨g2, 0, none⟩) 256 256 cv c2 (SM.val n) (SM.val n) w8 (by omega) V8.out Y2.out).mono ?_
              rintro e wd ⟨rfl, kd, rfl⟩
              rw [show (SM.val (n : Int) == SM.val (n : Int)) = true by simp]
              refine hK.out _ _ ((fun _ => ⟨hk0, hk1⟩)) ?_
              clear hK K
              try simp only [Act.put, List.setIfInBounds_toArray, List.set_cons_zero, List.set_cons_succ]
              have hNS : (w8.drewN kd).cell? ⟨gb, n, none⟩ = some (.slice (some ⟨g2, 0, none⟩) 256 c2) ∧ (w8.drewN kd).cell? ⟨gh, n, none⟩ = some (.bool bv) := ⟨hk0, hk1⟩
              refine nw_take (i := 6) (v := ?_) rfl (by kernel_rfl) (by kernel_rfl) (fun _ _ d _ _ h => by cases d <;> exact h) (by exact hNS) (by kernel_rfl) ?_ (fun K hK => ?_); rotate_left; (· (intro w' hSw; (try dsimp only at hSw); go_simp; with_reducible rfl)); simp only [Act.put, List.setIfInBounds_toArray, List.set_cons_zero, List.set_cons_succ]; refine hK _ ?_; clear hK K
              refine nw_take (i := 7) (v := ?_) rfl (by kernel_rfl) (by kernel_rfl) (fun _ _ d _ _ h => by cases d <;> exact h) (by exact hNS) (by kernel_rfl) ?_ (fun K hK => ?_); rotate_left; (· (intro w' hSw; (try dsimp only at hSw); go_simp; with_reducible rfl)); simp only [Act.put, List.setIfInBounds_toArray, List.set_cons_zero, List.set_cons_succ]; refine hK _ ?_; clear hK K
              refine nw_take (i := 8) (v := ?_) rfl (by kernel_rfl) (by kernel_rfl) (fun _ _ d _ _ h => by cases d <;> exact h) (by exact hNS) (by kernel_rfl) ?_ (fun K hK => ?_); rotate_left; (· (intro w' hSw; (try dsimp only at hSw); go_simp; with_reducible rfl)); simp only [Act.put, List.setIfInBounds_toArray, List.set_cons_zero, List.set_cons_succ]; refine hK _ ?_; clear hK K
              refine nw_take (i := 9) (v := ?_) rfl (by kernel_rfl) (by kernel_rfl) (fun _ _ d _ _ h => by cases d <;> exact h) (by exact hNS) (by kernel_rfl) ?_ (fun K hK => ?_); rotate_left; (· (intro w' hSw; (try dsimp only at hSw); go_simp; with_reducible rfl)); simp only [Act.put, List.setIfInBounds_toArray, List.set_cons_zero, List.set_cons_succ]; refine hK _ ?_; clear hK K
              refine nw_take (i := 11) (v := ?_) rfl (by kernel_rfl) (by kernel_rfl) (fun _ _ d _ _ h => by cases d <;> exact h) (by exact hNS) (by kernel_rfl) ?_ (fun K hK => ?_); rotate_left; (· (intro w' hSw; (try dsimp only at hSw); go_simp; with_reducible rfl)); simp only [Act.put, List.setIfInBounds_toArray, List.set_cons_zero, List.set_cons_succ]; refine hK _ ?_; clear hK K
              refine nw_take (i := 12) (v := ?_) rfl (by kernel_rfl) (by kernel_rfl) (fun _ _ d _ _ h => by cases d <;> exact h) (by exact hNS) (by kernel_rfl) ?_ (fun K hK => ?_); rotate_left; (· (intro w' hSw; (try dsimp only at hSw); go_simp; with_reducible rfl)); simp only [Act.put, List.setIfInBounds_toArray, List.set_cons_zero, List.set_cons_succ]; refine hK _ ?_; clear hK K
              refine nw_take (i := 13) (v := ?_) rfl (by kernel_rfl) (by kernel_rfl) (fun _ _ d _ _ h => by cases d <;> exact h) (by exact hNS) (by kernel_rfl) ?_ (fun K hK => ?_); rotate_left; (· (intro w' hSw; (try dsimp only at hSw); go_simp; with_reducible rfl)); simp only [Act.put, List.setIfInBounds_toArray, List.set_cons_zero, List.set_cons_succ]; refine hK _ ?_; clear hK K
              refine nw_take (i := 14) (v := ?_) rfl (by kernel_rfl) (by kernel_rfl) (fun _ _ d _ _ h => by cases d <;> exact h) (by exact hNS) (by kernel_rfl) ?_ (fun K hK => ?_); rotate_left; (· (intro w' hSw; (try dsimp only at hSw); go_simp; with_reducible rfl)); simp only [Act.put, List.setIfInBounds_toArray, List.set_cons_zero, List.set_cons_succ]; refine hK _ ?_; clear hK K
              refine nw_one (i := 10) (E := False) rfl (by kernel_rfl) (fun K hK => ?_) (by kernel_rfl)
              go_simp
              refine (HHD.out kd).mono ?_
              rintro e w' ⟨rfl, rfl⟩
              refine hK.out _ _ ((fun _ => ⟨hk0, hk1⟩)) ?_
              clear hK K
              try simp only [Act.put, List.setIfInBounds_toArray, List.set_cons_zero, List.set_cons_succ]
              refine nw_take (i := 15) (v := ?_) rfl (by kernel_rfl) (by kernel_rfl) (fun _ _ d _ _ h => by cases d <;> exact h) (by exact hNS) (by kernel_rfl) ?_ (fun K hK => ?_); rotate_left; (· (intro w' hSw; (try dsimp only at hSw); go_simp; with_reducible rfl)); simp only [Act.put, List.setIfInBounds_toArray, List.set_cons_zero, List.set_cons_succ]; refine hK _ ?_; clear hK K
              refine nw_take (i := 16) (v := ?_) rfl (by kernel_rfl) (by kernel_rfl) (fun _ _ d _ _ h => by cases d <;> exact h) (by exact hNS) (by kernel_rfl) ?_ (fun K hK => ?_); rotate_left; (· (intro w' hSw; (try dsimp only at hSw); go_simp; with_reducible rfl)); simp only [Act.put, List.setIfInBounds_toArray, List.set_cons_zero, List.set_cons_succ]; refine hK _ ?_; clear hK K
              refine nw_end (by kernel_rfl) ?_
              have LN := Lib.hid (L8.out.below (below_drewN (Below.refl _ _) kd))
              have RCN := Lib.hid (RC8.out.keep ((Tch.refl 16 16 col7 w8).drewN kd) (by omega))
              have LBN := Lib.hid (LB8.out.keep ((Tch.refl 16 16 col7 w8).drewN kd) (by omega))
              have LHN := Lib.hid (LH8.out.keep ((Tch.refl 16 16 col7 w8).drewN kd) (by omega))
              clear L8 RC8 LB8 LH8
              go_wp2_with fail
              go_roundw
              case rel => first | exact ⟨n + 1, S7, col7, by go_num, by omega, LN.out, HCO7.out, hcnt7, CI7.out, RCN.out, LBN.out, LHN.out⟩ | ((repeat apply Exists.intro); refine ⟨?_, rfl⟩; exact ⟨n + 1, S7, col7, by go_num, by omega, LN.out, HCO7.out, hcnt7, CI7.out, RCN.out, LBN.out, LHN.out⟩)
              case measure => simp [intOf]; omega
            · obtain rfl : n = 128 := by omega
              have hcv := core_val HCO.out 0
              have HM := Lib.hid (smark_all wr col w1.heap.size 16 p S LV.out.s)
              have HC := Lib.hid (schanged_all wr col w1.heap.size 16 p S LV.out.s)
              rw [hcv.2.2.2.2] at HM
              rw [show SChanged wr col w1.heap.size 16 p S = fun e w' => ∃ v, e = .returned v ∧ Tch 16 16 col col wr w' ∧ StoreAt w' col w1.heap.size 16 p S ∧ Row w' col wr.heap.size 0 3 1 v SM.changed.length (ints SM.changed) from by funext e w'; rw [SChanged, hcv.2.2.2.1]] at HC
              unfold ptr at HM HC
              obtain ⟨A1, c1, rfl, _⟩ := row_len RC.out
              have hul : ((SM.undo.length : Int) == (SM.undo.length : Int)) = true := by simp
              go_wp2_with fail
              refine HM.out.mono ?_
              rintro e w' ⟨rfl, rfl⟩
              go_wp2_with fail
              refine HC.out.mono ?_
              rintro e w7 ⟨v7, rfl, ht7, hs7, hr7⟩
              obtain ⟨A2, c2, rfl, _⟩ := row_len hr7
              have L7 := Lib.hid (LV.out.same ht7)
              have RC7 := Lib.hid (RowAt.of_own (RC.out.keep ht7 (by omega)).own)
              have RD7 := Lib.hid (RowAt.of_own hr7.own)
              have hcl := HCM.out
              clear ht7 hs7 hr7 HM HC LV RC LB LH
              go_wp2_with fail
              refine (sameInts_any A2 A1 _ _ c2 c1 SM.changed SM.changed w7 (by omega) RD7.out RC7.out).mono ?_
              rintro e wd ⟨rfl, kd, rfl⟩
              rw [show (SM.changed == SM.changed) = true by simp]
              go_wp2_with fail
              go_ret
              exact ⟨rfl, below_all B1.out B1.out.size (below_drewN L7.out.end kd)⟩
theorem storeBack_walk (w : World) (a0 : Option Addr) (len0 cap0 : Nat) (gs0 : List Op3) (ro0 : RowAt w a0 (len0 * 3) (ocells gs0)) (lc0 : len0 ≤ cap0) (ml0 : cap0 ≤ maxLen) (ha0 : a0 = none → len0 = 0 ∧ cap0 = 0) (hl0 : gs0.length = len0) (ok0 : ∀ g ∈ gs0, OpOk g)
    (a1 : Option Addr) (len1 cap1 : Nat) (gs1 : List Op3) (ro1 : RowAt w a1 (len1 * 3) (ocells gs1)) (lc1 : len1 ≤ cap1) (ml1 : cap1 ≤ maxLen) (ha1 : a1 = none → len1 = 0 ∧ cap1 = 0) (hl1 : gs1.length = len1) (ok1 : ∀ g ∈ gs1, OpOk g) :
    Calls Try.prog 3 #[.slice a0 len0 cap0, .slice a1 len1 cap1] w fun e w' => e = .returned (.bool true) ∧ Below w.heap.size w w' := storeBack_run w a0 len0 cap0 gs0 ro0 lc0 ml0 hl0 a1 len1 cap1 gs1 ro1 lc1 ml1 hl1
end Go.Proofs.Ytomoliickggghaa.Mem

namespace Go.Proofs.Ytomoliickggghaa.storeBack
open Go.ChangeShapes Go.WideShapes Go.ChangeAt Go.RowKit Go.Joins
set_option linter.unusedVariables false
set_option linter.unusedSimpArgs false

open Go.Proofs.Ytomoliickggghaa.Mem
theorem own : ownKnob Try.prog.godebug = none := by kernel_rfl
theorem laidOut : laidOutB Try.prog = true := by kernel_rfl

set_option maxRecDepth 100000 in
theorem lifted (os : Os) (started : os.Started) (H : Type) (enc : TypeId × Value → H) :
    ReturnsInHanded {} Try.checked os 3 .any (Rows.storeBackSpec.pre6 enc Try.prog Try.f3 Rows.storeBackRow.domain false) (Rows.storeBackSpec.post enc Try.prog Try.f3 false true false false) := by
  refine returnsInHanded_of_change (C := Try.checked) own started (by kernel_rfl) Try.func3
    (ChangeSpec.witness6 (enc := enc) (C := Try.checked) false ⟨#[], #[.slice none 0 0, .slice none 0 0], []⟩ 8 (by kernel_rfl) (by kernel_rfl) (by kernel_rfl) (by kernel_rfl)) ?_
  intro W base args ds gs before hval0 hW hcnd _
  have hval : ∀ (j : Nat) t v, Try.f3.params[j]? = some t → args[j]? = some v → Value.okWide Try.prog W .any base t v := hval0
  have hW' := hW
  obtain ⟨p, q, hA0, hV, rfl, hfz, hnd⟩ := hW
  have hA : DataW.TrodAll enc Try.prog W 0 (fun _ => true) true Try.f3.params.toList args.toList ds p := hA0
  rw [Try.params3] at hA hval
  obtain ⟨v0, vs0, d0, ds0, p0, q0, hargs, rfl, rfl, h0, r0⟩ := trodAll_cons hA
  obtain ⟨v1, vs1, d1, ds1, p1, q1, rfl, rfl, rfl, h1, r1⟩ := trodAll_cons r0
  obtain ⟨rfl, rfl, rfl⟩ := trodAll_nil r1
  obtain rfl : args = #[v0, v1] := by cases args; simp_all
  obtain ⟨rfl, rfl⟩ := trodVars_none hV
  have k0 := h0
  have lt0 : ∀ x ∈ p0, x.block < W.heap.size := by obtain ⟨m, hm⟩ := k0; exact DataW.trod_lt m _ _ _ hm
  obtain ⟨a0, len0, cap0, gs0, rfl, ro0, lc0, ml0, ha0, hl0, ok0⟩ := open_ops (hval 0 22 v0 rfl rfl) h0
  have k1 := h1
  have lt1 : ∀ x ∈ p1, x.block < W.heap.size := by obtain ⟨m, hm⟩ := k1; exact DataW.trod_lt m _ _ _ hm
  obtain ⟨a1, len1, cap1, gs1, rfl, ro1, lc1, ml1, ha1, hl1, ok1⟩ := open_ops (hval 1 22 v1 rfl rfl) h1
  clear hA0 hval0
  refine (storeBack_walk W a0 len0 cap0 gs0 ro0 lc0 ml0 ha0 hl0 ok0 a1 len1 cap1 gs1 ro1 lc1 ml1 ha1 hl1 ok1).mono fun e W' ⟨he, bel⟩ => ?_
  subst he
  exact ⟨_, rfl, _, _, _, [], _, [], hW', trodAll_mk1 (shut_bool Try.underlying4 _), (trodAll_cons_mk (Below.trod laidOut (by kernel_rfl) (of_decide_eq_true (by kernel_rfl)) k0 bel lt0) (trodAll_cons_mk (Below.trod laidOut (by kernel_rfl) (of_decide_eq_true (by kernel_rfl)) k1 bel lt1) trodAll_mk0)), rfl, bel.frame _, fun h => by cases h⟩

theorem over : Rows.storeBackRow.holds Try.pinned (OpenSpec.ofChange Rows.storeBackSpec) :=
  OpenClaim.holds_of_wide 3 Try.f3 rfl rfl rfl rfl rfl rfl rfl ⟨rfl, rfl, rfl, rfl, rfl⟩ rfl rfl rfl rfl rfl (by kernel_rfl) Try.func3 (by kernel_rfl)
    (of_decide_eq_true (by kernel_rfl)) (by unfold Func.isWrapper; first | (rw [if_pos (by decide +kernel)]; kernel_rfl) | (rw [if_neg (by decide +kernel)]; exact ⟨rfl, rfl⟩))
    (fun os started H enc _ => lifted os started H enc)

theorem proved : Rows.StoreBackSaid := over
#print axioms proved
end Go.Proofs.Ytomoliickggghaa.storeBack
