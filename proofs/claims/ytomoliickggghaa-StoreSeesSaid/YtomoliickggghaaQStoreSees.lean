
/-
  THE ROW of hayricklaw06.StoreSees: for every input the law returns true, and its arguments read as they did. No condition.
-/
import Derived.Test.YtomoliickggghaaKR6N10
import Derived.Test.YtomoliickggghaaKR6N7
import Derived.Deep.DeepCutAuto
import Derived.Deep.CutBlock
import Derived.Test.YtomoliickggghaaRows
import Derived.ProofKit
import Derived.OpenShut
import Derived.ShutString
import Derived.ChangeOld
import Derived.SizedLaws
import Derived.Lib.SmallJoins
namespace Go.Proofs.Ytomoliickggghaa.Mem
open Go.RowKit Go.Proofs.Ytomoliickggghaa Go.Proofs.Ytomoliickggghaa.Wire
set_option maxHeartbeats 16000000
set_option maxRecDepth 100000
set_option linter.unusedVariables false
set_option linter.unusedSimpArgs false

theorem storeSees_run (w : World) (sh rm : Int) (hsh : -9223372036854775808 ≤ sh ∧ sh ≤ 9223372036854775807) (hrm : -9223372036854775808 ≤ rm ∧ rm ≤ 9223372036854775807) (A : Option Addr) (len cap : Nat) (gs : List Op3) (ro : RowAt w A (len * 3) (ocells gs)) (lc : len ≤ cap) (ml : cap ≤ maxLen) (hl : gs.length = len) :
    Calls Try.prog 5 #[.int .i64 sh, .int .i64 rm, .slice A len cap] w fun e w' => e = .returned (.bool true) ∧ Below w.heap.size w w' := by
  have HA := Lib.hid (awake_any w)
  have RO := Lib.hid ro
  have hml : cap ≤ 9223372036854775807 := by unfold maxLen at ml; omega
  obtain ⟨ks, hks, hks2⟩ := and15 hsh
  obtain ⟨kr, hkr, hkr2⟩ := and255 hrm
  have hw1 : IntKind.i64.wrap (1 + (ks : Int)) = 1 + (ks : Int) := by rw [IntKind.wrap_i64]; omega
  have hw2 : IntKind.i64.wrap (1 + (kr : Int)) = 1 + (kr : Int) := by rw [IntKind.wrap_i64]; omega
  clear ro ml hsh hrm
  go_enter Try.func5, Try.ntmps5
  go_wp2_with fail
  refine HA.out.mono ?_
  rintro e w1 ⟨rfl, hb1⟩
  have B1 := Lib.hid hb1
  have HD := Lib.hid (dnew_any w1 (fun _ => 0) w1.heap.size 24 24 28 128 (by omega) (by omega) (Nat.le_refl _) (by omega) (by omega) (by omega))
  rw [show ((128 : Nat) : Int) = 128 from rfl] at HD
  clear HA hb1
  go_wp2_with fail
  refine HD.out.mono ?_
  rintro e w2 ⟨q, col2, rfl, ht2, hd2, _⟩
  have T2 := Lib.hid ht2
  have D2 := Lib.hid hd2
  have HD2 := Lib.hid (dnew_any w2 col2 w1.heap.size 104 104 108 128 (by omega) (by omega) ht2.size (by omega) (by omega) (by omega))
  rw [show ((128 : Nat) : Int) = 128 from rfl] at HD2
  clear HD ht2 hd2
  unfold ptr
  go_wp2_with fail
  refine HD2.out.mono ?_
  rintro e w3 ⟨q2, col3, rfl, ht3, hd3, _⟩
  have T3 := Lib.hid ((T2.out.mono (lo' := 2) (hi' := 300) (by omega) (by omega)).trans (ht3.mono (by omega) (by omega)))
  have N22 := Lib.hid (((NoCol.zero (r := 22) (by omega)).keep T2.out (by omega) (by omega)).keep ht3 (by omega) (by omega))
  have N102 := Lib.hid (((NoCol.zero (r := 102) (by omega)).keep T2.out (by omega) (by omega)).keep ht3 (by omega) (by omega))
  have D3 := Lib.hid hd3
  have HS := Lib.hid (snew_any w3 col3 w1.heap.size 16 q 1 1 _ (D2.out.keep ht3 (by omega) (by omega)) (by omega) T3.out.size (T3.out.tidy (fun _ _ => rfl)) (fun b _ => N22.out b) (by omega) (by omega) (by omega) (by omega))
  rw [show ((1 : Nat) : Int) = 1 from rfl] at HS
  clear HD2 ht3 hd3 T2 D2 N22
  unfold ptr at HS ⊢
  go_wp2_with fail
  refine HS.out.mono ?_
  rintro e w4 ⟨p, col4, rfl, ht4, hs4, _⟩
  have D4 := Lib.hid (D3.out.keep ht4 (by omega) (by omega))
  have L4 := Lib.hid (show Liv w1 w4 col4 w1.heap.size 16 p (SS.fresh (DS.fresh 128 q) 1 1) from ⟨T3.out.trans (ht4.mono (by omega) (by omega)), hs4, Nat.le_trans T3.out.size ht4.size, by omega, rfl⟩)
  have HS := Lib.hid (snew_any w4 col4 w1.heap.size 96 q2 (1 + ks) (1 + kr) _ D4.out (by omega) L4.out.b L4.out.tidy (fun b _ => N102.out.keep ht4 (by omega) (by omega) b) (by omega) (by omega) (by omega) (by omega))
  rw [show ((1 + ks : Nat) : Int) = 1 + (ks : Int) by omega, show ((1 + kr : Nat) : Int) = 1 + (kr : Int) by omega] at HS
  clear ht4 hs4 T3 D3 D4 N102
  unfold ptr at HS ⊢
  go_wp2_with (simp only [hks, hkr, hw1, hw2])
  refine HS.out.mono ?_
  rintro e w5 ⟨r, col5, rfl, ht5, hs5, _⟩
  have L5 := Lib.hid (L4.out.other ht5 (by omega) (by omega) (by omega))
  have R5 := Lib.hid (show Liv w1 w5 col5 w1.heap.size 96 r (SS.fresh (DS.fresh 128 q2) (1 + ks) (1 + kr)) from ⟨L5.out.t, hs5, L5.out.b, by omega, rfl⟩)
  have SM0 := Lib.hid (show Sim (SS.fresh (DS.fresh 128 q) 1 1) (SS.fresh (DS.fresh 128 q2) (1 + ks) (1 + kr)) from ⟨rfl, rfl, rfl, rfl, rfl, rfl, rfl, rfl⟩)
  have CS0 := Lib.hid (CI.fresh (DS.fresh 128 q) (shards := 1) 1 (by omega))
  have CT0 := Lib.hid (CI.fresh (DS.fresh 128 q2) (shards := 1 + ks) (1 + kr) (by omega))
  obtain ⟨S0, hS0⟩ : ∃ S0, SS.fresh (DS.fresh 128 q) 1 1 = S0 := ⟨_, rfl⟩
  obtain ⟨T0, hT0⟩ : ∃ T0, SS.fresh (DS.fresh 128 q2) (1 + ks) (1 + kr) = T0 := ⟨_, rfl⟩
  have hf0 : S0.cnt = 0 := by rw [← hS0]; rfl
  have hg0 : T0.cnt = 0 := by rw [← hT0]; rfl
  have hp0 : S0.d.pend.length + S0.d.ops = 0 := by rw [← hS0]; rfl
  have hqs : S0.d.at_ = q := by rw [← hS0]; rfl
  have hqt : T0.d.at_ = q2 := by rw [← hT0]; rfl
  rw [hS0] at L5 SM0 CS0
  rw [hT0] at R5 SM0 CT0
  clear hS0 hT0 ht5 hs5 HS L4 hks hkr hw1 hw2
  unfold ptr
  go_upto_block 0 with fail
  go_cut [16, 17, 18, 19, 20, 21] (fun _ _ _ _ _ _ wx => ∃ (S T : SS) (col : Col), Liv w1 wx col w1.heap.size 16 p S ∧ Liv w1 wx col w1.heap.size 96 r T ∧ Sim S T ∧ S.d.at_ = q ∧ T.d.at_ = q2 ∧ S.d.pend.length ≤ 3000)
  case first =>
    go_wp2_with fail
    go_loopw [16, 17, 18, 19, 20, 21] (fun ii _ _ _ _ _ wr => ∃ (j : Nat) (S T : SS) (col : Col), ii = .int .i64 j ∧ j ≤ len ∧ j ≤ 1500 ∧ Liv w1 wr col w1.heap.size 16 p S ∧ Liv w1 wr col w1.heap.size 96 r T ∧ Sim S T ∧ CI S ∧ CI T ∧ S.cnt ≤ j ∧ T.cnt ≤ j ∧ S.d.pend.length + S.d.ops ≤ 2 * j ∧ S.d.at_ = q ∧ T.d.at_ = q2) (fun ii _ _ _ _ _ _ => 1500 - (intOf ii).toNat)
    case atStart => exact ⟨0, S0, T0, col5, rfl, by omega, by omega, L5.out, R5.out, SM0.out, CS0.out, CT0.out, by omega, by omega, by omega, hqs, hqt⟩
    case round =>
      clear L5 R5 SM0 CS0 CT0
      obtain ⟨j, S, T, col, rfl, hj, hj2, hL, hR, hsim, hcs, hct, hcntS, hcntT, hpo, has_, hat_⟩ := hrel
      have LV := Lib.hid hL
      have RV := Lib.hid hR
      have SM := Lib.hid hsim
      have CS := Lib.hid hcs
      have CT := Lib.hid hct
      have hpoT : T.d.pend.length + T.d.ops ≤ 2 * j := by rw [← hsim.pend, ← hsim.ops]; exact hpo
      clear hL hR hsim hcs hct
      by_cases hlt : j < len ∧ j < 1500
      · obtain ⟨hlt, hlt2⟩ := hlt
        have RR := Lib.hid (LV.out.old (RO.out.below B1.out))
        obtain ⟨a, x, b, f, hAe, hgk, k0, k1, k2⟩ := op3_at RR.out hl hlt
        subst hAe
        have i1 : (j : Int) < (len : Int) := by omega
        have i2 : (j : Int) < 1500 := by omega
        obtain ⟨wo, hwo⟩ : ∃ wo, wr.alloc (.cells #[.int .i64 x, .int .i64 b, .int .i64 f] 32) = wo := ⟨_, rfl⟩
        obtain ⟨go, hgo⟩ : ∃ go, wr.heap.size = go := ⟨_, rfl⟩
        have BO := Lib.hid (show Below wr.heap.size wr wo from hwo ▸ (Below.refl wr.heap.size wr).alloc (Nat.le_refl _) _)
        have LVO := Lib.hid (LV.out.below BO.out)
        have RVO := Lib.hid (RV.out.below BO.out)
        have OB := Lib.hid (show Bk wo col 0 0 go 32 #[.int .i64 x, .int .i64 b, .int .i64 f] from ⟨by rw [← hwo, ← hgo]; exact Blk.new _ _ _, by rw [← hgo]; exact LV.out.tidy _ (Nat.le_refl _), Nat.zero_le _⟩)
        have z0 : wo.cell? ⟨go, 0, none⟩ = some (.int .i64 x) := OB.out.blk.cell 0
        have z1 : wo.cell? ⟨go, 1, none⟩ = some (.int .i64 b) := OB.out.blk.cell 1
        have z2 : wo.cell? ⟨go, 2, none⟩ = some (.int .i64 f) := OB.out.blk.cell 2
        have HWO := Lib.hid hwo
        have HGO := Lib.hid hgo
        clear hwo hgo RR LV RV BO hgk 
        obtain ⟨y, hy⟩ : ∃ y, bits .and .i64 x 15 = y := ⟨_, rfl⟩
        by_cases h03 : y = 0 ∨ y = 1 ∨ y = 2 ∨ y = 3
        · rcases h03 with rfl | rfl | rfl | rfl
          all_goals
            have hp1 := read_parts S b
            have hp2 := read_parts T b
            have hrd := SM.out.readB CS.out CT.out b
            have hbl := readB_len LVO.out.s b
            have HWT := Lib.hid (fun w7 col7 (h : StoreAt w7 col7 w1.heap.size 96 r T) (h2 : w1.heap.size ≤ w7.heap.size) => sread_all w7 col7 w1.heap.size 96 r T b h h2 (by have := hcntT; unfold SS.cnt at this; omega))
            have HW := Lib.hid (sread_all wo col w1.heap.size 16 p S b LVO.out.s LVO.out.b (by have := hcntS; unfold SS.cnt at this; omega))
            rw [← hrd.1, ← hrd.2] at HWT
            generalize S.readB b = bs at *
            generalize S.readE b = er at *
            clear hrd
            unfold ptr at HW
            go_wp2_with (first | rw [HGO.out, HWO.out] | simp only [hy] | fail)
            refine HW.out.mono ?_
            rintro e w7 ⟨v7, col7, rfl, ht7, hs7, hr7⟩
            have L7 := Lib.hid (LVO.out.next ht7 hs7)
            have R7 := Lib.hid (RVO.out.other ht7 (by omega) (by omega) (by omega))
            have O7 := Lib.hid (OB.out.keep ht7 (by omega))
            have y1 : w7.cell? ⟨go, 1, none⟩ = some (.int .i64 b) := O7.out.blk.cell 1
            have y2 : w7.cell? ⟨go, 2, none⟩ = some (.int .i64 f) := O7.out.blk.cell 2
            obtain ⟨A7, c7, rfl, _⟩ := row_len hr7
            have V7 := Lib.hid hr7
            clear ht7 hs7 HW LVO RVO OB
            have HW := Lib.hid (HWT.out w7 col7 R7.out.s R7.out.b)
            unfold ptr at HW
            go_wp2_with fail
            refine HW.out.mono ?_
            rintro e w8 ⟨v8, col8, rfl, ht8, hs8, hr8⟩
            have L8 := Lib.hid (L7.out.other ht8 (by omega) (by omega) (by omega))
            have R8 := Lib.hid (R7.out.next ht8 hs8)
            obtain ⟨A8, c8, rfl, _⟩ := row_len hr8
            have V7' := Lib.hid (BytesAt.of_own (V7.out.keep ht8 (by omega)).own)
            have V8 := Lib.hid (BytesAt.of_own hr8.own)
            clear ht8 hs8 hr8 HW L7 R7 V7
            have hee : (er != er) = false := by simp
            go_wp2_with fail
            refine (same_any A7 A8 _ _ c7 c8 bs bs w8 (by omega) V7'.out V8.out).mono ?_
            rintro e wd ⟨rfl, kd, rfl⟩
            rw [show (bs == bs) = true by simp]
            have L9 := Lib.hid (L8.out.below (below_drewN (Below.refl _ _) kd))
            have R9 := Lib.hid (R8.out.below (below_drewN (Below.refl _ _) kd))
            clear L8 R8
            go_wp2_with fail
            go_roundw
            case rel => first | exact ⟨j + 1, S.readS b, T.readS b, col8, by go_num, by omega, by omega, L9.out, R9.out, SM.out.readS b, CS.out.readS b, CT.out.readS b, by omega, by omega, by rw [hp1.1]; omega, by rw [hp1.1]; exact has_, by rw [hp2.1]; exact hat_⟩ | ((repeat apply Exists.intro); refine ⟨?_, rfl⟩; exact ⟨j + 1, S.readS b, T.readS b, col8, by go_num, by omega, by omega, L9.out, R9.out, SM.out.readS b, CS.out.readS b, CT.out.readS b, by omega, by omega, by rw [hp1.1]; omega, by rw [hp1.1]; exact has_, by rw [hp2.1]; exact hat_⟩)
            case measure => simp [intOf]; omega
        · by_cases h47 : y = 4 ∨ y = 5 ∨ y = 6 ∨ y = 7
          · rcases h47 with rfl | rfl | rfl | rfl
            all_goals
              go_wp2_with (first | rw [HGO.out, HWO.out] | simp only [hy] | fail)

              have RD := Lib.hid (RVO.out.below (below_drewN (Below.refl _ _) 1))
              rw [show wo.drewN 1 = wo.drew from rfl] at RD
              have LD := Lib.hid (LVO.out.below (below_drewN (Below.refl _ _) 1))
              rw [show wo.drewN 1 = wo.drew from rfl] at LD
              have OD := Lib.hid (OB.out.keep (lo := 16) (hi := 16) ((Tch.refl 16 16 col wo).drew) (by omega))
              have hlen0 : ∀ (cx : Col) (wx : World), Bk wx cx 0 0 go 32 #[.int .i64 x, .int .i64 b, .int .i64 f] → wx.cell? ⟨go, 1, none⟩ = some (.int .i64 b) ∧ wx.cell? ⟨go, 2, none⟩ = some (.int .i64 f) := fun cx wx h => ⟨h.blk.cell 1, h.blk.cell 2⟩
              refine region_mix [true, true, true, true, true, false, false] (S := fun w' => w'.cell? ⟨go, 1, none⟩ = some (.int .i64 b) ∧ w'.cell? ⟨go, 2, none⟩ = some (.int .i64 f)) (by kernel_rfl) (by kernel_rfl) (fun _ _ d _ _ h => by cases d <;> exact h) (hlen0 _ _ OD.out) ?_
              iterate 5 (refine mix_take (v := ?_) (by kernel_rfl) ?_ (fun K hK => ?_); rotate_left; (· (intro w' hSw; (try dsimp only at hSw); go_simp; with_reducible rfl)); simp only [Act.put, List.setIfInBounds_toArray, List.set_cons_zero, List.set_cons_succ]; refine hK _ ?_; clear hK K)
              refine mix_do (E := False) (fun K hK => ?_) (by kernel_rfl)
              go_simp
              refine (filled_all f wo.drew col LD.out.tidy).mono ?_
              rintro e w6 ⟨g6, rfl, hb6, hy6, hr6, hc6, hg6⟩
              have L6 := Lib.hid (LD.out.below hb6)
              have R6 := Lib.hid (RD.out.below hb6)
              have O6 := Lib.hid (OD.out.keep (lo := 16) (hi := 16) (Tch.of_below hb6) (by omega))
              have HW := Lib.hid (swrite_all w6 col w1.heap.size 16 p g6 256 S b (fillB f) L6.out.s L6.out.b (by have := hcntS; unfold SS.cnt at this; omega) hy6 (by omega))
              have hp1 := writeS_parts S b (fillB f)
              have hp2 := writeS_parts T b (fillB f)
              clear hb6 hy6 hr6 LD RD OD LVO RVO OB
              unfold ptr at HW
              refine hK.out _ _ ((hlen0 _ _ O6.out)) ?_
              clear hK K
              try simp only [Act.put, List.setIfInBounds_toArray, List.set_cons_zero, List.set_cons_succ]
              refine mix_do (E := False) (fun K hK => ?_) (by kernel_rfl)
              go_simp
              refine HW.out.mono ?_
              rintro e w7 ⟨col7, rfl, ht7, hs7⟩
              have L7 := Lib.hid (L6.out.next ht7 hs7)
              have R7 := Lib.hid (R6.out.other ht7 (by omega) (by omega) (by omega))
              have O7 := Lib.hid (O6.out.keep ht7 (by omega))
              clear ht7 hs7 L6 R6 O6 HW
              refine hK.out _ _ ((hlen0 _ _ O7.out)) ?_
              clear hK K
              try simp only [Act.put, List.setIfInBounds_toArray, List.set_cons_zero, List.set_cons_succ]
              refine mix_end ?_
              go_wp2_with fail
              have LD := Lib.hid (L7.out.below (below_drewN (Below.refl _ _) 1))
              have RD := Lib.hid (R7.out.below (below_drewN (Below.refl _ _) 1))
              rw [show w7.drewN 1 = w7.drew from rfl] at LD RD
              have OD := Lib.hid (O7.out.keep (lo := 16) (hi := 16) ((Tch.refl 16 16 col7 w7).drew) (by omega))
              refine region_mix [true, true, true, true, true, false, false] (S := fun w' => w'.cell? ⟨go, 1, none⟩ = some (.int .i64 b) ∧ w'.cell? ⟨go, 2, none⟩ = some (.int .i64 f)) (by kernel_rfl) (by kernel_rfl) (fun _ _ d _ _ h => by cases d <;> exact h) (hlen0 _ _ OD.out) ?_
              iterate 5 (refine mix_take (v := ?_) (by kernel_rfl) ?_ (fun K hK => ?_); rotate_left; (· (intro w' hSw; (try dsimp only at hSw); go_simp; with_reducible rfl)); simp only [Act.put, List.setIfInBounds_toArray, List.set_cons_zero, List.set_cons_succ]; refine hK _ ?_; clear hK K)
              refine mix_do (E := False) (fun K hK => ?_) (by kernel_rfl)
              go_simp
              refine (filled_all f w7.drew col7 LD.out.tidy).mono ?_
              rintro e w8 ⟨g8, rfl, hb8, hy8, hr8, hc8, hg8⟩
              have L8 := Lib.hid (LD.out.below hb8)
              have R8 := Lib.hid (RD.out.below hb8)
              have O8 := Lib.hid (OD.out.keep (lo := 16) (hi := 16) (Tch.of_below hb8) (by omega))
              have HW := Lib.hid (swrite_all w8 col7 w1.heap.size 96 r g8 256 T b (fillB f) R8.out.s R8.out.b (by have := hcntT; unfold SS.cnt at this; omega) hy8 (by omega))
              clear hb8 hy8 hr8 LD RD OD L7 R7 O7
              unfold ptr at HW
              refine hK.out _ _ ((hlen0 _ _ O8.out)) ?_
              clear hK K
              try simp only [Act.put, List.setIfInBounds_toArray, List.set_cons_zero, List.set_cons_succ]
              refine mix_do (E := False) (fun K hK => ?_) (by kernel_rfl)
              go_simp
              refine HW.out.mono ?_
              rintro e w9 ⟨col9, rfl, ht9, hs9⟩
              have L9 := Lib.hid (L8.out.other ht9 (by omega) (by omega) (by omega))
              have R9 := Lib.hid (R8.out.next ht9 hs9)
              have O9 := Lib.hid (O8.out.keep ht9 (by omega))
              clear ht9 hs9 L8 R8 O8 HW
              refine hK.out _ _ ((hlen0 _ _ O9.out)) ?_
              clear hK K
              try simp only [Act.put, List.setIfInBounds_toArray, List.set_cons_zero, List.set_cons_succ]
              refine mix_end ?_
              go_wp2_with fail
              go_roundw
              case rel => first | exact ⟨j + 1, S.writeS b (fillB f), T.writeS b (fillB f), col9, by go_num, by omega, by omega, L9.out, R9.out, SM.out.writeS _ _, CS.out.writeS _ _, CT.out.writeS _ _, by omega, by omega, by rw [hp1.1]; omega, by rw [hp1.1]; exact has_, by rw [hp2.1]; exact hat_⟩ | ((repeat apply Exists.intro); refine ⟨?_, rfl⟩; exact ⟨j + 1, S.writeS b (fillB f), T.writeS b (fillB f), col9, by go_num, by omega, by omega, L9.out, R9.out, SM.out.writeS _ _, CS.out.writeS _ _, CT.out.writeS _ _, by omega, by omega, by rw [hp1.1]; omega, by rw [hp1.1]; exact has_, by rw [hp2.1]; exact hat_⟩)
              case measure => simp [intOf]; omega
          · by_cases h9 : y = 9 ∨ y = 10
            · rcases h9 with rfl | rfl
              all_goals
                have hp1 := back_parts S f
                have hp2 := back_parts T f
                have HW := Lib.hid (sback_all wo col w1.heap.size 16 p S f LVO.out.s)
                unfold ptr at HW
                go_wp2_with (first | rw [HGO.out, HWO.out] | simp only [hy] | fail)
                refine HW.out.mono ?_
                rintro e w7 ⟨col7, rfl, ht7, hs7⟩
                have L7 := Lib.hid (LVO.out.next ht7 hs7)
                have R7 := Lib.hid (RVO.out.other ht7 (by omega) (by omega) (by omega))
                have O7 := Lib.hid (OB.out.keep ht7 (by omega))
                have y1 : w7.cell? ⟨go, 1, none⟩ = some (.int .i64 b) := O7.out.blk.cell 1
                have y2 : w7.cell? ⟨go, 2, none⟩ = some (.int .i64 f) := O7.out.blk.cell 2
                clear ht7 hs7 HW LVO RVO OB
                have HW := Lib.hid (sback_all w7 col7 w1.heap.size 96 r T f R7.out.s)
                unfold ptr at HW
                go_wp2_with fail
                refine HW.out.mono ?_
                rintro e w8 ⟨col8, rfl, ht8, hs8⟩
                have L8 := Lib.hid (L7.out.other ht8 (by omega) (by omega) (by omega))
                have R8 := Lib.hid (R7.out.next ht8 hs8)
                clear ht8 hs8 HW L7 R7
                go_wp2_with fail
                go_roundw
                case rel => first | exact ⟨j + 1, S.back f, T.back f, col8, by go_num, by omega, by omega, L8.out, R8.out, SM.out.back f, CS.out.back f, CT.out.back f, by omega, by omega, by rw [hp1.1]; omega, by rw [hp1.1]; exact has_, by rw [hp2.1]; exact hat_⟩ | ((repeat apply Exists.intro); refine ⟨?_, rfl⟩; exact ⟨j + 1, S.back f, T.back f, col8, by go_num, by omega, by omega, L8.out, R8.out, SM.out.back f, CS.out.back f, CT.out.back f, by omega, by omega, by rw [hp1.1]; omega, by rw [hp1.1]; exact has_, by rw [hp2.1]; exact hat_⟩)
                case measure => simp [intOf]; omega
            · by_cases h11 : y = 11
              · subst h11
                have hp1 := commit_parts S
                have hp2 := commit_parts T
                have HW := Lib.hid (scommit_any wo col w1.heap.size 16 p S LVO.out.s)
                unfold ptr at HW
                go_wp2_with (first | rw [HGO.out, HWO.out] | simp only [hy] | fail)
                refine HW.out.mono ?_
                rintro e w7 ⟨v7, col7, rfl, ht7, hs7, _⟩
                have L7 := Lib.hid (LVO.out.next ht7 hs7)
                have R7 := Lib.hid (RVO.out.other ht7 (by omega) (by omega) (by omega))
                have O7 := Lib.hid (OB.out.keep ht7 (by omega))
                have y1 : w7.cell? ⟨go, 1, none⟩ = some (.int .i64 b) := O7.out.blk.cell 1
                have y2 : w7.cell? ⟨go, 2, none⟩ = some (.int .i64 f) := O7.out.blk.cell 2
                clear ht7 hs7 HW LVO RVO OB
                have HW := Lib.hid (scommit_any w7 col7 w1.heap.size 96 r T R7.out.s)
                unfold ptr at HW
                go_wp2_with fail
                refine HW.out.mono ?_
                rintro e w8 ⟨v8, col8, rfl, ht8, hs8, _⟩
                have L8 := Lib.hid (L7.out.other ht8 (by omega) (by omega) (by omega))
                have R8 := Lib.hid (R7.out.next ht8 hs8)
                clear ht8 hs8 HW L7 R7
                go_wp2_with fail
                go_roundw
                case rel => first | exact ⟨j + 1, S.commit, T.commit, col8, by go_num, by omega, by omega, L8.out, R8.out, SM.out.commit, CS.out.commit, CT.out.commit, by omega, by omega, by rw [hp1.1]; omega, by rw [hp1.1]; exact has_, by rw [hp2.1]; exact hat_⟩ | ((repeat apply Exists.intro); refine ⟨?_, rfl⟩; exact ⟨j + 1, S.commit, T.commit, col8, by go_num, by omega, by omega, L8.out, R8.out, SM.out.commit, CS.out.commit, CT.out.commit, by omega, by omega, by rw [hp1.1]; omega, by rw [hp1.1]; exact has_, by rw [hp2.1]; exact hat_⟩)
                case measure => simp [intOf]; omega
              · by_cases h13 : y = 13 ∨ y = 14
                · rcases h13 with rfl | rfl
                  all_goals
                    have hp1 := home_parts S b
                    have hp2 := home_parts T b
                    have HW := Lib.hid (shome_all wo col w1.heap.size 16 p S b LVO.out.s LVO.out.b (by omega))
                    unfold ptr at HW
                    go_wp2_with (first | rw [HGO.out, HWO.out] | simp only [hy] | fail)
                    refine HW.out.mono ?_
                    rintro e w7 ⟨col7, rfl, ht7, hs7⟩
                    have L7 := Lib.hid (LVO.out.next ht7 hs7)
                    have R7 := Lib.hid (RVO.out.other ht7 (by omega) (by omega) (by omega))
                    have O7 := Lib.hid (OB.out.keep ht7 (by omega))
                    have y1 : w7.cell? ⟨go, 1, none⟩ = some (.int .i64 b) := O7.out.blk.cell 1
                    have y2 : w7.cell? ⟨go, 2, none⟩ = some (.int .i64 f) := O7.out.blk.cell 2
                    clear ht7 hs7 HW LVO RVO OB
                    have HW := Lib.hid (shome_all w7 col7 w1.heap.size 96 r T b R7.out.s R7.out.b (by omega))
                    unfold ptr at HW
                    go_wp2_with fail
                    refine HW.out.mono ?_
                    rintro e w8 ⟨col8, rfl, ht8, hs8⟩
                    have L8 := Lib.hid (L7.out.other ht8 (by omega) (by omega) (by omega))
                    have R8 := Lib.hid (R7.out.next ht8 hs8)
                    clear ht8 hs8 HW L7 R7
                    go_wp2_with fail
                    go_roundw
                    case rel => first | exact ⟨j + 1, S.home b, T.home b, col8, by go_num, by omega, by omega, L8.out, R8.out, SM.out.home b, CS.out.home b, CT.out.home b, by omega, by omega, by omega, by rw [hp1.2.2.2.2.2]; exact has_, by rw [hp2.2.2.2.2.2]; exact hat_⟩ | ((repeat apply Exists.intro); refine ⟨?_, rfl⟩; exact ⟨j + 1, S.home b, T.home b, col8, by go_num, by omega, by omega, L8.out, R8.out, SM.out.home b, CS.out.home b, CT.out.home b, by omega, by omega, by omega, by rw [hp1.2.2.2.2.2]; exact has_, by rw [hp2.2.2.2.2.2]; exact hat_⟩)
                    case measure => simp [intOf]; omega
                · have e0 : (y == 0) = false := by simp; omega
                  have e1 : (y == 1) = false := by simp; omega
                  have e2 : (y == 2) = false := by simp; omega
                  have e3 : (y == 3) = false := by simp; omega
                  have e4 : (y == 4) = false := by simp; omega
                  have e5 : (y == 5) = false := by simp; omega
                  have e6 : (y == 6) = false := by simp; omega
                  have e7 : (y == 7) = false := by simp; omega
                  have e9 : (y == 9) = false := by simp; omega
                  have e10 : (y == 10) = false := by simp; omega
                  have e11 : (y == 11) = false := by simp; omega
                  have e13 : (y == 13) = false := by simp; omega
                  have e14 : (y == 14) = false := by simp; omega
                  go_wp2_with (first | rw [HGO.out, HWO.out] | simp only [hy] | fail)
                  go_roundw
                  case rel => first | exact ⟨j + 1, S, T, col, by go_num, by omega, by omega, LVO.out, RVO.out, SM.out, CS.out, CT.out, by omega, by omega, by omega, has_, hat_⟩ | ((repeat apply Exists.intro); refine ⟨?_, rfl⟩; exact ⟨j + 1, S, T, col, by go_num, by omega, by omega, LVO.out, RVO.out, SM.out, CS.out, CT.out, by omega, by omega, by omega, has_, hat_⟩)
                  case measure => simp [intOf]; omega
      · have hcase : (j = 1500 ∧ (j : Int) < (len : Int)) ∨ j = len := by omega
        rcases hcase with ⟨rfl, i1⟩ | rfl
        all_goals
          go_wp2_with fail
          go_meet
          exact ⟨S, T, col, LV.out, RV.out, SM.out, has_, hat_, by omega⟩
  case rest =>
    clear L5 R5 SM0 CS0 CT0
    obtain ⟨S, T, col, hL, hR, hsim, has_, hat_, hpl⟩ := hcut
    have LV := Lib.hid hL
    have RV := Lib.hid hR
    have hdk := hL.s.disk
    rw [has_] at hdk
    have HP := Lib.hid (dpending_any wc col w1.heap.size 24 q S.d hdk hL.tidy)
    have HPE := Lib.hid hsim.pend
    clear hL hR hsim hdk has_
    unfold ptr at HP
    go_wp2_with fail
    refine HP.out.mono ?_
    rintro e w7 ⟨v7, col7, rfl, ht7, ho7⟩
    obtain ⟨A7, c7, rfl, _⟩ := ho7.form
    have O7 := Lib.hid ho7
    have R7 := Lib.hid (RV.out.same ht7)
    have hdk := R7.out.s.disk
    rw [hat_] at hdk
    have HP := Lib.hid (dpending_any w7 col7 w1.heap.size 104 q2 T.d hdk R7.out.tidy)
    rw [← HPE.out] at HP
    clear ht7 ho7 hdk LV RV hat_
    unfold ptr at HP
    go_wp2_with fail
    refine HP.out.mono ?_
    rintro e w8 ⟨v8, col8, rfl, ht8, ho8⟩
    obtain ⟨A8, c8, rfl, _⟩ := ho8.form
    have R8 := Lib.hid (R7.out.same ht8)
    have W7 := Lib.hid (WrO.reads (O7.out.keep ht8 (by omega)))
    have W8 := Lib.hid (WrO.reads ho8)
    clear ht8 ho8 O7 R7 HP
    go_wp2_with fail
    refine (sameWrites_any A7 A8 S.d.pend.length c7 c8 S.d.pend w8 (by omega) rfl W7.out W8.out).mono ?_
    rintro e wd ⟨rfl, kd, rfl⟩
    go_wp2_with fail
    go_ret
    exact ⟨rfl, below_all B1.out B1.out.size (below_drewN R8.out.end kd)⟩
theorem storeSees_walk (w : World) (a0 : Int) (w0 : (Lit.int .i64 a0).wf = true) (a1 : Int) (w1 : (Lit.int .i64 a1).wf = true) (a2 : Option Addr) (len2 cap2 : Nat) (gs2 : List Op3) (ro2 : RowAt w a2 (len2 * 3) (ocells gs2)) (lc2 : len2 ≤ cap2) (ml2 : cap2 ≤ maxLen) (ha2 : a2 = none → len2 = 0 ∧ cap2 = 0) (hl2 : gs2.length = len2) (ok2 : ∀ g ∈ gs2, OpOk g) :
    Calls Try.prog 5 #[.int .i64 a0, .int .i64 a1, .slice a2 len2 cap2] w fun e w' => e = .returned (.bool true) ∧ Below w.heap.size w w' := storeSees_run w a0 a1 (bounds_i64 w0) (bounds_i64 w1) a2 len2 cap2 gs2 ro2 lc2 ml2 hl2
end Go.Proofs.Ytomoliickggghaa.Mem

namespace Go.Proofs.Ytomoliickggghaa.storeSees
open Go.ChangeShapes Go.WideShapes Go.ChangeAt Go.RowKit Go.Joins
set_option linter.unusedVariables false
set_option linter.unusedSimpArgs false

open Go.Proofs.Ytomoliickggghaa.Mem
theorem own : ownKnob Try.prog.godebug = none := by kernel_rfl
theorem laidOut : laidOutB Try.prog = true := by kernel_rfl

set_option maxRecDepth 100000 in
theorem lifted (os : Os) (started : os.Started) (H : Type) (enc : TypeId × Value → H) :
    ReturnsInHanded {} Try.checked os 5 .any (Rows.storeSeesSpec.pre6 enc Try.prog Try.f5 Rows.storeSeesRow.domain false) (Rows.storeSeesSpec.post enc Try.prog Try.f5 false true false false) := by
  refine returnsInHanded_of_change (C := Try.checked) own started (by kernel_rfl) Try.func5
    (ChangeSpec.witness6 (enc := enc) (C := Try.checked) false ⟨#[], #[.int .i64 0, .int .i64 0, .slice none 0 0], []⟩ 8 (by kernel_rfl) (by kernel_rfl) (by kernel_rfl) (by kernel_rfl)) ?_
  intro W base args ds gs before hval0 hW hcnd _
  have hval : ∀ (j : Nat) t v, Try.f5.params[j]? = some t → args[j]? = some v → Value.okWide Try.prog W .any base t v := hval0
  have hW' := hW
  obtain ⟨p, q, hA0, hV, rfl, hfz, hnd⟩ := hW
  have hA : DataW.TrodAll enc Try.prog W 0 (fun _ => true) true Try.f5.params.toList args.toList ds p := hA0
  rw [Try.params5] at hA hval
  obtain ⟨v0, vs0, d0, ds0, p0, q0, hargs, rfl, rfl, h0, r0⟩ := trodAll_cons hA
  obtain ⟨v1, vs1, d1, ds1, p1, q1, rfl, rfl, rfl, h1, r1⟩ := trodAll_cons r0
  obtain ⟨v2, vs2, d2, ds2, p2, q2, rfl, rfl, rfl, h2, r2⟩ := trodAll_cons r1
  obtain ⟨rfl, rfl, rfl⟩ := trodAll_nil r2
  obtain rfl : args = #[v0, v1, v2] := by cases args; simp_all
  obtain ⟨rfl, rfl⟩ := trodVars_none hV
  obtain ⟨a0, rfl, rfl, rfl, w0⟩ := open_int Try.underlying3 (hval 0 3 v0 rfl rfl) h0
  obtain ⟨a1, rfl, rfl, rfl, w1⟩ := open_int Try.underlying3 (hval 1 3 v1 rfl rfl) h1
  have k2 := h2
  have lt2 : ∀ x ∈ p2, x.block < W.heap.size := by obtain ⟨m, hm⟩ := k2; exact DataW.trod_lt m _ _ _ hm
  obtain ⟨a2, len2, cap2, gs2, rfl, ro2, lc2, ml2, ha2, hl2, ok2⟩ := open_ops (hval 2 22 v2 rfl rfl) h2
  clear hA0 hval0
  refine (storeSees_walk W a0 w0 a1 w1 a2 len2 cap2 gs2 ro2 lc2 ml2 ha2 hl2 ok2).mono fun e W' ⟨he, bel⟩ => ?_
  subst he
  exact ⟨_, rfl, _, _, _, [], _, [], hW', trodAll_mk1 (shut_bool Try.underlying4 _), (trodAll_cons_mk (shut_int Try.underlying3 w0) (trodAll_cons_mk (shut_int Try.underlying3 w1) (trodAll_cons_mk (Below.trod laidOut (by kernel_rfl) (of_decide_eq_true (by kernel_rfl)) k2 bel lt2) trodAll_mk0))), rfl, bel.frame _, fun h => by cases h⟩

theorem over : Rows.storeSeesRow.holds Try.pinned (OpenSpec.ofChange Rows.storeSeesSpec) :=
  OpenClaim.holds_of_wide 5 Try.f5 rfl rfl rfl rfl rfl rfl rfl ⟨rfl, rfl, rfl, rfl, rfl⟩ rfl rfl rfl rfl rfl (by kernel_rfl) Try.func5 (by kernel_rfl)
    (of_decide_eq_true (by kernel_rfl)) (by unfold Func.isWrapper; first | (rw [if_pos (by decide +kernel)]; kernel_rfl) | (rw [if_neg (by decide +kernel)]; exact ⟨rfl, rfl⟩))
    (fun os started H enc _ => lifted os started H enc)

theorem proved : Rows.StoreSeesSaid := over
#print axioms proved
end Go.Proofs.Ytomoliickggghaa.storeSees
