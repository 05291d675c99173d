
/-
  THE ROW of hayricklaw06.StorePlays: for every input the law returns true, and its arguments read as they did. No condition.
-/
import Derived.Test.YtomoliickggghaaKR6N15
import Derived.Test.YtomoliickggghaaKR6N7
import Derived.Deep.DeepCutAuto
import Derived.Deep.CutBlock
import Derived.Test.YtomoliickggghaaRows
import Derived.ProofKit
import Derived.OpenShut
import Derived.ShutString
import Derived.ChangeOld
import Derived.SizedLaws
import Derived.Lib.SmallJoins
namespace Go.Proofs.Ytomoliickggghaa.Mem
open Go.RowKit Go.Proofs.Ytomoliickggghaa Go.Proofs.Ytomoliickggghaa.Wire
set_option maxHeartbeats 16000000
set_option maxRecDepth 100000
set_option linter.unusedVariables false
set_option linter.unusedSimpArgs false

/-- No stores: a shard's or a room's number that may not be. -/
theorem storePlays_no (w : World) (sh rm : Int) (A : Option Addr) (len cap : Nat) (hb : sh < 1 ∨ 16 < sh ∨ rm < 1 ∨ 256 < rm) :
    Calls Try.prog 8 #[.int .i64 sh, .int .i64 rm, .slice A len cap] w fun e w' => e = .returned (.bool true) ∧ Below w.heap.size w w' := by
  have HA := Lib.hid (awake_any w)
  have HB := Lib.hid hb
  clear hb
  go_enter Try.func8, Try.ntmps8
  go_wp2_with fail
  refine HA.out.mono ?_
  rintro e w1 ⟨rfl, hb1⟩
  have B1 := Lib.hid hb1
  have HD := Lib.hid (dnew_any w1 (fun _ => 0) w1.heap.size 24 24 28 128 (by omega) (by omega) (Nat.le_refl _) (by omega) (by omega) (by omega))
  rw [show ((128 : Nat) : Int) = 128 from rfl] at HD
  clear HA hb1
  go_wp2_with fail
  refine HD.out.mono ?_
  rintro e w2 ⟨dp, col2, rfl, ht2, hd2, _⟩
  have T2 := Lib.hid ht2
  have D2 := Lib.hid hd2
  have HD2 := Lib.hid (rdnew_any w2 col2 w1.heap.size 132 128 (by omega) (by omega) ht2.size (by omega))
  rw [show ((128 : Nat) : Int) = 128 from rfl] at HD2
  clear HD ht2 hd2
  unfold ptr
  go_wp2_with fail
  refine HD2.out.mono ?_
  rintro e w3 ⟨dq, col3, rfl, ht3, hd3, _⟩
  have T3 := Lib.hid ((T2.out.mono (lo' := 2) (hi' := 300) (by omega) (by omega)).trans (ht3.mono (by omega) (by omega)))
  have D3 := Lib.hid (D2.out.keep ht3 (by omega) (by omega))
  have E3 := Lib.hid hd3
  have HS := Lib.hid (snew_no w3 col3 w1.heap.size 24 dp _ sh rm D3.out HB.out)
  have HR := Lib.hid (rnew_no w3 col3 w1.heap.size 132 dq _ sh rm E3.out (by show 1 ≤ (List.replicate 128 zero256).length; simp) HB.out)
  clear HD2 ht3 hd3 T2 D2 HB
  unfold ptr at HS HR ⊢
  go_wp2_with fail
  refine HS.out.mono ?_
  rintro e w4 ⟨rfl, rfl⟩
  go_wp2_with fail
  refine HR.out.mono ?_
  rintro e w4 ⟨rfl, rfl⟩
  clear HS HR
  go_wp2_with fail
  go_loopw [16, 17, 18, 19, 20] (fun ii _ _ _ _ wr => ii = .int .i64 0 ∧ wr = w3) (fun _ _ _ _ _ _ => 0)
  case atStart => exact ⟨rfl, rfl⟩
  case round =>
    obtain ⟨rfl, rfl⟩ := hrel
    obtain ⟨A1, c1, k1, k2, k3, k4⟩ := E3.out.pendAt
    have k1' : wr.cell? ⟨dq, 1, none⟩ = some (.slice A1 0 c1) := k1
    obtain ⟨wd, hwd⟩ : ∃ wd, wr.drew = wd := ⟨_, rfl⟩
    have td : Tch 16 16 col3 col3 wr wd := by rw [← hwd]; exact (Tch.refl _ _ _ _).drew
    have HP := Lib.hid (dpending_any wd col3 w1.heap.size 24 dp _ (D3.out.keep td (by omega) (by omega)) (td.tidy (T3.out.tidy (fun _ _ => rfl))))
    have y1 : wd.cell? ⟨dq, 1, none⟩ = some (.slice A1 0 c1) := by rw [← hwd]; exact k1'
    have EP := Lib.hid (E3.out.keep td (by omega) (by omega))
    have TP := Lib.hid (T3.out.trans (td.any (Nat.le_refl _)))
    have HWD := Lib.hid hwd
    clear td hwd k1 k1' k2 k3 D3 E3 T3
    unfold ptr at HP
    go_upto_region 16 with fail
    have hNS : wd.cell? ⟨dq, 1, none⟩ = some (.slice A1 0 c1) := y1
    refine region_need_at (v := wd) (fun w' => w'.cell? ⟨dq, 1, none⟩ = some (.slice A1 0 c1)) (fun _ => true) HWD.out (by kernel_rfl) ?_
    refine nw_take (i := 0) (v := ?_) rfl (by kernel_rfl) (by kernel_rfl) (fun _ _ d _ _ h => by cases d <;> exact h) (by exact hNS) (by kernel_rfl) ?_ (fun K hK => ?_); rotate_left; (· (intro w' hSw; (try dsimp only at hSw); go_simp; with_reducible rfl)); simp only [Act.put, List.setIfInBounds_toArray, List.set_cons_zero, List.set_cons_succ]; refine hK _ ?_; clear hK K
    refine nw_take (i := 2) (v := ?_) rfl (by kernel_rfl) (by kernel_rfl) (fun _ _ d _ _ h => by cases d <;> exact h) (by exact hNS) (by kernel_rfl) ?_ (fun K hK => ?_); rotate_left; (· (intro w' hSw; (try dsimp only at hSw); go_simp; with_reducible rfl)); simp only [Act.put, List.setIfInBounds_toArray, List.set_cons_zero, List.set_cons_succ]; refine hK _ ?_; clear hK K
    refine nw_take (i := 3) (v := ?_) rfl (by kernel_rfl) (by kernel_rfl) (fun _ _ d _ _ h => by cases d <;> exact h) (by exact hNS) (by kernel_rfl) ?_ (fun K hK => ?_); rotate_left; (· (intro w' hSw; (try dsimp only at hSw); go_simp; with_reducible rfl)); simp only [Act.put, List.setIfInBounds_toArray, List.set_cons_zero, List.set_cons_succ]; refine hK _ ?_; clear hK K
    refine nw_take (i := 4) (v := ?_) rfl (by kernel_rfl) (by kernel_rfl) (fun _ _ d _ _ h => by cases d <;> exact h) (by exact hNS) (by kernel_rfl) ?_ (fun K hK => ?_); rotate_left; (· (intro w' hSw; (try dsimp only at hSw); go_simp; with_reducible rfl)); simp only [Act.put, List.setIfInBounds_toArray, List.set_cons_zero, List.set_cons_succ]; refine hK _ ?_; clear hK K
    refine nw_take (i := 5) (v := ?_) rfl (by kernel_rfl) (by kernel_rfl) (fun _ _ d _ _ h => by cases d <;> exact h) (by exact hNS) (by kernel_rfl) ?_ (fun K hK => ?_); rotate_left; (· (intro w' hSw; (try dsimp only at hSw); go_simp; with_reducible rfl)); simp only [Act.put, List.setIfInBounds_toArray, List.set_cons_zero, List.set_cons_succ]; refine hK _ ?_; clear hK K
    clear hNS
    refine nw_one (i := 1) (E := False) rfl (by kernel_rfl) (fun K hK => ?_) (by kernel_rfl)
    go_simp
    refine HP.out.mono ?_
    rintro e w7 ⟨v7, col7, rfl, ht7, ho7⟩
    obtain ⟨A7, c7, rfl, _⟩ := ho7.form
    have W7 := Lib.hid ho7.reads
    have T7 := Lib.hid (TP.out.trans (ht7.any (Nat.le_refl _)))
    have y2 : w7.cell? ⟨dq, 1, none⟩ = some (.slice A1 0 c1) := (World.cell?_of_block (a := ⟨dq, 1, none⟩) (ht7.block dq (World.block_lt_of_cell? _ _ y1) (by omega))).trans y1
    clear ht7 ho7 HP TP
    refine hK.out _ _ ((fun _ => y2)) ?_
    clear hK K
    try simp only [Act.put, List.setIfInBounds_toArray, List.set_cons_zero, List.set_cons_succ]
    refine nw_one (i := 6) (E := False) rfl (by kernel_rfl) (fun K hK => ?_) (by kernel_rfl)
    go_simp
    refine (sameWrites_any A7 A1 0 c7 c1 [] w7 (by omega) rfl (fun i n bs h => by cases h) (fun i n bs h => by cases h)).mono ?_
    rintro e we ⟨rfl, kd, rfl⟩
    have y3 : (w7.drewN kd).cell? ⟨dq, 1, none⟩ = some (.slice A1 0 c1) := y2
    refine hK.out _ _ ((fun _ => y3)) ?_
    clear hK K
    try simp only [Act.put, List.setIfInBounds_toArray, List.set_cons_zero, List.set_cons_succ]
    refine nw_one (i := 7) (E := False) rfl (by kernel_rfl) (fun K hK => ?_) (by kernel_rfl)
    go_simp
    refine hK.out _ _ ((fun _ => y3)) ?_
    clear hK K
    try simp only [Act.put, List.setIfInBounds_toArray, List.set_cons_zero, List.set_cons_succ]
    refine nw_end (by kernel_rfl) ?_
    go_wp2_with fail
    go_ret
    exact ⟨rfl, below_all B1.out B1.out.size (below_drewN (T7.out.below (Nat.le_refl _) (fun i _ => by omega)) kd)⟩
theorem storePlays_yes (w : World) (sh rm : Nat) (A : Option Addr) (len cap : Nat) (gs : List Op3) (ro : RowAt w A (len * 3) (ocells gs)) (lc : len ≤ cap) (ml : cap ≤ maxLen) (hl : gs.length = len) (hs1 : 1 ≤ sh) (hs2 : sh ≤ 16) (hr1 : 1 ≤ rm) (hr2 : rm ≤ 256) :
    Calls Try.prog 8 #[.int .i64 sh, .int .i64 rm, .slice A len cap] w fun e w' => e = .returned (.bool true) ∧ Below w.heap.size w w' := by
  have HA := Lib.hid (awake_any w)
  have RO := Lib.hid ro
  have hml : cap ≤ 9223372036854775807 := by unfold maxLen at ml; omega
  clear ro ml
  go_enter Try.func8, Try.ntmps8
  go_wp2_with fail
  refine HA.out.mono ?_
  rintro e w1 ⟨rfl, hb1⟩
  have B1 := Lib.hid hb1
  have HD := Lib.hid (dnew_any w1 (fun _ => 0) w1.heap.size 24 24 28 128 (by omega) (by omega) (Nat.le_refl _) (by omega) (by omega) (by omega))
  rw [show ((128 : Nat) : Int) = 128 from rfl] at HD
  clear HA hb1
  go_wp2_with fail
  refine HD.out.mono ?_
  rintro e w2 ⟨dp, col2, rfl, ht2, hd2, _⟩
  have T2 := Lib.hid ht2
  have D2 := Lib.hid hd2
  have HD2 := Lib.hid (rdnew_any w2 col2 w1.heap.size 132 128 (by omega) (by omega) ht2.size (by omega))
  rw [show ((128 : Nat) : Int) = 128 from rfl] at HD2
  clear HD ht2 hd2
  unfold ptr
  go_wp2_with fail
  refine HD2.out.mono ?_
  rintro e w3 ⟨dq, col3, rfl, ht3, hd3, _⟩
  have T3 := Lib.hid ((T2.out.mono (lo' := 2) (hi' := 300) (by omega) (by omega)).trans (ht3.mono (by omega) (by omega)))
  have N22 := Lib.hid (((NoCol.zero (r := 22) (by omega)).keep T2.out (by omega) (by omega)).keep ht3 (by omega) (by omega))
  have E3 := Lib.hid hd3
  have HS := Lib.hid (snew_any w3 col3 w1.heap.size 16 dp sh rm _ (D2.out.keep ht3 (by omega) (by omega)) (by omega) T3.out.size (T3.out.tidy (fun _ _ => rfl)) (fun b _ => N22.out b) hs1 hs2 hr1 hr2)
  clear HD2 ht3 hd3 T2 D2 N22
  unfold ptr at HS ⊢
  go_wp2_with fail
  refine HS.out.mono ?_
  rintro e w4 ⟨p, col4, rfl, ht4, hs4, _⟩
  have E4 := Lib.hid (E3.out.keep ht4 (by omega) (by omega))
  have T4 := Lib.hid (T3.out.trans (ht4.mono (by omega) (by omega)))
  have S4 := Lib.hid hs4
  have HR := Lib.hid (rnew_any w4 col4 w1.heap.size 128 dq sh rm (RD.fresh 128) E4.out (by omega) (by show 1 ≤ (List.replicate 128 zero256).length; simp) T4.out.size hs1 hs2 hr1 hr2)
  rw [show (RD.fresh 128).l.length = 128 by show (List.replicate 128 zero256).length = 128; simp] at HR
  clear ht4 hs4 T3 E3 HS
  unfold ptr at HR ⊢
  go_wp2_with fail
  refine HR.out.mono ?_
  rintro e w5 ⟨q, col5, rfl, ht5, hs5, _⟩
  have L5 := Lib.hid (show Duo none w1 w5 col5 p q dq (SS.fresh (DS.fresh 128 dp) sh rm) (RS.fresh (RD.fresh 128) 128 sh rm) from ⟨fun x e => by (cases e), T4.out.trans (ht5.mono (by omega) (by omega)), S4.out.keep ht5 (by omega) (by omega), hs5⟩)
  have RL0 := Lib.hid (Rel.fresh dp 128 sh rm hs1 hr1)
  obtain ⟨S0, hS0⟩ : ∃ S0, SS.fresh (DS.fresh 128 dp) sh rm = S0 := ⟨_, rfl⟩
  obtain ⟨R0, hR0⟩ : ∃ R0, RS.fresh (RD.fresh 128) 128 sh rm = R0 := ⟨_, rfl⟩
  have hf0 : S0.cnt = 0 := by rw [← hS0]; rfl
  have hp0 : S0.d.pend.length + S0.d.ops = 0 := by rw [← hS0]; rfl
  have hq0 : R0.d.n = 0 := by rw [← hR0]; rfl
  have hn0 : S0.d.N = 128 := by rw [← hS0]; rfl
  have ha0 : S0.d.at_ = dp := by rw [← hS0]; rfl
  rw [hS0, hR0] at L5 RL0
  clear hS0 hR0 ht5 hs5 HR E4 T4 S4
  unfold ptr
  go_wp2_with fail
  go_loopw [16, 17, 18, 19, 20] (fun ii _ _ _ _ wr => ∃ (j : Nat) (S : SS) (R : RS) (col : Col), ii = .int .i64 j ∧ j ≤ len ∧ j ≤ 1500 ∧ Duo none w1 wr col p q dq S R ∧ Rel S R ∧ S.cnt ≤ j ∧ S.d.pend.length + S.d.ops ≤ 2 * j ∧ R.d.n ≤ j ∧ S.d.N = 128 ∧ S.d.at_ = dp) (fun ii _ _ _ _ _ => 1500 - (intOf ii).toNat)
  case atStart => exact ⟨0, S0, R0, col5, rfl, by omega, by omega, L5.out, RL0.out, by omega, by omega, by omega, hn0, ha0⟩
  case round =>
    clear L5 RL0 hf0 hp0 hq0 hn0 ha0
    obtain ⟨j, S, R, col, rfl, hj, hj2, hL, hrl, hcnt, hpo, hrn, hN, hat_⟩ := hrel
    have LV := Lib.hid hL
    have RL := Lib.hid hrl
    have hpl : R.d.pend.length ≤ 2 * j := by rw [hrl.pend]; omega
    clear hL hrl
    by_cases hlt : j < len ∧ j < 1500
    · obtain ⟨hlt, hlt2⟩ := hlt
      have RR := Lib.hid (LV.out.old (RO.out.below B1.out))
      obtain ⟨a, x, b, f, hAe, hgk, k0, k1, k2⟩ := op3_at RR.out hl hlt
      subst hAe
      have i1 : (j : Int) < (len : Int) := by omega
      have i2 : (j : Int) < 1500 := by omega
      obtain ⟨wo, hwo⟩ : ∃ wo, wr.alloc (.cells #[.int .i64 x, .int .i64 b, .int .i64 f] 32) = wo := ⟨_, rfl⟩
      obtain ⟨go, hgo⟩ : ∃ go, wr.heap.size = go := ⟨_, rfl⟩
      have BO := Lib.hid (show Below wr.heap.size wr wo from hwo ▸ (Below.refl wr.heap.size wr).alloc (Nat.le_refl _) _)
      obtain ⟨colo, hcolo⟩ : ∃ colo, paint col go 7 = colo := ⟨_, rfl⟩
      have tO : Tch 16 16 col colo wr wo := by
        rw [← hcolo]
        exact (Tch.of_below BO.out).paint (by omega) (by rw [← hwo, ← hgo]; simp) (by omega)
      have LVO := Lib.hid (show Duo (some (go, #[.int .i64 x, .int .i64 b, .int .i64 f])) w1 wo colo p q dq S R from by
        have h0 := LV.out.same tO
        exact ⟨fun y e => by injection e with e; subst e; exact ⟨by rw [← hwo, ← hgo]; exact Blk.new _ _ _, by rw [← hcolo]; exact paint_self _ _ _, Nat.zero_le _⟩, h0.t, h0.s, h0.r⟩)
      have z0 : wo.cell? ⟨go, 0, none⟩ = some (.int .i64 x) := (LVO.out.k _ rfl).blk.cell 0
      have z1 : wo.cell? ⟨go, 1, none⟩ = some (.int .i64 b) := (LVO.out.k _ rfl).blk.cell 1
      have z2 : wo.cell? ⟨go, 2, none⟩ = some (.int .i64 f) := (LVO.out.k _ rfl).blk.cell 2
      obtain ⟨S', R', hstep, hnear⟩ := step_all (some (go, #[.int .i64 x, .int .i64 b, .int .i64 f])) w1 wo colo p q dq S R x b f LVO.out RL.out (by omega) hN (by omega) (by omega)
      have HW := Lib.hid hstep
      have c1 := hnear.cnt
      have c2 := hnear.pend
      have c3 := hnear.rn
      have c4 := hnear.n
      have c5 := hnear.at_
      have NR := Lib.hid hnear.rel
      have HWO := Lib.hid hwo
      have HGO := Lib.hid hgo
      clear hwo hgo RR LV BO hgk hstep hnear RL tO hcolo
      unfold ptr at HW
      go_wp2_with (first | rw [HGO.out, HWO.out] | fail)
      refine HW.out.mono ?_
      rintro e w7 ⟨col7, rfl, hd7⟩
      have D7 := Lib.hid hd7
      have HCN := Lib.hid (scounts_all w7 col7 w1.heap.size 16 p S' hd7.s)
      unfold ptr at HCN
      clear HW hd7 LVO z0 z1 z2
      go_wp2_with fail
      refine HCN.out.mono ?_
      rintro e w8 ⟨rfl, kc, rfl⟩
      clear HCN
      go_upto_region 14 with fail
      obtain ⟨wv, hwv⟩ : ∃ wv, (w7.drewN kc).drew = wv := ⟨_, rfl⟩
      have D8 := Lib.hid (show Duo (some (go, #[.int .i64 x, .int .i64 b, .int .i64 f])) w1 wv col7 p q dq S' R' by rw [← hwv]; exact (D7.out.below (below_drewN (Below.refl _ _) kc)).same ((Tch.refl _ _ _ _).drew))
      have HWV := Lib.hid hwv
      have hs0 : ∀ wx colx, Duo (some (go, #[.int .i64 x, .int .i64 b, .int .i64 f])) w1 wx colx p q dq S' R' → wx.cell? ⟨go, 1, none⟩ = some (.int .i64 b) ∧ wx.cell? ⟨q, 6, none⟩ = some (.int .i64 R'.found) ∧ wx.cell? ⟨q, 7, none⟩ = some (.int .i64 R'.asked) := fun wx colx h => ⟨(h.k _ rfl).blk.cell 1, h.counts⟩
      have HS0 := Lib.hid hs0
      have hS := hs0 wv col7 D8.out
      have HH1 := Lib.hid (sheld_all wv col7 w1.heap.size 16 p S' b D8.out.s)
      have HH2 := Lib.hid (rheld_all wv col7 w1.heap.size 128 q dq R' b D8.out.r)
      obtain ⟨hb, hhb⟩ : ∃ hb, S'.isHeld b = hb := ⟨_, rfl⟩
      rw [hhb] at HH1
      rw [NR.out.isHeld, hhb] at HH2
      have hbb : (hb != hb) = false := by simp
      have hff : (((S'.found : Nat) : Int) != ((R'.found : Nat) : Int)) = false := by rw [NR.out.found]; simp
      have haa : (((S'.asked : Nat) : Int) != ((R'.asked : Nat) : Int)) = false := by rw [NR.out.asked]; simp
      have hNN : ((S'.d.N : Nat) : Int) = 128 := by omega
      clear hwv D7 hs0 hhb
      unfold ptr at HH1 HH2
      refine region_need_at (v := wv) (fun w' => w'.cell? ⟨go, 1, none⟩ = some (.int .i64 b) ∧ w'.cell? ⟨q, 6, none⟩ = some (.int .i64 R'.found) ∧ w'.cell? ⟨q, 7, none⟩ = some (.int .i64 R'.asked)) (fun _ => true) HWV.out (by kernel_rfl) ?_
      have hNS : wv.cell? ⟨go, 1, none⟩ = some (.int .i64 b) ∧ wv.cell? ⟨q, 6, none⟩ = some (.int .i64 R'.found) ∧ wv.cell? ⟨q, 7, none⟩ = some (.int .i64 R'.asked) := hS
      refine nw_take (i := 0) (v := ?_) rfl (by kernel_rfl) (by kernel_rfl) (fun _ _ d _ _ h => by cases d <;> exact h) (by exact hNS) (by kernel_rfl) ?_ (fun K hK => ?_); rotate_left; (· (intro w' hSw; (try dsimp only at hSw); go_simp; with_reducible rfl)); simp only [Act.put, List.setIfInBounds_toArray, List.set_cons_zero, List.set_cons_succ]; refine hK _ ?_; clear hK K
      refine nw_take (i := 1) (v := ?_) rfl (by kernel_rfl) (by kernel_rfl) (fun _ _ d _ _ h => by cases d <;> exact h) (by exact hNS) (by kernel_rfl) ?_ (fun K hK => ?_); rotate_left; (· (intro w' hSw; (try dsimp only at hSw); go_simp; with_reducible rfl)); simp only [Act.put, List.setIfInBounds_toArray, List.set_cons_zero, List.set_cons_succ]; refine hK _ ?_; clear hK K
      refine nw_take (i := 2) (v := ?_) rfl (by kernel_rfl) (by kernel_rfl) (fun _ _ d _ _ h => by cases d <;> exact h) (by exact hNS) (by kernel_rfl) ?_ (fun K hK => ?_); rotate_left; (· (intro w' hSw; (try dsimp only at hSw); go_simp; with_reducible rfl)); simp only [Act.put, List.setIfInBounds_toArray, List.set_cons_zero, List.set_cons_succ]; refine hK _ ?_; clear hK K
      refine nw_take (i := 3) (v := ?_) rfl (by kernel_rfl) (by kernel_rfl) (fun _ _ d _ _ h => by cases d <;> exact h) (by exact hNS) (by kernel_rfl) ?_ (fun K hK => ?_); rotate_left; (· (intro w' hSw; (try dsimp only at hSw); go_simp; with_reducible rfl)); simp only [Act.put, List.setIfInBounds_toArray, List.set_cons_zero, List.set_cons_succ]; refine hK _ ?_; clear hK K
      refine nw_take (i := 4) (v := ?_) rfl (by kernel_rfl) (by kernel_rfl) (fun _ _ d _ _ h => by cases d <;> exact h) (by exact hNS) (by kernel_rfl) ?_ (fun K hK => ?_); rotate_left; (· (intro w' hSw; (try dsimp only at hSw); go_simp; with_reducible rfl)); simp only [Act.put, List.setIfInBounds_toArray, List.set_cons_zero, List.set_cons_succ]; refine hK _ ?_; clear hK K
      refine nw_take (i := 5) (v := ?_) rfl (by kernel_rfl) (by kernel_rfl) (fun _ _ d _ _ h => by cases d <;> exact h) (by exact hNS) (by kernel_rfl) ?_ (fun K hK => ?_); rotate_left; (· (intro w' hSw; (try dsimp only at hSw); go_simp; with_reducible rfl)); simp only [Act.put, List.setIfInBounds_toArray, List.set_cons_zero, List.set_cons_succ]; refine hK _ ?_; clear hK K
      refine nw_take (i := 7) (v := ?_) rfl (by kernel_rfl) (by kernel_rfl) (fun _ _ d _ _ h => by cases d <;> exact h) (by exact hNS) (by kernel_rfl) ?_ (fun K hK => ?_); rotate_left; (· (intro w' hSw; (try dsimp only at hSw); go_simp; with_reducible rfl)); simp only [Act.put, List.setIfInBounds_toArray, List.set_cons_zero, List.set_cons_succ]; refine hK _ ?_; clear hK K
      refine nw_take (i := 8) (v := ?_) rfl (by kernel_rfl) (by kernel_rfl) (fun _ _ d _ _ h => by cases d <;> exact h) (by exact hNS) (by kernel_rfl) ?_ (fun K hK => ?_); rotate_left; (· (intro w' hSw; (try dsimp only at hSw); go_simp; with_reducible rfl)); simp only [Act.put, List.setIfInBounds_toArray, List.set_cons_zero, List.set_cons_succ]; refine hK _ ?_; clear hK K
      refine nw_take (i := 9) (v := ?_) rfl (by kernel_rfl) (by kernel_rfl) (fun _ _ d _ _ h => by cases d <;> exact h) (by exact hNS) (by kernel_rfl) ?_ (fun K hK => ?_); rotate_left; (· (intro w' hSw; (try dsimp only at hSw); go_simp; with_reducible rfl)); simp only [Act.put, List.setIfInBounds_toArray, List.set_cons_zero, List.set_cons_succ]; refine hK _ ?_; clear hK K
      clear hNS
      refine nw_one (i := 6) (E := False) rfl (by kernel_rfl) (fun K hK => ?_) (by kernel_rfl)
      go_simp
      refine HH1.out.mono ?_
      rintro e w9 ⟨rfl, rfl⟩
      refine hK.out _ _ ((fun _ => hS)) ?_
      clear hK K
      try simp only [Act.put, List.setIfInBounds_toArray, List.set_cons_zero, List.set_cons_succ]
      refine nw_one (i := 10) (E := False) rfl (by kernel_rfl) (fun K hK => ?_) (by kernel_rfl)
      go_simp
      refine HH2.out.mono ?_
      rintro e w9 ⟨rfl, hb9⟩
      have D9 := Lib.hid (D8.out.below hb9)
      have hS9 := HS0.out w9 col7 D9.out
      have HM1 := Lib.hid (smark_all w9 col7 w1.heap.size 16 p S' D9.out.s)
      have HM2 := Lib.hid (rmark_all w9 col7 w1.heap.size 128 q dq R' D9.out.r)
      rw [NR.out.mark] at HM2
      have HC1 := Lib.hid (schanged_all w9 col7 w1.heap.size 16 p S' D9.out.s)
      have hmm : (((S'.undo.length : Nat) : Int) != ((S'.undo.length : Nat) : Int)) = false := by simp
      clear hb9 HH1 HH2 hS D8
      unfold ptr at HM1 HM2 HC1
      refine hK.out _ _ ((fun _ => hS9)) ?_
      clear hK K
      try simp only [Act.put, List.setIfInBounds_toArray, List.set_cons_zero, List.set_cons_succ]
      refine nw_one (i := 11) (E := False) rfl (by kernel_rfl) (fun K hK => ?_) (by kernel_rfl)
      go_simp
      refine hK.out _ _ ((fun _ => hS9)) ?_
      clear hK K
      try simp only [Act.put, List.setIfInBounds_toArray, List.set_cons_zero, List.set_cons_succ]
      refine nw_one (i := 12) (E := False) rfl (by kernel_rfl) (fun K hK => ?_) (by kernel_rfl)
      go_simp
      refine hK.out _ _ ((fun _ => hS9)) ?_
      clear hK K
      try simp only [Act.put, List.setIfInBounds_toArray, List.set_cons_zero, List.set_cons_succ]
      refine nw_one (i := 13) (E := False) rfl (by kernel_rfl) (fun K hK => ?_) (by kernel_rfl)
      go_simp
      refine hK.out _ _ ((fun _ => hS9)) ?_
      clear hK K
      try simp only [Act.put, List.setIfInBounds_toArray, List.set_cons_zero, List.set_cons_succ]
      have hNS := hS9
      refine nw_take (i := 14) (v := ?_) rfl (by kernel_rfl) (by kernel_rfl) (fun _ _ d _ _ h => by cases d <;> exact h) (by exact hNS) (by kernel_rfl) ?_ (fun K hK => ?_); rotate_left; (· (intro w' hSw; (try dsimp only at hSw); go_simp; with_reducible rfl)); simp only [Act.put, List.setIfInBounds_toArray, List.set_cons_zero, List.set_cons_succ]; refine hK _ ?_; clear hK K
      refine nw_take (i := 16) (v := ?_) rfl (by kernel_rfl) (by kernel_rfl) (fun _ _ d _ _ h => by cases d <;> exact h) (by exact hNS) (by kernel_rfl) ?_ (fun K hK => ?_); rotate_left; (· (intro w' hSw; (try dsimp only at hSw); go_simp; with_reducible rfl)); simp only [Act.put, List.setIfInBounds_toArray, List.set_cons_zero, List.set_cons_succ]; refine hK _ ?_; clear hK K
      clear hNS
      refine nw_one (i := 15) (E := False) rfl (by kernel_rfl) (fun K hK => ?_) (by kernel_rfl)
      go_simp
      refine HM1.out.mono ?_
      rintro e wz ⟨rfl, rfl⟩
      refine hK.out _ _ ((fun _ => hS9)) ?_
      clear hK K
      try simp only [Act.put, List.setIfInBounds_toArray, List.set_cons_zero, List.set_cons_succ]
      refine nw_one (i := 17) (E := False) rfl (by kernel_rfl) (fun K hK => ?_) (by kernel_rfl)
      go_simp
      refine HM2.out.mono ?_
      rintro e wz ⟨rfl, rfl⟩
      refine hK.out _ _ ((fun _ => hS9)) ?_
      clear hK K
      try simp only [Act.put, List.setIfInBounds_toArray, List.set_cons_zero, List.set_cons_succ]
      refine nw_one (i := 18) (E := False) rfl (by kernel_rfl) (fun K hK => ?_) (by kernel_rfl)
      go_simp
      refine hK.out _ _ ((fun _ => hS9)) ?_
      clear hK K
      try simp only [Act.put, List.setIfInBounds_toArray, List.set_cons_zero, List.set_cons_succ]
      refine nw_one (i := 19) (E := False) rfl (by kernel_rfl) (fun K hK => ?_) (by kernel_rfl)
      go_simp
      refine hK.out _ _ ((fun _ => hS9)) ?_
      clear hK K
      try simp only [Act.put, List.setIfInBounds_toArray, List.set_cons_zero, List.set_cons_succ]
      refine nw_one (i := 20) (E := False) rfl (by kernel_rfl) (fun K hK => ?_) (by kernel_rfl)
      go_simp
      refine hK.out _ _ ((fun _ => hS9)) ?_
      clear hK K
      try simp only [Act.put, List.setIfInBounds_toArray, List.set_cons_zero, List.set_cons_succ]
      have hNS := hS9
      refine nw_take (i := 21) (v := ?_) rfl (by kernel_rfl) (by kernel_rfl) (fun _ _ d _ _ h => by cases d <;> exact h) (by exact hNS) (by kernel_rfl) ?_ (fun K hK => ?_); rotate_left; (· (intro w' hSw; (try dsimp only at hSw); go_simp; with_reducible rfl)); simp only [Act.put, List.setIfInBounds_toArray, List.set_cons_zero, List.set_cons_succ]; refine hK _ ?_; clear hK K
      refine nw_take (i := 23) (v := ?_) rfl (by kernel_rfl) (by kernel_rfl) (fun _ _ d _ _ h => by cases d <;> exact h) (by exact hNS) (by kernel_rfl) ?_ (fun K hK => ?_); rotate_left; (· (intro w' hSw; (try dsimp only at hSw); go_simp; with_reducible rfl)); simp only [Act.put, List.setIfInBounds_toArray, List.set_cons_zero, List.set_cons_succ]; refine hK _ ?_; clear hK K
      clear hNS
      refine nw_one (i := 22) (E := False) rfl (by kernel_rfl) (fun K hK => ?_) (by kernel_rfl)
      go_simp
      refine HC1.out.mono ?_
      rintro e wa ⟨va, rfl, hta, hsa, hra⟩
      have DA := Lib.hid (D9.out.same hta)
      obtain ⟨Aa, ca, rfl, _⟩ := row_len hra
      have VA := Lib.hid hra
      have hSa := HS0.out wa col7 DA.out
      have HC2 := Lib.hid (rchanged_all wa col7 w1.heap.size 128 q dq R' DA.out.r)
      clear hta hsa hra HM1 HM2 HC1 hS9 D9
      unfold ptr at HC2
      refine hK.out _ _ ((fun _ => hSa)) ?_
      clear hK K
      try simp only [Act.put, List.setIfInBounds_toArray, List.set_cons_zero, List.set_cons_succ]
      refine nw_one (i := 24) (E := False) rfl (by kernel_rfl) (fun K hK => ?_) (by kernel_rfl)
      go_simp
      refine HC2.out.mono ?_
      rintro e wb ⟨vb, rfl, hbb2, hob⟩
      rw [NR.out.changed] at hob
      have DB := Lib.hid (DA.out.below hbb2)
      obtain ⟨Ab, cb, rfl, _⟩ := own_ints hob
      have X1 := Lib.hid (RowAt.of_own (VA.out.keep (lo := 16) (hi := 16) (Tch.of_below hbb2) (by omega)).own)
      have X2 := Lib.hid (RowAt.of_own hob)
      have hSb := HS0.out wb col7 DB.out
      have hlc : S'.changed.length ≤ 128 := by
        have := keysOf_len S'.d.N S'.chg
        show (keysOf S'.d.N S'.chg).length ≤ 128
        omega
      clear hbb2 hob HC2 hSa DA VA
      refine hK.out _ _ ((fun _ => hSb)) ?_
      clear hK K
      try simp only [Act.put, List.setIfInBounds_toArray, List.set_cons_zero, List.set_cons_succ]
      refine nw_one (i := 25) (E := False) rfl (by kernel_rfl) (fun K hK => ?_) (by kernel_rfl)
      go_simp
      refine (sameInts_any Aa Ab _ _ ca cb S'.changed S'.changed wb (by omega) X1.out X2.out).mono ?_
      rintro e wc ⟨rfl, kx, rfl⟩
      rw [show (S'.changed == S'.changed) = true by simp]
      have DC := Lib.hid (DB.out.below (below_drewN (Below.refl _ _) kx))
      obtain ⟨wc, hwc⟩ : ∃ wc, wb.drewN kx = wc := ⟨_, rfl⟩
      rw [hwc] at DC ⊢
      have hSc := HS0.out wc col7 DC.out
      have HBL := Lib.hid (sblocks_all wc col7 w1.heap.size 16 p S' DC.out.s)
      rw [hNN] at HBL
      unfold ptr at HBL
      clear X1 X2 hwc hSb DB
      refine hK.out _ _ ((fun _ => hSc)) ?_
      clear hK K
      try simp only [Act.put, List.setIfInBounds_toArray, List.set_cons_zero, List.set_cons_succ]
      refine nw_one (i := 26) (E := False) rfl (by kernel_rfl) (fun K hK => ?_) (by kernel_rfl)
      go_simp
      refine hK.out _ _ ((fun _ => hSc)) ?_
      clear hK K
      try simp only [Act.put, List.setIfInBounds_toArray, List.set_cons_zero, List.set_cons_succ]
      refine nw_one (i := 27) (E := False) rfl (by kernel_rfl) (fun K hK => ?_) (by kernel_rfl)
      go_simp
      refine hK.out _ _ ((fun _ => hSc)) ?_
      clear hK K
      try simp only [Act.put, List.setIfInBounds_toArray, List.set_cons_zero, List.set_cons_succ]
      refine nw_one (i := 28) (E := False) rfl (by kernel_rfl) (fun K hK => ?_) (by kernel_rfl)
      go_simp
      refine hK.out _ _ ((fun _ => hSc)) ?_
      clear hK K
      try simp only [Act.put, List.setIfInBounds_toArray, List.set_cons_zero, List.set_cons_succ]
      have hNS := hSc
      refine nw_take (i := 29) (v := ?_) rfl (by kernel_rfl) (by kernel_rfl) (fun _ _ d _ _ h => by cases d <;> exact h) (by exact hNS) (by kernel_rfl) ?_ (fun K hK => ?_); rotate_left; (· (intro w' hSw; (try dsimp only at hSw); go_simp; with_reducible rfl)); simp only [Act.put, List.setIfInBounds_toArray, List.set_cons_zero, List.set_cons_succ]; refine hK _ ?_; clear hK K
      refine nw_take (i := 30) (v := ?_) rfl (by kernel_rfl) (by kernel_rfl) (fun _ _ d _ _ h => by cases d <;> exact h) (by exact hNS) (by kernel_rfl) ?_ (fun K hK => ?_); rotate_left; (· (intro w' hSw; (try dsimp only at hSw); go_simp; with_reducible rfl)); simp only [Act.put, List.setIfInBounds_toArray, List.set_cons_zero, List.set_cons_succ]; refine hK _ ?_; clear hK K
      refine nw_take (i := 31) (v := ?_) rfl (by kernel_rfl) (by kernel_rfl) (fun _ _ d _ _ h => by cases d <;> exact h) (by exact hNS) (by kernel_rfl) ?_ (fun K hK => ?_); rotate_left; (· (intro w' hSw; (try dsimp only at hSw); go_simp; with_reducible rfl)); simp only [Act.put, List.setIfInBounds_toArray, List.set_cons_zero, List.set_cons_succ]; refine hK _ ?_; clear hK K
      refine nw_take (i := 32) (v := ?_) rfl (by kernel_rfl) (by kernel_rfl) (fun _ _ d _ _ h => by cases d <;> exact h) (by exact hNS) (by kernel_rfl) ?_ (fun K hK => ?_); rotate_left; (· (intro w' hSw; (try dsimp only at hSw); go_simp; with_reducible rfl)); simp only [Act.put, List.setIfInBounds_toArray, List.set_cons_zero, List.set_cons_succ]; refine hK _ ?_; clear hK K
      refine nw_take (i := 33) (v := ?_) rfl (by kernel_rfl) (by kernel_rfl) (fun _ _ d _ _ h => by cases d <;> exact h) (by exact hNS) (by kernel_rfl) ?_ (fun K hK => ?_); rotate_left; (· (intro w' hSw; (try dsimp only at hSw); go_simp; with_reducible rfl)); simp only [Act.put, List.setIfInBounds_toArray, List.set_cons_zero, List.set_cons_succ]; refine hK _ ?_; clear hK K
      clear hNS
      refine nw_one (i := 34) (E := False) rfl (by kernel_rfl) (fun K hK => ?_) (by kernel_rfl)
      go_simp
      refine hK.out _ _ ((fun _ => hSc)) ?_
      clear hK K
      try simp only [Act.put, List.setIfInBounds_toArray, List.set_cons_zero, List.set_cons_succ]
      refine nw_one (i := 35) (E := False) rfl (by kernel_rfl) (fun K hK => ?_) (by kernel_rfl)
      go_simp
      refine hK.out _ _ ((fun _ => hSc)) ?_
      clear hK K
      try simp only [Act.put, List.setIfInBounds_toArray, List.set_cons_zero, List.set_cons_succ]
      refine nw_one (i := 36) (E := False) rfl (by kernel_rfl) (fun K hK => ?_) (by kernel_rfl)
      go_simp
      refine hK.out _ _ ((fun _ => hSc)) ?_
      clear hK K
      try simp only [Act.put, List.setIfInBounds_toArray, List.set_cons_zero, List.set_cons_succ]
      have hNS := hSc
      refine nw_take (i := 37) (v := ?_) rfl (by kernel_rfl) (by kernel_rfl) (fun _ _ d _ _ h => by cases d <;> exact h) (by exact hNS) (by kernel_rfl) ?_ (fun K hK => ?_); rotate_left; (· (intro w' hSw; (try dsimp only at hSw); go_simp; with_reducible rfl)); simp only [Act.put, List.setIfInBounds_toArray, List.set_cons_zero, List.set_cons_succ]; refine hK _ ?_; clear hK K
      refine nw_take (i := 38) (v := ?_) rfl (by kernel_rfl) (by kernel_rfl) (fun _ _ d _ _ h => by cases d <;> exact h) (by exact hNS) (by kernel_rfl) ?_ (fun K hK => ?_); rotate_left; (· (intro w' hSw; (try dsimp only at hSw); go_simp; with_reducible rfl)); simp only [Act.put, List.setIfInBounds_toArray, List.set_cons_zero, List.set_cons_succ]; refine hK _ ?_; clear hK K
      refine nw_take (i := 39) (v := ?_) rfl (by kernel_rfl) (by kernel_rfl) (fun _ _ d _ _ h => by cases d <;> exact h) (by exact hNS) (by kernel_rfl) ?_ (fun K hK => ?_); rotate_left; (· (intro w' hSw; (try dsimp only at hSw); go_simp; with_reducible rfl)); simp only [Act.put, List.setIfInBounds_toArray, List.set_cons_zero, List.set_cons_succ]; refine hK _ ?_; clear hK K
      refine nw_take (i := 40) (v := ?_) rfl (by kernel_rfl) (by kernel_rfl) (fun _ _ d _ _ h => by cases d <;> exact h) (by exact hNS) (by kernel_rfl) ?_ (fun K hK => ?_); rotate_left; (· (intro w' hSw; (try dsimp only at hSw); go_simp; with_reducible rfl)); simp only [Act.put, List.setIfInBounds_toArray, List.set_cons_zero, List.set_cons_succ]; refine hK _ ?_; clear hK K
      refine nw_take (i := 41) (v := ?_) rfl (by kernel_rfl) (by kernel_rfl) (fun _ _ d _ _ h => by cases d <;> exact h) (by exact hNS) (by kernel_rfl) ?_ (fun K hK => ?_); rotate_left; (· (intro w' hSw; (try dsimp only at hSw); go_simp; with_reducible rfl)); simp only [Act.put, List.setIfInBounds_toArray, List.set_cons_zero, List.set_cons_succ]; refine hK _ ?_; clear hK K
      clear hNS
      refine nw_one (i := 42) (E := False) rfl (by kernel_rfl) (fun K hK => ?_) (by kernel_rfl)
      go_simp
      refine hK.out _ _ ((fun _ => hSc)) ?_
      clear hK K
      try simp only [Act.put, List.setIfInBounds_toArray, List.set_cons_zero, List.set_cons_succ]
      refine nw_one (i := 43) (E := False) rfl (by kernel_rfl) (fun K hK => ?_) (by kernel_rfl)
      go_simp
      refine hK.out _ _ ((fun _ => hSc)) ?_
      clear hK K
      try simp only [Act.put, List.setIfInBounds_toArray, List.set_cons_zero, List.set_cons_succ]
      refine nw_one (i := 44) (E := False) rfl (by kernel_rfl) (fun K hK => ?_) (by kernel_rfl)
      go_simp
      refine hK.out _ _ ((fun _ => hSc)) ?_
      clear hK K
      try simp only [Act.put, List.setIfInBounds_toArray, List.set_cons_zero, List.set_cons_succ]
      refine nw_one (i := 45) (E := False) rfl (by kernel_rfl) (fun K hK => ?_) (by kernel_rfl)
      go_simp
      refine hK.out _ _ ((fun _ => hSc)) ?_
      clear hK K
      try simp only [Act.put, List.setIfInBounds_toArray, List.set_cons_zero, List.set_cons_succ]
      refine nw_one (i := 46) (E := False) rfl (by kernel_rfl) (fun K hK => ?_) (by kernel_rfl)
      go_simp
      refine HBL.out.mono ?_
      rintro e wz ⟨rfl, rfl⟩
      refine hK.out _ _ ((fun _ => hSc)) ?_
      clear hK K
      try simp only [Act.put, List.setIfInBounds_toArray, List.set_cons_zero, List.set_cons_succ]
      refine nw_one (i := 47) (E := False) rfl (by kernel_rfl) (fun K hK => ?_) (by kernel_rfl)
      go_simp
      refine hK.out _ _ ((fun _ => hSc)) ?_
      clear hK K
      try simp only [Act.put, List.setIfInBounds_toArray, List.set_cons_zero, List.set_cons_succ]
      refine nw_one (i := 48) (E := False) rfl (by kernel_rfl) (fun K hK => ?_) (by kernel_rfl)
      go_simp
      refine hK.out _ _ ((fun _ => hSc)) ?_
      clear hK K
      try simp only [Act.put, List.setIfInBounds_toArray, List.set_cons_zero, List.set_cons_succ]
      refine nw_end (by kernel_rfl) ?_
      clear hSc HBL HS0
      go_wp2_with fail
      go_roundw
      case rel => first | exact ⟨j + 1, S', R', col7, by go_num, by omega, by omega, DC.out.drop, NR.out, by omega, by omega, by omega, by omega, by omega⟩ | ((repeat apply Exists.intro); refine ⟨?_, rfl⟩; exact ⟨j + 1, S', R', col7, by go_num, by omega, by omega, DC.out.drop, NR.out, by omega, by omega, by omega, by omega, by omega⟩)
      case measure => simp [intOf]; omega
    · have hcase : (j = 1500 ∧ (j : Int) < (len : Int)) ∨ j = len := by omega
      have hdk := LV.out.s.disk
      rw [hat_] at hdk
      obtain ⟨wd, hwd⟩ : ∃ wd, wr.drew = wd := ⟨_, rfl⟩
      have td : Tch 16 16 col col wr wd := by rw [← hwd]; exact (Tch.refl _ _ _ _).drew
      have DD := Lib.hid (LV.out.same td)
      have HP := Lib.hid (dpending_any wd col w1.heap.size 24 dp S.d (hdk.keep td (by omega) (by omega)) DD.out.tidy)
      obtain ⟨A1, cp1, y1, hws, hc1, hc2⟩ : ∃ A cap, wd.cell? ⟨dq, 1, none⟩ = some (.slice A R.d.pend.length cap) ∧ WsAt wd A R.d.pend ∧ R.d.pend.length ≤ cap ∧ cap ≤ 9223372036854775807 := by
        obtain ⟨L, hL⟩ := DD.out.r
        exact hL.d.pendAt
      have HPE := Lib.hid (show R.d.pend = S.d.pend from RL.out.pend)
      have FIN := Lib.hid (show ∀ wx colx, Tch 16 16 col colx wd wx → ∃ A cap, wx.cell? ⟨dq, 1, none⟩ = some (.slice A R.d.pend.length cap) ∧ WsAt wx A R.d.pend from fun wx colx ht => by
        obtain ⟨L, hL⟩ := (DD.out.same ht).r
        obtain ⟨A, cap, e1, e2, _⟩ := hL.d.pendAt
        exact ⟨A, cap, e1, e2⟩)
      have HWD := Lib.hid hwd
      rw [HPE.out] at y1 hc1
      clear hdk hwd td hws LV RL
      unfold ptr at HP
      have hlS : S.d.pend.length ≤ 3000 := by omega
      rcases hcase with ⟨rfl, i1⟩ | rfl
      all_goals
        go_upto_region 16 with fail
        have hNS : wd.cell? ⟨dq, 1, none⟩ = some (.slice A1 S.d.pend.length cp1) := y1
        refine region_need_at (v := wd) (fun w' => w'.cell? ⟨dq, 1, none⟩ = some (.slice A1 S.d.pend.length cp1)) (fun _ => true) HWD.out (by kernel_rfl) ?_
        refine nw_take (i := 0) (v := ?_) rfl (by kernel_rfl) (by kernel_rfl) (fun _ _ d _ _ h => by cases d <;> exact h) (by exact hNS) (by kernel_rfl) ?_ (fun K hK => ?_); rotate_left; (· (intro w' hSw; (try dsimp only at hSw); go_simp; with_reducible rfl)); simp only [Act.put, List.setIfInBounds_toArray, List.set_cons_zero, List.set_cons_succ]; refine hK _ ?_; clear hK K
        refine nw_take (i := 2) (v := ?_) rfl (by kernel_rfl) (by kernel_rfl) (fun _ _ d _ _ h => by cases d <;> exact h) (by exact hNS) (by kernel_rfl) ?_ (fun K hK => ?_); rotate_left; (· (intro w' hSw; (try dsimp only at hSw); go_simp; with_reducible rfl)); simp only [Act.put, List.setIfInBounds_toArray, List.set_cons_zero, List.set_cons_succ]; refine hK _ ?_; clear hK K
        refine nw_take (i := 3) (v := ?_) rfl (by kernel_rfl) (by kernel_rfl) (fun _ _ d _ _ h => by cases d <;> exact h) (by exact hNS) (by kernel_rfl) ?_ (fun K hK => ?_); rotate_left; (· (intro w' hSw; (try dsimp only at hSw); go_simp; with_reducible rfl)); simp only [Act.put, List.setIfInBounds_toArray, List.set_cons_zero, List.set_cons_succ]; refine hK _ ?_; clear hK K
        refine nw_take (i := 4) (v := ?_) rfl (by kernel_rfl) (by kernel_rfl) (fun _ _ d _ _ h => by cases d <;> exact h) (by exact hNS) (by kernel_rfl) ?_ (fun K hK => ?_); rotate_left; (· (intro w' hSw; (try dsimp only at hSw); go_simp; with_reducible rfl)); simp only [Act.put, List.setIfInBounds_toArray, List.set_cons_zero, List.set_cons_succ]; refine hK _ ?_; clear hK K
        refine nw_take (i := 5) (v := ?_) rfl (by kernel_rfl) (by kernel_rfl) (fun _ _ d _ _ h => by cases d <;> exact h) (by exact hNS) (by kernel_rfl) ?_ (fun K hK => ?_); rotate_left; (· (intro w' hSw; (try dsimp only at hSw); go_simp; with_reducible rfl)); simp only [Act.put, List.setIfInBounds_toArray, List.set_cons_zero, List.set_cons_succ]; refine hK _ ?_; clear hK K
        clear hNS
        refine nw_one (i := 1) (E := False) rfl (by kernel_rfl) (fun K hK => ?_) (by kernel_rfl)
        go_simp
        refine HP.out.mono ?_
        rintro e w7 ⟨v7, col7, rfl, ht7, ho7⟩
        obtain ⟨A7, c7, rfl, _⟩ := ho7.form
        have W7 := Lib.hid ho7.reads
        have D7 := Lib.hid (DD.out.same ht7)
        obtain ⟨A2, cp2, y2, hw2⟩ := FIN.out w7 col7 ht7
        rw [HPE.out] at y2 hw2
        have y2' : w7.cell? ⟨dq, 1, none⟩ = some (.slice A1 S.d.pend.length cp1) := (World.cell?_of_block (a := ⟨dq, 1, none⟩) (ht7.block dq (World.block_lt_of_cell? _ _ y1) (by omega))).trans y1
        obtain ⟨rfl, rfl⟩ : A1 = A2 ∧ cp1 = cp2 := by
          rw [y2'] at y2
          injection y2 with y2
          injection y2 with e1 _ e3
          exact ⟨e1, e3⟩
        have W8 := Lib.hid hw2
        clear ht7 ho7 HP hw2 FIN
        refine hK.out _ _ ((fun _ => y2')) ?_
        clear hK K
        try simp only [Act.put, List.setIfInBounds_toArray, List.set_cons_zero, List.set_cons_succ]
        refine nw_one (i := 6) (E := False) rfl (by kernel_rfl) (fun K hK => ?_) (by kernel_rfl)
        go_simp
        refine (sameWrites_any A7 A1 S.d.pend.length c7 cp1 S.d.pend w7 (by omega) rfl W7.out W8.out).mono ?_
        rintro e we ⟨rfl, kd, rfl⟩
        have y3 : (w7.drewN kd).cell? ⟨dq, 1, none⟩ = some (.slice A1 S.d.pend.length cp1) := y2'
        refine hK.out _ _ ((fun _ => y3)) ?_
        clear hK K
        try simp only [Act.put, List.setIfInBounds_toArray, List.set_cons_zero, List.set_cons_succ]
        refine nw_one (i := 7) (E := False) rfl (by kernel_rfl) (fun K hK => ?_) (by kernel_rfl)
        go_simp
        refine hK.out _ _ ((fun _ => y3)) ?_
        clear hK K
        try simp only [Act.put, List.setIfInBounds_toArray, List.set_cons_zero, List.set_cons_succ]
        refine nw_end (by kernel_rfl) ?_
        go_wp2_with fail
        go_ret
        exact ⟨rfl, below_all B1.out B1.out.size (below_drewN D7.out.end kd)⟩
theorem storePlays_walk (w : World) (a0 : Int) (w0 : (Lit.int .i64 a0).wf = true) (a1 : Int) (w1 : (Lit.int .i64 a1).wf = true) (a2 : Option Addr) (len2 cap2 : Nat) (gs2 : List Op3) (ro2 : RowAt w a2 (len2 * 3) (ocells gs2)) (lc2 : len2 ≤ cap2) (ml2 : cap2 ≤ maxLen) (ha2 : a2 = none → len2 = 0 ∧ cap2 = 0) (hl2 : gs2.length = len2) (ok2 : ∀ g ∈ gs2, OpOk g) :
    Calls Try.prog 8 #[.int .i64 a0, .int .i64 a1, .slice a2 len2 cap2] w fun e w' => e = .returned (.bool true) ∧ Below w.heap.size w w' := by
  by_cases hb : a0 < 1 ∨ 16 < a0 ∨ a1 < 1 ∨ 256 < a1
  · exact storePlays_no w a0 a1 a2 len2 cap2 hb
  · obtain ⟨s, rfl⟩ := Int.eq_ofNat_of_zero_le (show 0 ≤ a0 by omega)
    obtain ⟨r, rfl⟩ := Int.eq_ofNat_of_zero_le (show 0 ≤ a1 by omega)
    exact storePlays_yes w s r a2 len2 cap2 gs2 ro2 lc2 ml2 hl2 (by omega) (by omega) (by omega) (by omega)
end Go.Proofs.Ytomoliickggghaa.Mem

namespace Go.Proofs.Ytomoliickggghaa.storePlays
open Go.ChangeShapes Go.WideShapes Go.ChangeAt Go.RowKit Go.Joins
set_option linter.unusedVariables false
set_option linter.unusedSimpArgs false

open Go.Proofs.Ytomoliickggghaa.Mem
theorem own : ownKnob Try.prog.godebug = none := by kernel_rfl
theorem laidOut : laidOutB Try.prog = true := by kernel_rfl

set_option maxRecDepth 100000 in
theorem lifted (os : Os) (started : os.Started) (H : Type) (enc : TypeId × Value → H) :
    ReturnsInHanded {} Try.checked os 8 .any (Rows.storePlaysSpec.pre6 enc Try.prog Try.f8 Rows.storePlaysRow.domain false) (Rows.storePlaysSpec.post enc Try.prog Try.f8 false true false false) := by
  refine returnsInHanded_of_change (C := Try.checked) own started (by kernel_rfl) Try.func8
    (ChangeSpec.witness6 (enc := enc) (C := Try.checked) false ⟨#[], #[.int .i64 0, .int .i64 0, .slice none 0 0], []⟩ 8 (by kernel_rfl) (by kernel_rfl) (by kernel_rfl) (by kernel_rfl)) ?_
  intro W base args ds gs before hval0 hW hcnd _
  have hval : ∀ (j : Nat) t v, Try.f8.params[j]? = some t → args[j]? = some v → Value.okWide Try.prog W .any base t v := hval0
  have hW' := hW
  obtain ⟨p, q, hA0, hV, rfl, hfz, hnd⟩ := hW
  have hA : DataW.TrodAll enc Try.prog W 0 (fun _ => true) true Try.f8.params.toList args.toList ds p := hA0
  rw [Try.params8] at hA hval
  obtain ⟨v0, vs0, d0, ds0, p0, q0, hargs, rfl, rfl, h0, r0⟩ := trodAll_cons hA
  obtain ⟨v1, vs1, d1, ds1, p1, q1, rfl, rfl, rfl, h1, r1⟩ := trodAll_cons r0
  obtain ⟨v2, vs2, d2, ds2, p2, q2, rfl, rfl, rfl, h2, r2⟩ := trodAll_cons r1
  obtain ⟨rfl, rfl, rfl⟩ := trodAll_nil r2
  obtain rfl : args = #[v0, v1, v2] := by cases args; simp_all
  obtain ⟨rfl, rfl⟩ := trodVars_none hV
  obtain ⟨a0, rfl, rfl, rfl, w0⟩ := open_int Try.underlying3 (hval 0 3 v0 rfl rfl) h0
  obtain ⟨a1, rfl, rfl, rfl, w1⟩ := open_int Try.underlying3 (hval 1 3 v1 rfl rfl) h1
  have k2 := h2
  have lt2 : ∀ x ∈ p2, x.block < W.heap.size := by obtain ⟨m, hm⟩ := k2; exact DataW.trod_lt m _ _ _ hm
  obtain ⟨a2, len2, cap2, gs2, rfl, ro2, lc2, ml2, ha2, hl2, ok2⟩ := open_ops (hval 2 22 v2 rfl rfl) h2
  clear hA0 hval0
  refine (storePlays_walk W a0 w0 a1 w1 a2 len2 cap2 gs2 ro2 lc2 ml2 ha2 hl2 ok2).mono fun e W' ⟨he, bel⟩ => ?_
  subst he
  exact ⟨_, rfl, _, _, _, [], _, [], hW', trodAll_mk1 (shut_bool Try.underlying4 _), (trodAll_cons_mk (shut_int Try.underlying3 w0) (trodAll_cons_mk (shut_int Try.underlying3 w1) (trodAll_cons_mk (Below.trod laidOut (by kernel_rfl) (of_decide_eq_true (by kernel_rfl)) k2 bel lt2) trodAll_mk0))), rfl, bel.frame _, fun h => by cases h⟩

theorem over : Rows.storePlaysRow.holds Try.pinned (OpenSpec.ofChange Rows.storePlaysSpec) :=
  OpenClaim.holds_of_wide 8 Try.f8 rfl rfl rfl rfl rfl rfl rfl ⟨rfl, rfl, rfl, rfl, rfl⟩ rfl rfl rfl rfl rfl (by kernel_rfl) Try.func8 (by kernel_rfl)
    (of_decide_eq_true (by kernel_rfl)) (by unfold Func.isWrapper; first | (rw [if_pos (by decide +kernel)]; kernel_rfl) | (rw [if_neg (by decide +kernel)]; exact ⟨rfl, rfl⟩))
    (fun os started H enc _ => lifted os started H enc)

theorem proved : Rows.StorePlaysSaid := over
#print axioms proved
end Go.Proofs.Ytomoliickggghaa.storePlays
