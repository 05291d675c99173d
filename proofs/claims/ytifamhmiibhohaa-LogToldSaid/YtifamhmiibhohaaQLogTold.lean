
/-
  THE ROW of hayricklaw07.LogTold: for every input the law returns true, and its arguments read as they did. No condition.
-/
import Derived.Test.YtifamhmiibhohaaKR5N11
import Derived.Test.YtifamhmiibhohaaKR5N9
import Derived.Test.YtifamhmiibhohaaKR5N5
import Derived.StillTailTactics
import Derived.Test.YtifamhmiibhohaaRows
import Derived.ProofKit
import Derived.OpenShut
import Derived.ShutString
import Derived.ChangeOld
import Derived.SizedLaws
import Derived.Lib.SmallJoins
namespace Go.Proofs.Ytifamhmiibhohaa.LLogTold
open Go.RowKit Go.Proofs.Ytifamhmiibhohaa Go.Proofs.Ytifamhmiibhohaa.Wire Go.Proofs.Ytifamhmiibhohaa.Lay Go.Proofs.Ytifamhmiibhohaa.Log Go.Proofs.Ytifamhmiibhohaa.Mem
set_option maxHeartbeats 16000000
set_option maxRecDepth 100000
set_option linter.unusedVariables false
set_option linter.unusedSimpArgs false

theorem and_mask (b : Int) (M : Nat) (hM : M < 9223372036854775808) : 0 ≤ bits .and .i64 b (M : Int) ∧ bits .and .i64 b (M : Int) ≤ (M : Int) := by
  have h : (BitVec.ofInt 64 b &&& BitVec.ofInt 64 (M : Int)).toNat ≤ M := by
    rw [BitVec.toNat_and]
    refine Nat.le_trans Nat.and_le_right ?_
    rw [BitVec.ofInt_natCast, BitVec.toNat_ofNat]
    exact Nat.mod_le _ _
  have h2 : bits .and .i64 b (M : Int) = ((BitVec.ofInt 64 b &&& BitVec.ofInt 64 (M : Int)).toNat : Int) := by
    show IntKind.i64.wrap ((BitVec.ofInt 64 b &&& BitVec.ofInt 64 (M : Int)).toNat : Int) = _
    rw [IntKind.wrap_i64]; omega
  omega
/-- Blocks' rows, as a reader sees them. -/
def LAt (w : World) (g : Nat) (vs : List Value) (bl : List (List UInt8)) : Prop := RowAt w (some ⟨g, 0, none⟩) bl.length vs ∧ ∀ (i : Nat) (v : Value) (b : List UInt8), vs[i]? = some v → bl[i]? = some b →
  ∃ gi ci, v = .slice (some ⟨gi, 0, none⟩) 256 ci ∧ 256 ≤ ci ∧ ci ≤ 9223372036854775807 ∧ BytesAt w (some ⟨gi, 0, none⟩) 256 b
theorem LAt.below {w w' : World} {g : Nat} {vs : List Value} {bl : List (List UInt8)} (h : LAt w g vs bl) (hb : Below w.heap.size w w') : LAt w' g vs bl :=
  ⟨h.1.below hb, fun i v b h1 h2 => by
    obtain ⟨gi, ci, e, h3, h4, h5⟩ := h.2 i v b h1 h2
    exact ⟨gi, ci, e, h3, h4, h5.below hb⟩⟩
theorem LAt.of {w : World} {col : Col} {B r g c : Nat} {bl : List (List UInt8)} {vs : List Value} (h1 : Row w col B r 31 1 (.slice (some ⟨g, 0, none⟩) bl.length c) bl.length vs) (h2 : Dts w col B vs bl) : LAt w g vs bl := by
  refine ⟨by have := rowAt_ownN h1.own; rwa [Nat.mul_one] at this, fun i v b e1 e2 => ?_⟩
  have := (h2.2 i v b e1 e2).own
  obtain ⟨gi, ci, _, rfl, _, _, h3, h4, _⟩ := own_form this (by omega)
  exact ⟨gi, ci, rfl, h3, by unfold maxLen at h4; omega, BytesAt.of_own this⟩
theorem LAt.at_ {w : World} {g i : Nat} {vs : List Value} {bl : List (List UInt8)} (h : LAt w g vs bl) {b : List UInt8} (hi : bl[i]? = some b) :
    ∃ gi ci, w.cell? ⟨g, i, none⟩ = some (.slice (some ⟨gi, 0, none⟩) 256 ci) ∧ 256 ≤ ci ∧ ci ≤ 9223372036854775807 ∧ BytesAt w (some ⟨gi, 0, none⟩) 256 b := by
  have hlt := (List.getElem?_eq_some_iff.1 hi).1
  obtain ⟨v, hv⟩ : ∃ v, vs[i]? = some v := ⟨_, List.getElem?_eq_getElem (by have := h.1.len; omega)⟩
  obtain ⟨gi, ci, rfl, h3, h4, h5⟩ := h.2 i v b hv hi
  obtain ⟨a, e, hc⟩ := h.1.2 (by omega)
  injection e with e
  subst e
  have hcell := hc i _ hv
  rw [show (⟨g, 0, none⟩ : Addr).add i = ⟨g, i, none⟩ from by simp [Addr.add]; omega] at hcell
  exact ⟨gi, ci, hcell, h3, h4, h5⟩

theorem logTold_run (s : Int) (A R : Option Addr) (n c m d : Nat) (ws : List Wt) (rs : List Int) (at0 bit : Int) (w : World) (hw : WsIn w A ws) (hwl : ws.length = n) (hnc : n ≤ c) (hcm : c ≤ 9223372036854775807) (hA : 0 < n → A ≠ none)
    (hr : RowAt w R m (ints rs)) (hmd : m ≤ d) (hdm : d ≤ 9223372036854775807) (hR : 0 < m → R ≠ none) :
    Calls Try.prog 4 #[.int .i64 s, .slice A n c, .slice R m d, .int .i64 at0, .int .i64 bit] w fun e w' => e = .returned (.bool true) ∧ Below w.heap.size w w' := by
  have HW := Lib.hid hw
  have HR := Lib.hid hr
  clear hw hr
  go_enter Try.func4, Try.ntmps4
  go_wp2_with fail
  refine (logAwake_true w).mono ?_
  rintro e w1 ⟨rfl, hb1⟩
  have B1 := Lib.hid hb1
  have HL := Lib.hid (lay_any s A R n c m d ws rs w1 (HW.out.below hb1) hwl hnc hcm hA (HR.out.below hb1) hmd hdm hR)
  clear hb1
  go_wp2_with fail
  refine HL.out.mono ?_
  rintro e w2 (⟨ht, rfl, hb2⟩ | ⟨ht, v, col, rfl, hb2, vs, hrow, hdts⟩)
  · have B2 := Lib.hid (below_all B1.out B1.out.size hb2)
    clear hb2 HL
    go_wp2_with fail
    go_ret
    exact ⟨rfl, B2.out⟩
  · have B2 := Lib.hid (below_all B1.out B1.out.size hb2)
    obtain ⟨th, hth⟩ : ∃ th, tHead s ws rs = th := ⟨_, rfl⟩
    obtain ⟨sm, hsm⟩ : ∃ sm, tSum s th = sm := ⟨_, rfl⟩
    obtain ⟨rb, hrb⟩ : ∃ rb, rB 2 s [] sm 0 = rb := ⟨_, rfl⟩
    have htb : tB s ws rs = th ++ [rb] := by rw [tB, hth, hsm, hrb]
    rw [htb] at hrow hdts
    obtain ⟨N, hN⟩ : ∃ N, th.length = N := ⟨_, rfl⟩
    have hlen : (th ++ [rb]).length = N + 1 := by simp [hN]
    obtain ⟨g, cg, _, rfl, _, _, hcg1, hcg2, _⟩ := own_form hrow.own (by omega)
    have hL2 := LAt.of hrow hdts
    have hNs : N ≤ 6000 := by
      have := tHead_few ht
      rw [hth] at this
      omega
    have h256 : ∀ x ∈ th, x.length = 256 := by rw [← hth]; exact tHead_256 ht
    obtain ⟨_, _, _, _, hmy⟩ := tOk_all ht
    have hsm2 : sm < 4294967296 := by rw [← hsm]; exact (crc (rS s) th.flatten).isLt
    obtain ⟨q1, q2, q3, q4, q5, q6⟩ := rec_back (k := 2) (s := s) (es := []) (sum := sm) (st := 0) (by rw [rMay2]; exact hmy) hsm2
    rw [hrb] at q1 q2 q3 q4 q5 q6
    have UV := Lib.hid (show ∀ v, uV rb v = #[.int .i64 2, .int .i64 s, v, .int .u32 (sm : Int), .int .i64 0] from fun v => by rw [uV, if_pos q1, q2, q3, q5, q6])
    have UE := Lib.hid (show uE rb = 0 by simp [uE, q1])
    have UX := Lib.hid (show uXs rb = [] by simp [uXs, q1, q4])
    have HSM := Lib.hid hsm
    have HTH := Lib.hid hth
    have H256 := Lib.hid h256
    rw [hlen] at hcg1
    have hrbN : (th ++ [rb])[N]? = some rb := by rw [List.getElem?_append_right (by omega), hN, Nat.sub_self]; rfl
    obtain ⟨gb, cb, hcN, hcb1, hcb2, hbb⟩ := hL2.at_ hrbN
    have L2 := Lib.hid hL2
    have HUP := Lib.hid (logUnpack_any (some ⟨gb, 0, none⟩) 256 cb rb w2 hcb1 hcb2 hbb)
    rw [hlen]
    have i1 : IntKind.i64.wrap (((N + 1 : Nat) : Int) - 1) = (N : Int) := by rw [IntKind.wrap_i64]; omega
    have i2 : ¬ (N : Int) < 0 := by omega
    have i3 : (0 : Int) ≤ (N : Int) := by omega
    have i4 : (N : Int) < ((N + 1 : Nat) : Int) := by omega
    have i5 : ((N : Int)).toNat = N := by omega
    clear hth hsm hrb htb hrow hdts hL2 hmy q1 q2 q3 q4 q5 q6 hrbN hbb h256 hb2 HL ht
    go_wp2_with fail
    refine HUP.out.mono ?_
    rintro e w3 ⟨v3, rfl, hb3, ho3⟩
    rw [UV.out, UE.out]
    have B3 := Lib.hid (below_all B2.out B2.out.size hb3)
    rw [UX.out] at ho3
    obtain ⟨A3, c3, rfl, _, _, _, _, _⟩ := own_sliceN ho3
    obtain ⟨w4, hw4⟩ : ∃ w4, w3.alloc (.cells #[.int .i64 2, .int .i64 s, .slice A3 0 c3, .int .u32 (sm : Int), .int .i64 0] 36) = w4 := ⟨_, rfl⟩
    obtain ⟨r, hr⟩ : ∃ r, w3.heap.size = r := ⟨_, rfl⟩
    have K4 := Lib.hid (show Blk w4 r 36 #[.int .i64 2, .int .i64 s, .slice A3 0 c3, .int .u32 (sm : Int), .int .i64 0] by rw [← hw4, ← hr]; exact Blk.new _ _ _)
    have B34 := Lib.hid (show Below w2.heap.size w2 w4 by rw [← hw4]; exact hb3.alloc hb3.size _)
    have B4 := Lib.hid (show Below w.heap.size w w4 by rw [← hw4]; exact B3.out.alloc B3.out.size _)
    have HW4 := Lib.hid hw4
    have HR3 := Lib.hid hr
    have hrw4 : r < w4.heap.size := by rw [← hw4]; simp [hr]
    have L4 := Lib.hid (L2.out.below B34.out)
    clear ho3 hb3 hw4 hr HUP hcN B3 B2 B1 L2
    go_wp2_with (first | rw [HW4.out, HR3.out] | rw [HW4.out] | fail)
    go_loopw [17, 18] (fun aa ii wr => ∃ (i : Nat) (av : Value), av = aa ∧ ii = .int .i64 i ∧ i ≤ N ∧ wr.ownsRow w4.heap.size 5 1 av (i * 256) (bvl (th.take i).flatten) ∧ Below w4.heap.size w4 wr) (fun _ ii _ => N - (intOf ii).toNat)
    case atStart => exact ⟨0, _, rfl, rfl, by omega, World.ownsRow_nil _ _ _ _, Below.refl _ _⟩
    case round =>
      obtain ⟨i, av, rfl, rfl, hi, hown, hbl⟩ := hrel
      have hsz4 : w4.heap.size ≤ wr.heap.size := hbl.size
      by_cases hlt : i < N
      · have hii : (i : Int) < (N : Int) := by omega
        have hi0 : (0 : Int) ≤ (i : Int) := by omega
        have hin : ((i : Int)).toNat = i := by omega
        have hi2 : (i : Int) < ((N + 1 : Nat) : Int) := by omega
        obtain ⟨b, hx⟩ : ∃ b, th[i]? = some b := ⟨_, List.getElem?_eq_getElem (by omega)⟩
        have hb256 : b.length = 256 := H256.out b (List.mem_of_getElem? hx)
        obtain ⟨gi, ci, hcell, hc1, hc2, hby⟩ := (L4.out.below hbl).at_ (i := i) (b := b) (by rw [List.getElem?_append_left (by omega)]; exact hx)
        have HBY := Lib.hid hby
        have HOWN := Lib.hid hown
        have HBL := Lib.hid hbl
        have HTK := Lib.hid (show (th.take (i + 1)).flatten = (th.take i).flatten ++ b by rw [List.take_add_one, hx]; simp)
        clear hby hown hbl hx
        go_wp2_with (first
          | (at_builtin
             refine app_u8 wr rfl (.tmp 54) (.tmp 58) rfl w4.heap.size av (i * 256) (bvl (th.take i).flatten) rfl HOWN.out (some ⟨gi, 0, none⟩) 256 ci b rfl (fun e => by cases e) HBY.out (by omega) hsz4 ?_
             intro v' w' hown2 hg2
             obtain ⟨g6, cp6, _, rfl, _⟩ := own_form hown2 (by omega)
             have HB2 := Lib.hid (below_own HOWN.out HBL.out (Nat.le_refl _) hg2)
             have HO2 := Lib.hid (show w'.ownsRow w4.heap.size 5 1 (.slice (some ⟨g6, 0, none⟩) (i * 256 + 256) cp6) ((i + 1) * 256) (bvl (th.take (i + 1)).flatten) by
               rw [HTK.out, bvl, List.map_append, show (i + 1) * 256 = i * 256 + 256 by omega]; exact hown2)
             clear hown2 hg2)
          | fail)
        go_roundw
        case rel => first | exact ⟨i + 1, _, rfl, by go_num, by omega, HO2.out, HB2.out⟩ | ((repeat apply Exists.intro); refine ⟨?_, rfl⟩; exact ⟨i + 1, _, rfl, by go_num, by omega, HO2.out, HB2.out⟩)
        case measure => simp [intOf]; omega
      · obtain rfl : i = N := by omega
        have hni : ¬ (i : Int) < (i : Int) := by omega
        rw [List.take_of_length_le (by omega)] at hown
        have hfl : th.flatten.length = i * 256 := by rw [flat_len H256.out, hN]
        obtain ⟨L, hLL⟩ : ∃ L, i * 256 = L := ⟨_, rfl⟩
        rw [hLL] at hown hfl
        obtain ⟨Aa, ca, rfl, hby, _, _, _, _⟩ := own_slice hown
        have O5 := Lib.hid (show wr.drew.ownsRow w4.heap.size 5 1 (.slice Aa L ca) L (bvl th.flatten) from hown)
        have B5 := Lib.hid (show Below w4.heap.size w4 wr.drew from hbl.drew)
        have K5 := Lib.hid (show Blk wr.drew r 36 #[.int .i64 2, .int .i64 s, .slice A3 0 c3, .int .u32 (sm : Int), .int .i64 0] from K4.out.belowAll B5.out)
        have HCR := Lib.hid (show Calls Try.prog 12 #[.int .u32 ((rS s).toNat : Int), .slice Aa L ca] wr.drew fun e w' => e = .returned (.int .u32 (sm : Int)) ∧ w' = wr.drew from (ref_crc (rS s) Aa L ca th.flatten wr.drew (by omega) hby).mono (by
          rintro e w' ⟨rfl, rfl⟩
          rw [show (crc (rS s) th.flatten).toNat = sm from HSM.out]
          exact ⟨rfl, rfl⟩))
        have wsd : IntKind.u32.wrap s = ((rS s).toNat : Int) := by
          rw [rS, BitVec.toNat_ofInt, IntKind.wrap_u32]; omega
        have c0 : wr.drew.cell? ⟨r, 0, none⟩ = some (.int .i64 2) := K5.out.cell 0
        have c1 : wr.drew.cell? ⟨r, 1, none⟩ = some (.int .i64 s) := K5.out.cell 1
        have c3' : wr.drew.cell? ⟨r, 3, none⟩ = some (.int .u32 (sm : Int)) := K5.out.cell 3
        clear hown hbl hby
        go_wp2_with fail
        refine region_still (by kernel_rfl) (by kernel_rfl) ?_
        iterate 17 (refine still_take (v := ?_) (by kernel_rfl) ?_ (fun K hK => ?_); rotate_left; (· (go_simp; with_reducible rfl)); simp only [Act.put, List.setIfInBounds_toArray, List.set_cons_zero, List.set_cons_succ]; refine hK _ ?_; clear hK K)
        refine still_call_ (v := ?_) (f := ?_) (args := ?_) (by kernel_rfl) ?_ ?_ (fun K hK => ?_)
        rotate_left 3
        · (go_simp; constructor <;> rfl)
        · exact HCR.out
        simp only [Act.put, List.setIfInBounds_toArray, List.set_cons_zero, List.set_cons_succ]
        refine hK _ ?_
        clear hK K
        iterate 4 (refine still_take (v := ?_) (by kernel_rfl) ?_ (fun K hK => ?_); rotate_left; (· (go_simp; with_reducible rfl)); simp only [Act.put, List.setIfInBounds_toArray, List.set_cons_zero, List.set_cons_succ]; refine hK _ ?_; clear hK K)
        refine still_end ?_
        generalize wr.drew = wv at *
        by_cases hz : L = 0
        · subst hz
          go_wp2_with fail
          go_ret
          exact ⟨rfl, below_all B4.out B4.out.size B5.out⟩
        · have hz1 : ¬ (L : Int) = 0 := by omega
          have hz2 : ((L : Int) == 0) = false := by simp; omega
          obtain ⟨ga, cga, csa, hga, hgb, _⟩ := own_form O5.out (by omega)
          injection hga with hga _ hcga
          subst hga
          subst hcga
          obtain ⟨ha0, ha1⟩ := and_mask at0 16777215 (by omega)
          obtain ⟨hb0, hb1⟩ := and_mask bit 7 (by omega)
          rw [show ((16777215 : Nat) : Int) = 16777215 from rfl] at ha0 ha1
          rw [show ((7 : Nat) : Int) = 7 from rfl] at hb0 hb1
          obtain ⟨tz, htz⟩ : ∃ tz, bits .and .i64 at0 16777215 = tz := ⟨_, rfl⟩
          obtain ⟨bz, hbz⟩ : ∃ bz, bits .and .i64 bit 7 = bz := ⟨_, rfl⟩
          rw [htz] at ha0 ha1
          rw [hbz] at hb0 hb1
          obtain ⟨t, rfl⟩ := Int.eq_ofNat_of_zero_le ha0
          obtain ⟨q, rfl⟩ := Int.eq_ofNat_of_zero_le hb0
          have hq8 : q < 8 := by omega
          obtain ⟨j, ej⟩ : ∃ j, t % L = j := ⟨_, rfl⟩
          have hj : j < L := by rw [← ej]; exact Nat.mod_lt _ (by omega)
          have g1 : (t : Int) % (L : Int) = (j : Int) := by rw [← ej]; push_cast; rfl
          have g2 : (t : Int).tmod (L : Int) = (j : Int) := by rw [Int.tmod_eq_emod_of_nonneg (by omega)]; exact g1
          have g5 : IntKind.i64.wrap (j : Int) = (j : Int) := by rw [IntKind.wrap_i64]; omega
          have g6 : (0 : Int) ≤ (j : Int) := by omega
          have g3 : (j : Int) < (L : Int) := by omega
          have g4 : ((j : Int)).toNat = j := by omega
          have g7 : ¬ (q : Int) < 0 := by omega
          have g8 : (0 : Int) ≤ (q : Int) := by omega
          have g9 : ((q : Int)).toNat = q := by omega
          obtain ⟨x, hx⟩ : ∃ x, th.flatten[j]? = some x := ⟨_, List.getElem?_eq_getElem (by omega)⟩
          have hcx2 : wv.drew.cell? ⟨ga, j, none⟩ = some (.int .u8 (x.toNat : Int)) := by
            show wv.cell? ⟨ga, j, none⟩ = _
            rw [O5.out.cellAt j (by omega), bvl_get, hx]; rfl
          have hfx2 : wv.drew.frozen? ⟨ga, j, none⟩ = false := O5.out.frozenAt j
          have HX := Lib.hid hx
          have O6 := Lib.hid (show wv.drew.ownsRow w4.heap.size 5 1 (.slice (some ⟨ga, 0, none⟩) L ca) L (bvl th.flatten) from O5.out)
          have B6 := Lib.hid (show Below w4.heap.size w4 wv.drew from B5.out.drew)
          have K6 := Lib.hid (show Blk wv.drew r 36 #[.int .i64 2, .int .i64 s, .slice A3 0 c3, .int .u32 (sm : Int), .int .i64 0] from K5.out)
          clear hx O5 B5 c0 c1 c3' K5
          go_wp2_with fail
          go_still_tail 11, (by kernel_rfl)
          change wpList _ _ _ _ _ wv.drew
          generalize wv.drew = w5 at *
          obtain ⟨y, hy, hxy⟩ := turn_byte x q hq8
          have hle : crc (rS s) (th.flatten.set j y) ≠ crc (rS s) th.flatten := fun e => by
            have hlt := (List.getElem?_eq_some_iff.1 HX.out)
            have e1 : th.flatten = th.flatten.take j ++ x :: th.flatten.drop (j + 1) := by
              rw [← hlt.2]
              exact (List.take_append_drop j _).symm.trans (by rw [List.drop_eq_getElem_cons hlt.1])
            have e2 : th.flatten.set j y = th.flatten.take j ++ y :: th.flatten.drop (j + 1) := by rw [List.set_eq_take_append_cons_drop, if_pos hlt.1]
            rw [e2] at e
            have e3 : crc (rS s) th.flatten = crc (rS s) (th.flatten.take j ++ x :: th.flatten.drop (j + 1)) := by rw [← e1]
            rw [e3] at e
            exact hxy (crc_turned _ _ _ _ _ e).symm
          have HY := Lib.hid hy
          obtain ⟨w6, hw6⟩ : ∃ w6, w5.setCell ⟨ga, j, none⟩ (.int .u8 (y.toNat : Int)) = w6 := ⟨_, rfl⟩
          have O7 := Lib.hid (show w6.ownsRow w4.heap.size 5 1 (.slice (some ⟨ga, 0, none⟩) L ca) L (bvl (th.flatten.set j y)) by rw [← hw6]; exact own_set O6.out j y)
          have B7 := Lib.hid (show Below w4.heap.size w4 w6 by rw [← hw6]; exact B6.out.setCell (p := ⟨ga, j, none⟩) hgb _)
          have K7 := Lib.hid (show Blk w6 r 36 #[.int .i64 2, .int .i64 s, .slice A3 0 c3, .int .u32 (sm : Int), .int .i64 0] by rw [← hw6]; exact K6.out.far (p := ⟨ga, j, none⟩) (by show r ≠ ga; omega) _)
          obtain ⟨s2, hs2⟩ : ∃ s2, (crc (rS s) (th.flatten.set j y)).toNat = s2 := ⟨_, rfl⟩
          have hne : s2 ≠ sm := fun e => hle (BitVec.eq_of_toNat_eq (by rw [hs2, e]; exact HSM.out.symm))
          have hne2 : ((s2 : Int) != (sm : Int)) = true := by simp; omega
          have HCR2 := Lib.hid (show Calls Try.prog 12 #[.int .u32 ((rS s).toNat : Int), .slice (some ⟨ga, 0, none⟩) L ca] w6.drew fun e w' => e = .returned (.int .u32 (s2 : Int)) ∧ w' = w6.drew from (ref_crc (rS s) (some ⟨ga, 0, none⟩) L ca (th.flatten.set j y) w6.drew (by omega) (BytesAt.of_own O7.out)).mono (by
            rintro e w' ⟨rfl, rfl⟩
            rw [hs2]
            exact ⟨rfl, rfl⟩))
          have d3 : w6.drew.cell? ⟨r, 3, none⟩ = some (.int .u32 (sm : Int)) := K7.out.cell 3
          have HW6 := Lib.hid hw6
          clear hy hxy hle O6 B6 K6 hw6
          go_wp2_with (first | rw [HY.out, HW6.out] | fail)
          refine region_still (by kernel_rfl) (by kernel_rfl) ?_
          iterate 5 (refine still_take (v := ?_) (by kernel_rfl) ?_ (fun K hK => ?_); rotate_left; (· (go_simp; with_reducible rfl)); simp only [Act.put, List.setIfInBounds_toArray, List.set_cons_zero, List.set_cons_succ]; refine hK _ ?_; clear hK K)
          refine still_call_ (v := ?_) (f := ?_) (args := ?_) (by kernel_rfl) ?_ ?_ (fun K hK => ?_)
          rotate_left 3
          · (go_simp; constructor <;> rfl)
          · exact HCR2.out
          simp only [Act.put, List.setIfInBounds_toArray, List.set_cons_zero, List.set_cons_succ]
          refine hK _ ?_
          clear hK K
          iterate 5 (refine still_take (v := ?_) (by kernel_rfl) ?_ (fun K hK => ?_); rotate_left; (· (go_simp; with_reducible rfl)); simp only [Act.put, List.setIfInBounds_toArray, List.set_cons_zero, List.set_cons_succ]; refine hK _ ?_; clear hK K)
          refine still_end ?_
          go_wp2_with fail
          go_ret
          exact ⟨rfl, below_all B4.out B4.out.size B7.out.drew⟩
/-- What the frame wants. -/
theorem logTold_walk (w : World) (s : Int) (A : Option Addr) (n c : Nat) (ws : List Wt) (hw : WsIn w A ws) (hwl : ws.length = n) (hnc : n ≤ c) (hcm : c ≤ 9223372036854775807) (hA : 0 < n → A ≠ none) (hn47 : n ≤ 140737488351232)
    (R : Option Addr) (m d : Nat) (z : List Int) (hz : IsRow .i64 w R m d z) (hd : d * 8 ≤ 140737488351232) (at0 bit : Int) :
    Calls Try.prog 4 #[.int .i64 s, .slice A n c, .slice R m d, .int .i64 at0, .int .i64 bit] w fun e w' => e = .returned (.bool true) ∧ Below w.heap.size w w' := by
  obtain ⟨rs, hr, h1, h2, _⟩ := row_ints hz
  exact logTold_run s A R n c m d ws rs at0 bit w hw hwl hnc hcm hA hr h1 (by omega) (fun h e => by have := (h2 e).1; omega)
end Go.Proofs.Ytifamhmiibhohaa.LLogTold

namespace Go.Proofs.Ytifamhmiibhohaa.logTold
open Go.ChangeShapes Go.WideShapes Go.ChangeAt Go.RowKit Go.Joins
set_option linter.unusedVariables false
set_option linter.unusedSimpArgs false

open Go.Proofs.Ytifamhmiibhohaa.LLogTold
theorem own : ownKnob Try.prog.godebug = none := by kernel_rfl
theorem laidOut : laidOutB Try.prog = true := by kernel_rfl

set_option maxRecDepth 100000 in
theorem lifted (os : Os) (started : os.Started) (H : Type) (enc : TypeId × Value → H) :
    ReturnsInHanded {} Try.checked os 4 .any (Rows.logToldSpec.pre6 enc Try.prog Try.f4 Rows.logToldRow.domain false) (Rows.logToldSpec.post enc Try.prog Try.f4 false true false false) := by
  refine returnsInHanded_of_change_sized (C := Try.checked) own started (by kernel_rfl) Try.func4
    (ChangeSpec.witness6 (enc := enc) (C := Try.checked) false ⟨#[], #[.int .i64 0, .slice none 0 0, .slice none 0 0, .int .i64 0, .int .i64 0], []⟩ 8 (by kernel_rfl) (by kernel_rfl) (by kernel_rfl) (by kernel_rfl)) ?_
  intro W base args ds gs before hval0 hW hcnd hsz0 _
  have hval : ∀ (j : Nat) t v, Try.f4.params[j]? = some t → args[j]? = some v → Value.okWide Try.prog W .any base t v := hval0
  have hW' := hW
  obtain ⟨p, q, hA0, hV, rfl, hfz, hnd⟩ := hW
  have hA : DataW.TrodAll enc Try.prog W 0 (fun _ => true) true Try.f4.params.toList args.toList ds p := hA0
  have hsz : (DataW.weightsEach Try.prog (Try.f4.params.toList ++ Rows.logToldSpec.plain.varTypes Try.prog) (ds ++ gs)).all (· ≤ reachBytes) = true := hsz0
  rw [Try.params4] at hA hval hsz
  obtain ⟨v0, vs0, d0, ds0, p0, q0, hargs, rfl, rfl, h0, r0⟩ := trodAll_cons hA
  obtain ⟨v1, vs1, d1, ds1, p1, q1, rfl, rfl, rfl, h1, r1⟩ := trodAll_cons r0
  obtain ⟨v2, vs2, d2, ds2, p2, q2, rfl, rfl, rfl, h2, r2⟩ := trodAll_cons r1
  obtain ⟨v3, vs3, d3, ds3, p3, q3, rfl, rfl, rfl, h3, r3⟩ := trodAll_cons r2
  obtain ⟨v4, vs4, d4, ds4, p4, q4, rfl, rfl, rfl, h4, r4⟩ := trodAll_cons r3
  obtain ⟨rfl, rfl, rfl⟩ := trodAll_nil r4
  obtain rfl : args = #[v0, v1, v2, v3, v4] := by cases args; simp_all
  obtain ⟨rfl, rfl⟩ := trodVars_none hV
  obtain ⟨a0, rfl, rfl, rfl, w0⟩ := open_int Try.underlying3 (hval 0 3 v0 rfl rfl) h0
  have k1 := h1
  have lt1 : ∀ x ∈ p1, x.block < W.heap.size := by obtain ⟨m, hm⟩ := k1; exact DataW.trod_lt m _ _ _ hm
  obtain ⟨a1, len1, cap1, gs1, rfl, ro1, hl1, lc1, ml1, ha1, hb1⟩ := open_writes (hval 1 22 v1 rfl rfl) h1 (fun x hx => by simpa using List.all_eq_true.1 hsz x (DataW.weights_mem_each (j := 1) rfl rfl x hx))
  obtain ⟨a2, len2, cap2, rfl⟩ := okWide_slice Try.underlying23 (hval 2 23 v2 rfl rfl)
  have k2 := h2
  have lt2 : ∀ x ∈ p2, x.block < W.heap.size := by obtain ⟨m, hm⟩ := k2; exact DataW.trod_lt m _ _ _ hm
  obtain ⟨z2, iw2, e2⟩ : ∃ zs, IsRow .i64 W a2 len2 cap2 zs ∧ cap2 * 8 ≤ 140737488351232 := by
    obtain ⟨fuel, hf⟩ := h2
    rcases open_ints Try.underlying23 Try.underlying3 (by kernel_rfl) hf with ⟨hcs, _⟩ | ⟨x, l, c, zs, hcs, _, hl, hm, hz, hx, hcell, hwz⟩
    · simp [Value.cells] at hcs
      obtain ⟨rfl, rfl, rfl⟩ := hcs
      exact ⟨[], .inl ⟨rfl, rfl, rfl, rfl⟩, by omega⟩
    · simp [Value.cells] at hcs
      obtain ⟨rfl, rfl, rfl⟩ := hcs
      refine ⟨zs, .inr ⟨_, rfl, hl, hm, by simpa using hz, hcell, hwz⟩, ?_⟩
      simp only [Prod.mk.injEq] at hx
      rw [hx.1] at hsz
      have := sized_slice hsz (j := 2) (t := 23) (e := 3) rfl rfl Try.underlying23
      rw [show Try.prog.bytesOf 3 = 8 from by kernel_rfl] at this
      simp [lits, List.length_map, List.length_take, List.length_drop, reachBytes] at this
      simp at hz
      omega
  obtain ⟨a3, rfl, rfl, rfl, w3⟩ := open_int Try.underlying3 (hval 3 3 v3 rfl rfl) h3
  obtain ⟨a4, rfl, rfl, rfl, w4⟩ := open_int Try.underlying3 (hval 4 3 v4 rfl rfl) h4
  clear hA0 hval0
  refine (logTold_walk W a0 a1 len1 cap1 gs1 ro1 hl1 lc1 ml1 ha1 hb1 a2 len2 cap2 z2 iw2 e2 a3 a4).mono fun e W' ⟨he, bel⟩ => ?_
  subst he
  exact ⟨_, rfl, _, _, _, [], _, [], hW', trodAll_mk1 (shut_bool Try.underlying4 _), (trodAll_cons_mk (shut_int Try.underlying3 w0) (trodAll_cons_mk (Below.trod laidOut (by kernel_rfl) (of_decide_eq_true (by kernel_rfl)) k1 bel lt1) (trodAll_cons_mk (Below.trod laidOut (by kernel_rfl) (of_decide_eq_true (by kernel_rfl)) k2 bel lt2) (trodAll_cons_mk (shut_int Try.underlying3 w3) (trodAll_cons_mk (shut_int Try.underlying3 w4) trodAll_mk0))))), rfl, bel.frame _, fun h => by cases h⟩

theorem over : Rows.logToldRow.holds Try.pinned (OpenSpec.ofChange Rows.logToldSpec) :=
  OpenClaim.holds_of_wide 4 Try.f4 rfl rfl rfl rfl rfl rfl rfl ⟨rfl, rfl, rfl, rfl, rfl⟩ rfl rfl rfl rfl rfl (by kernel_rfl) Try.func4 (by kernel_rfl)
    (of_decide_eq_true (by kernel_rfl)) (by unfold Func.isWrapper; first | (rw [if_pos (by decide +kernel)]; kernel_rfl) | (rw [if_neg (by decide +kernel)]; exact ⟨rfl, rfl⟩))
    (fun os started H enc _ => lifted os started H enc)

theorem proved : Rows.LogToldSaid := over
#print axioms proved
end Go.Proofs.Ytifamhmiibhohaa.logTold
