
/-
  THE ROW of hayricklaw07.LogLays: for every input the law returns true, and its arguments read as they did. No condition.
-/
import Derived.Test.YtifamhmiibhohaaKR5N11
import Derived.Test.YtifamhmiibhohaaKR5N12
import Derived.Test.YtifamhmiibhohaaKR5N9
import Derived.StillTailTactics
import Derived.Test.YtifamhmiibhohaaRows
import Derived.ProofKit
import Derived.OpenShut
import Derived.ShutString
import Derived.ChangeOld
import Derived.SizedLaws
import Derived.Lib.SmallJoins
namespace Go.Proofs.Ytifamhmiibhohaa.LLogLays
open Go.RowKit Go.Proofs.Ytifamhmiibhohaa Go.Proofs.Ytifamhmiibhohaa.Wire Go.Proofs.Ytifamhmiibhohaa.Lay Go.Proofs.Ytifamhmiibhohaa.Log Go.Proofs.Ytifamhmiibhohaa.Mem
set_option maxHeartbeats 16000000
set_option maxRecDepth 100000
set_option linter.unusedVariables false
set_option linter.unusedSimpArgs false

theorem and_mask (b : Int) (M : Nat) (hM : M < 9223372036854775808) : 0 ≤ bits .and .i64 b (M : Int) ∧ bits .and .i64 b (M : Int) ≤ (M : Int) := by
  have h : (BitVec.ofInt 64 b &&& BitVec.ofInt 64 (M : Int)).toNat ≤ M := by
    rw [BitVec.toNat_and]
    refine Nat.le_trans Nat.and_le_right ?_
    rw [BitVec.ofInt_natCast, BitVec.toNat_ofNat]
    exact Nat.mod_le _ _
  have h2 : bits .and .i64 b (M : Int) = ((BitVec.ofInt 64 b &&& BitVec.ofInt 64 (M : Int)).toNat : Int) := by
    show IntKind.i64.wrap ((BitVec.ofInt 64 b &&& BitVec.ofInt 64 (M : Int)).toNat : Int) = _
    rw [IntKind.wrap_i64]; omega
  omega
/-- Blocks' rows, as a reader sees them. -/
def LAt (w : World) (g : Nat) (vs : List Value) (bl : List (List UInt8)) : Prop := RowAt w (some ⟨g, 0, none⟩) bl.length vs ∧ ∀ (i : Nat) (v : Value) (b : List UInt8), vs[i]? = some v → bl[i]? = some b →
  ∃ gi ci, v = .slice (some ⟨gi, 0, none⟩) 256 ci ∧ 256 ≤ ci ∧ ci ≤ 9223372036854775807 ∧ BytesAt w (some ⟨gi, 0, none⟩) 256 b
theorem LAt.below {w w' : World} {g : Nat} {vs : List Value} {bl : List (List UInt8)} (h : LAt w g vs bl) (hb : Below w.heap.size w w') : LAt w' g vs bl :=
  ⟨h.1.below hb, fun i v b h1 h2 => by
    obtain ⟨gi, ci, e, h3, h4, h5⟩ := h.2 i v b h1 h2
    exact ⟨gi, ci, e, h3, h4, h5.below hb⟩⟩
theorem LAt.drewN {w : World} {g : Nat} {vs : List Value} {bl : List (List UInt8)} (h : LAt w g vs bl) (k : Nat) : LAt (w.drewN k) g vs bl := h
theorem LAt.of {w : World} {col : Col} {B r g c : Nat} {bl : List (List UInt8)} {vs : List Value} (h1 : Row w col B r 31 1 (.slice (some ⟨g, 0, none⟩) bl.length c) bl.length vs) (h2 : Dts w col B vs bl) : LAt w g vs bl := by
  refine ⟨by have := rowAt_ownN h1.own; rwa [Nat.mul_one] at this, fun i v b e1 e2 => ?_⟩
  have := (h2.2 i v b e1 e2).own
  obtain ⟨gi, ci, _, rfl, _, _, h3, h4, _⟩ := own_form this (by omega)
  exact ⟨gi, ci, rfl, h3, by unfold maxLen at h4; omega, BytesAt.of_own this⟩
theorem LAt.at_ {w : World} {g i : Nat} {vs : List Value} {bl : List (List UInt8)} (h : LAt w g vs bl) {b : List UInt8} (hi : bl[i]? = some b) :
    ∃ gi ci, w.cell? ⟨g, i, none⟩ = some (.slice (some ⟨gi, 0, none⟩) 256 ci) ∧ 256 ≤ ci ∧ ci ≤ 9223372036854775807 ∧ BytesAt w (some ⟨gi, 0, none⟩) 256 b := by
  have hlt := (List.getElem?_eq_some_iff.1 hi).1
  obtain ⟨v, hv⟩ : ∃ v, vs[i]? = some v := ⟨_, List.getElem?_eq_getElem (by have := h.1.len; omega)⟩
  obtain ⟨gi, ci, rfl, h3, h4, h5⟩ := h.2 i v b hv hi
  obtain ⟨a, e, hc⟩ := h.1.2 (by omega)
  injection e with e
  subst e
  have hcell := hc i _ hv
  rw [show (⟨g, 0, none⟩ : Addr).add i = ⟨g, i, none⟩ from by simp [Addr.add]; omega] at hcell
  exact ⟨gi, ci, hcell, h3, h4, h5⟩
theorem logLays_run (s : Int) (A R : Option Addr) (n c m d : Nat) (ws : List Wt) (rs : List Int) (w : World) (hw : WsIn w A ws) (hwl : ws.length = n) (hnc : n ≤ c) (hcm : c ≤ 9223372036854775807) (hA : 0 < n → A ≠ none) (hn47 : n ≤ 140737488351232)
    (hr : RowAt w R m (ints rs)) (hmd : m ≤ d) (hdm : d ≤ 9223372036854775807) (hm47 : m ≤ 140737488351232) (hR : 0 < m → R ≠ none) :
    Calls Try.prog 3 #[.int .i64 s, .slice A n c, .slice R m d] w fun e w' => e = .returned (.bool true) ∧ Below w.heap.size w w' := by
  have hrl : rs.length = m := by have := hr.len; simpa [ints] using this
  have HW := Lib.hid hw
  have HR := Lib.hid hr
  obtain ⟨z, hz⟩ : ∃ z, bits .and .i64 s 65535 = z := ⟨_, rfl⟩
  obtain ⟨hz0, hz1⟩ := and_mask s 65535 (by omega)
  rw [show ((65535 : Nat) : Int) = 65535 from rfl, hz] at hz0 hz1
  have HN1 := Lib.hid (fun w => need_any (n : Int) (m : Int) w (by omega) (by omega))
  have HN2 := Lib.hid (fun w => needR_any (n : Int) (m : Int) w (by omega) (by omega))
  have HN3 := Lib.hid (fun w => need_any z (-3) w (by omega) (by omega))
  have HN4 := Lib.hid (fun w => needR_any z (-3) w (by omega) (by omega))
  have HNE := Lib.hid (need_nch n m)
  obtain ⟨n1, hn1⟩ : ∃ n1, need (n : Int) (m : Int) = n1 := ⟨_, rfl⟩
  obtain ⟨n3, hn3⟩ : ∃ n3, need z (-3) = n3 := ⟨_, rfl⟩
  rw [hn1] at HN1 HN2 HNE
  rw [hn3] at HN3 HN4
  clear hw hr hn1 hn3 hz0 hz1
  go_enter Try.func3, Try.ntmps3
  go_wp2_with fail
  refine (logAwake_true w).mono ?_
  rintro e w1 ⟨rfl, hb1⟩
  have B1 := Lib.hid hb1
  have HL := Lib.hid (lay_any s A R n c m d ws rs w1 (HW.out.below hb1) hwl hnc hcm hA (HR.out.below hb1) hmd hdm hR)
  clear hb1
  go_wp2_with fail
  refine HL.out.mono ?_
  rintro e w2 (⟨ht, rfl, hb2⟩ | ⟨ht, v, col, rfl, hb2, vs, hrow, hdts⟩)
  · have B2 := Lib.hid (below_all B1.out B1.out.size hb2)
    have HL2 := Lib.hid (layR_any s A R n c m d ws rs w2 (HW.out.below B2.out) hwl hnc hcm (HR.out.below B2.out) hmd hdm)
    clear hb2 HL
    go_wp2_with fail
    refine HL2.out.mono ?_
    rintro e w3 (⟨ht3, rfl, hb3⟩ | ⟨ht3, _⟩)
    · have B3 := Lib.hid (below_all B2.out B2.out.size hb3)
      clear hb3 HL2
      go_wp2_with fail
      refine (HN1.out _).mono ?_
      rintro e w' ⟨rfl, rfl⟩
      go_wp2_with fail
      refine (HN2.out _).mono ?_
      rintro e w' ⟨rfl, rfl⟩
      go_wp2_with fail
      refine (HN3.out _).mono ?_
      rintro e w' ⟨rfl, rfl⟩
      go_wp2_with fail
      refine (HN4.out _).mono ?_
      rintro e w' ⟨rfl, rfl⟩
      go_wp2_with fail
      go_loopw [12] (fun ii wr => ii = .int .i64 0 ∧ Below w.heap.size w wr) (fun _ _ => 0)
      case atStart => exact ⟨rfl, B3.out⟩
      case round =>
        obtain ⟨rfl, hb⟩ := hrel
        have B4 := Lib.hid hb
        clear hb B1 B2 B3
        go_wp2_with fail
        go_ret
        exact ⟨rfl, B4.out⟩
    · rw [ht3] at ht; cases ht
  · obtain ⟨bl, hbl⟩ : ∃ bl, tB s ws rs = bl := ⟨_, rfl⟩
    have hN := tB_n s ws rs
    rw [hbl, hwl, hrl] at hN
    have HBL := Lib.hid hbl
    rw [hbl] at hrow hdts
    obtain ⟨N, hNN⟩ : ∃ N, bl.length = N := ⟨_, rfl⟩
    rw [hNN] at hN
    have hn1N : n1 = (N : Int) := by rw [HNE.out, hN]
    have hN0 : 0 < N := by omega
    have hN6 : N ≤ 6001 := by
      have h6 := tHead_few ht
      rw [tHead_n, hwl, hrl] at h6
      omega
    clear hN
    obtain ⟨g, cg, _, rfl, _, _, hcg1, hcg2, _⟩ := own_form hrow.own (by omega)
    have L2 := Lib.hid (LAt.of hrow hdts)
    have B2 := Lib.hid (below_all B1.out B1.out.size hb2)
    have HL2 := Lib.hid (layR_any s A R n c m d ws rs w2 (HW.out.below B2.out) hwl hnc hcm (HR.out.below B2.out) hmd hdm)
    clear hb2 HL hrow hdts hbl
    subst hn1N
    rw [hNN]
    go_wp2_with fail
    refine HL2.out.mono ?_
    rintro e w3 (⟨ht3, _⟩ | ⟨ht3, v3, col3, rfl, hb3, vs3, hrow3, hdts3⟩)
    · rw [ht3] at ht; cases ht
    · rw [HBL.out] at hrow3 hdts3
      obtain ⟨g3, cg3, _, rfl, _, _, hcg31, hcg32, _⟩ := own_form hrow3.own (by omega)
      have L3 := Lib.hid (LAt.of hrow3 hdts3)
      have L23 := Lib.hid (L2.out.below hb3)
      have B3 := Lib.hid (below_all B2.out B2.out.size hb3)
      clear hb3 HL2 L2 hrow3 hdts3
      rw [hNN]
      go_wp2_with fail
      refine (HN1.out _).mono ?_
      rintro e w' ⟨rfl, rfl⟩
      go_wp2_with fail
      refine (HN2.out _).mono ?_
      rintro e w' ⟨rfl, rfl⟩
      go_wp2_with fail
      refine (HN3.out _).mono ?_
      rintro e w' ⟨rfl, rfl⟩
      go_wp2_with fail
      refine (HN4.out _).mono ?_
      rintro e w' ⟨rfl, rfl⟩
      go_wp2_with fail
      go_loopw [12] (fun ii wr => ∃ i : Nat, ii = .int .i64 (i : Int) ∧ i ≤ N ∧ Below w.heap.size w wr ∧ LAt wr g vs bl ∧ LAt wr g3 vs3 bl) (fun ii _ => N - (intOf ii).toNat)
      case atStart => exact ⟨0, rfl, by omega, B3.out, L23.out, L3.out⟩
      case round =>
        obtain ⟨i, rfl, hi, hb, l2, l3⟩ := hrel
        have B4 := Lib.hid hb
        have M2 := Lib.hid l2
        have M3 := Lib.hid l3
        clear hb l2 l3 B1 B2 B3 L23 L3
        by_cases hlt : i < N
        · have hii : (i : Int) < (N : Int) := by omega
          have hi0 : (0 : Int) ≤ (i : Int) := by omega
          have hin : ((i : Int)).toNat = i := by omega
          obtain ⟨x, hx⟩ : ∃ x, bl[i]? = some x := ⟨_, List.getElem?_eq_getElem (by omega)⟩
          obtain ⟨ga, ca, hca, _, _, hya⟩ := M2.out.at_ hx
          obtain ⟨gb, cb, hcb, _, _, hyb⟩ := M3.out.at_ hx
          have HS := Lib.hid (same_any (some ⟨ga, 0, none⟩) (some ⟨gb, 0, none⟩) 256 256 ca cb x x wr.drew (by omega) hya hyb)
          rw [show (x == x) = true by simp] at HS
          clear hx hya hyb
          go_wp2_with fail
          refine region_mix [true, true, true, true, true, true, true, true, false] (S := fun w' => w'.cell? ⟨g, i, none⟩ = some (.slice (some ⟨ga, 0, none⟩) 256 ca) ∧ w'.cell? ⟨g3, i, none⟩ = some (.slice (some ⟨gb, 0, none⟩) 256 cb)) (by kernel_rfl) (by kernel_rfl) (fun _ _ d _ _ h => by cases d <;> exact h) ⟨hca, hcb⟩ ?_
          iterate 8 (refine mix_take (v := ?_) (by kernel_rfl) ?_ (fun K hK => ?_); rotate_left; (· (intro w' hSw; (try dsimp only at hSw); go_simp; with_reducible rfl)); simp only [Act.put, List.setIfInBounds_toArray, List.set_cons_zero, List.set_cons_succ]; refine hK _ ?_; clear hK K)
          refine mix_do (E := False) (fun K hK => ?_) (by kernel_rfl)
          go_simp
          refine HS.out.mono ?_
          rintro e w4 ⟨rfl, nq, rfl⟩
          refine hK.out _ _ (⟨hca, hcb⟩) ?_
          clear hK K
          try simp only [Act.put, List.setIfInBounds_toArray, List.set_cons_zero, List.set_cons_succ]
          refine mix_still ?_
          iterate 1 (refine still_take (v := ?_) (by kernel_rfl) ?_ (fun K hK => ?_); rotate_left; (· (go_simp; with_reducible rfl)); simp only [Act.put, List.setIfInBounds_toArray, List.set_cons_zero, List.set_cons_succ]; refine hK _ ?_; clear hK K)
          refine still_end ?_
          have B5 := Lib.hid (show Below w.heap.size w (wr.drew.drewN nq) from below_drewN B4.out.drew nq)
          have M4 := Lib.hid (show LAt (wr.drew.drewN nq) g vs bl from M2.out)
          have M5 := Lib.hid (show LAt (wr.drew.drewN nq) g3 vs3 bl from M3.out)
          clear hca hcb M2 M3 HS B4
          generalize wr.drew.drewN nq = w5 at *
          go_wp2_with fail
          go_roundw
          case rel => exact ⟨i + 1, by go_num, by omega, B5.out, M4.out, M5.out⟩
          case measure => simp [intOf]; omega
        · obtain rfl : i = N := by omega
          have hii : ¬ (i : Int) < (i : Int) := by omega
          go_wp2_with fail
          refine (HN1.out _).mono ?_
          rintro e w' ⟨rfl, rfl⟩
          go_wp2_with fail
          go_ret
          exact ⟨rfl, B4.out⟩
/-- What the frame wants. -/
theorem logLays_walk (w : World) (s : Int) (A : Option Addr) (n c : Nat) (ws : List Wt) (hw : WsIn w A ws) (hwl : ws.length = n) (hnc : n ≤ c) (hcm : c ≤ 9223372036854775807) (hA : 0 < n → A ≠ none) (hn47 : n ≤ 140737488351232)
    (R : Option Addr) (m d : Nat) (z : List Int) (hz : IsRow .i64 w R m d z) (hd : d * 8 ≤ 140737488351232) :
    Calls Try.prog 3 #[.int .i64 s, .slice A n c, .slice R m d] w fun e w' => e = .returned (.bool true) ∧ Below w.heap.size w w' := by
  obtain ⟨rs, hr, h1, h2, _⟩ := row_ints hz
  exact logLays_run s A R n c m d ws rs w hw hwl hnc hcm hA hn47 hr h1 (by omega) (by omega) (fun h e => by have := (h2 e).1; omega)
end Go.Proofs.Ytifamhmiibhohaa.LLogLays

namespace Go.Proofs.Ytifamhmiibhohaa.logLays
open Go.ChangeShapes Go.WideShapes Go.ChangeAt Go.RowKit Go.Joins
set_option linter.unusedVariables false
set_option linter.unusedSimpArgs false

open Go.Proofs.Ytifamhmiibhohaa.LLogLays
theorem own : ownKnob Try.prog.godebug = none := by kernel_rfl
theorem laidOut : laidOutB Try.prog = true := by kernel_rfl

set_option maxRecDepth 100000 in
theorem lifted (os : Os) (started : os.Started) (H : Type) (enc : TypeId × Value → H) :
    ReturnsInHanded {} Try.checked os 3 .any (Rows.logLaysSpec.pre6 enc Try.prog Try.f3 Rows.logLaysRow.domain false) (Rows.logLaysSpec.post enc Try.prog Try.f3 false true false false) := by
  refine returnsInHanded_of_change_sized (C := Try.checked) own started (by kernel_rfl) Try.func3
    (ChangeSpec.witness6 (enc := enc) (C := Try.checked) false ⟨#[], #[.int .i64 0, .slice none 0 0, .slice none 0 0], []⟩ 8 (by kernel_rfl) (by kernel_rfl) (by kernel_rfl) (by kernel_rfl)) ?_
  intro W base args ds gs before hval0 hW hcnd hsz0 _
  have hval : ∀ (j : Nat) t v, Try.f3.params[j]? = some t → args[j]? = some v → Value.okWide Try.prog W .any base t v := hval0
  have hW' := hW
  obtain ⟨p, q, hA0, hV, rfl, hfz, hnd⟩ := hW
  have hA : DataW.TrodAll enc Try.prog W 0 (fun _ => true) true Try.f3.params.toList args.toList ds p := hA0
  have hsz : (DataW.weightsEach Try.prog (Try.f3.params.toList ++ Rows.logLaysSpec.plain.varTypes Try.prog) (ds ++ gs)).all (· ≤ reachBytes) = true := hsz0
  rw [Try.params3] at hA hval hsz
  obtain ⟨v0, vs0, d0, ds0, p0, q0, hargs, rfl, rfl, h0, r0⟩ := trodAll_cons hA
  obtain ⟨v1, vs1, d1, ds1, p1, q1, rfl, rfl, rfl, h1, r1⟩ := trodAll_cons r0
  obtain ⟨v2, vs2, d2, ds2, p2, q2, rfl, rfl, rfl, h2, r2⟩ := trodAll_cons r1
  obtain ⟨rfl, rfl, rfl⟩ := trodAll_nil r2
  obtain rfl : args = #[v0, v1, v2] := by cases args; simp_all
  obtain ⟨rfl, rfl⟩ := trodVars_none hV
  obtain ⟨a0, rfl, rfl, rfl, w0⟩ := open_int Try.underlying3 (hval 0 3 v0 rfl rfl) h0
  have k1 := h1
  have lt1 : ∀ x ∈ p1, x.block < W.heap.size := by obtain ⟨m, hm⟩ := k1; exact DataW.trod_lt m _ _ _ hm
  obtain ⟨a1, len1, cap1, gs1, rfl, ro1, hl1, lc1, ml1, ha1, hb1⟩ := open_writes (hval 1 22 v1 rfl rfl) h1 (fun x hx => by simpa using List.all_eq_true.1 hsz x (DataW.weights_mem_each (j := 1) rfl rfl x hx))
  obtain ⟨a2, len2, cap2, rfl⟩ := okWide_slice Try.underlying23 (hval 2 23 v2 rfl rfl)
  have k2 := h2
  have lt2 : ∀ x ∈ p2, x.block < W.heap.size := by obtain ⟨m, hm⟩ := k2; exact DataW.trod_lt m _ _ _ hm
  obtain ⟨z2, iw2, e2⟩ : ∃ zs, IsRow .i64 W a2 len2 cap2 zs ∧ cap2 * 8 ≤ 140737488351232 := by
    obtain ⟨fuel, hf⟩ := h2
    rcases open_ints Try.underlying23 Try.underlying3 (by kernel_rfl) hf with ⟨hcs, _⟩ | ⟨x, l, c, zs, hcs, _, hl, hm, hz, hx, hcell, hwz⟩
    · simp [Value.cells] at hcs
      obtain ⟨rfl, rfl, rfl⟩ := hcs
      exact ⟨[], .inl ⟨rfl, rfl, rfl, rfl⟩, by omega⟩
    · simp [Value.cells] at hcs
      obtain ⟨rfl, rfl, rfl⟩ := hcs
      refine ⟨zs, .inr ⟨_, rfl, hl, hm, by simpa using hz, hcell, hwz⟩, ?_⟩
      simp only [Prod.mk.injEq] at hx
      rw [hx.1] at hsz
      have := sized_slice hsz (j := 2) (t := 23) (e := 3) rfl rfl Try.underlying23
      rw [show Try.prog.bytesOf 3 = 8 from by kernel_rfl] at this
      simp [lits, List.length_map, List.length_take, List.length_drop, reachBytes] at this
      simp at hz
      omega
  clear hA0 hval0
  refine (logLays_walk W a0 a1 len1 cap1 gs1 ro1 hl1 lc1 ml1 ha1 hb1 a2 len2 cap2 z2 iw2 e2).mono fun e W' ⟨he, bel⟩ => ?_
  subst he
  exact ⟨_, rfl, _, _, _, [], _, [], hW', trodAll_mk1 (shut_bool Try.underlying4 _), (trodAll_cons_mk (shut_int Try.underlying3 w0) (trodAll_cons_mk (Below.trod laidOut (by kernel_rfl) (of_decide_eq_true (by kernel_rfl)) k1 bel lt1) (trodAll_cons_mk (Below.trod laidOut (by kernel_rfl) (of_decide_eq_true (by kernel_rfl)) k2 bel lt2) trodAll_mk0))), rfl, bel.frame _, fun h => by cases h⟩

theorem over : Rows.logLaysRow.holds Try.pinned (OpenSpec.ofChange Rows.logLaysSpec) :=
  OpenClaim.holds_of_wide 3 Try.f3 rfl rfl rfl rfl rfl rfl rfl ⟨rfl, rfl, rfl, rfl, rfl⟩ rfl rfl rfl rfl rfl (by kernel_rfl) Try.func3 (by kernel_rfl)
    (of_decide_eq_true (by kernel_rfl)) (by unfold Func.isWrapper; first | (rw [if_pos (by decide +kernel)]; kernel_rfl) | (rw [if_neg (by decide +kernel)]; exact ⟨rfl, rfl⟩))
    (fun os started H enc _ => lifted os started H enc)

theorem proved : Rows.LogLaysSaid := over
#print axioms proved
end Go.Proofs.Ytifamhmiibhohaa.logLays
