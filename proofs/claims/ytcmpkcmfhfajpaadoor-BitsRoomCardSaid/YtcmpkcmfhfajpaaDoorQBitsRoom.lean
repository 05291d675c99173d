
/-
  THE ROW of hayricklaw05.BitsRoom: for every input the law returns true, and its arguments read as they did. No condition.
-/
import Derived.Test.YtcmpkcmfhfajpaaDoorKR4N7
import Derived.Test.YtcmpkcmfhfajpaaDoorKR4N4
import Derived.Test.YtcmpkcmfhfajpaaDoorRows
import Derived.ProofKit
import Derived.OpenShut
import Derived.ShutString
import Derived.ChangeOld
import Derived.SizedLaws
import Derived.Lib.SmallJoins
import Derived.Test.YtcmpkcmfhfajpaaDoorTie
import Derived.Test.YtcmpkcmfhfajpaaDoorCards
import Derived.LaidMore
import Derived.Stop.Joined
import Derived.SevenTiedAt
namespace Go.Proofs.YtcmpkcmfhfajpaaDoor.Bits
open Go.RowKit Go.Proofs.YtcmpkcmfhfajpaaDoor.Wire
set_option maxHeartbeats 16000000
set_option maxRecDepth 100000
set_option linter.unusedVariables false
set_option linter.unusedSimpArgs false

theorem bitsRoom_run (A : Option Addr) (n cap : Nat) (bs : List UInt8) (want : Int) (W : World) (hT : Tab W) (hn : n ≤ cap) (hc : cap ≤ 140737488351232) (hA : A = none → n = 0 ∧ cap = 0) (hb : BytesAt W A n bs) :
    Calls Tryd.prog 5 #[.slice A n cap, .int .i64 want] W fun e w' => e = .returned (.bool true) ∧ Below W.heap.size W w' := by
  have HA := Lib.hid (awake_any W hT)
  have HT := Lib.hid hT
  have HB := Lib.hid hb
  have HAA := Lib.hid hA
  have HZ := Lib.hid (zerosZ_zc bs)
  clear hT hb hA
  by_cases hw : want < 1
  · have HFX := Lib.hid (show findX bs (-1) want = (0, 0, false) by rw [findX, if_pos hw])
    go_enter Tryd.func5, Tryd.ntmps5
    go_wp2_with fail
    refine HA.out.mono ?_
    rintro e w1 ⟨rfl, hb1⟩
    have B1' := Lib.hid hb1
    have BY1 := Lib.hid (HB.out.below hb1)
    have T1 := Lib.hid (HT.out.below hb1)
    clear hb1 HA
    go_wp2_with fail
    refine (find_any A n cap bs (-1) want w1 BY1.out T1.out (by omega)).mono ?_
    rintro e w2 ⟨rfl, hb2⟩
    rw [HFX.out]
    dsimp only
    have B2' := Lib.hid (below_all B1'.out B1'.out.size hb2)
    clear hb2
    go_wp2_with fail
    go_ret
    exact ⟨rfl, B2'.out⟩
  by_cases hz : zc (setN bs) 2016 = 0
  · have HFX := Lib.hid (show findX bs (-1) want = (0, 0, false) by rw [findX, if_neg hw, runN_set (by omega) (.inl (by omega)), if_neg (by omega), findC_full hz])
    have HZ0 := Lib.hid (show zerosZ bs = 0 by rw [HZ.out, hz]; rfl)
    clear hz
    go_enter Tryd.func5, Tryd.ntmps5
    go_wp2_with fail
    refine HA.out.mono ?_
    rintro e w1 ⟨rfl, hb1⟩
    have B1' := Lib.hid hb1
    have BY1 := Lib.hid (HB.out.below hb1)
    have T1 := Lib.hid (HT.out.below hb1)
    clear hb1 HA
    go_wp2_with fail
    refine (find_any A n cap bs (-1) want w1 BY1.out T1.out (by omega)).mono ?_
    rintro e w2 ⟨rfl, hb2⟩
    rw [HFX.out]
    dsimp only
    have B2' := Lib.hid (below_all B1'.out B1'.out.size hb2)
    have BY2 := Lib.hid (BY1.out.below hb2)
    clear hb2
    go_wp2_with fail
    refine (zeros_any A n cap bs w2 hn (by omega) HAA.out BY2.out).mono ?_
    rintro e w' ⟨rfl, rfl⟩
    rw [HZ0.out]
    go_wp2_with fail
    go_ret
    exact ⟨rfl, B2'.out⟩
  obtain ⟨pi, hfx⟩ := room (bs := bs) (want := want) (by omega) hz
  have hzb : (zerosZ bs == 0) = false := by rw [HZ.out]; simp; omega
  have hOl := (bo_good (setN bs) (setN_far bs 2016 (Nat.le_refl _))).l2
  obtain ⟨O, hO⟩ : ∃ O, (bo (setN bs)).2 = O := ⟨_, rfl⟩
  rw [hO] at hfx hOl
  have HFX := Lib.hid hfx
  have HO := Lib.hid hO
  have HOL := Lib.hid hOl
  obtain ⟨zz, hzz⟩ : ∃ zz, zerosZ bs = zz := ⟨_, rfl⟩
  rw [hzz] at hzb
  have HZZ := Lib.hid hzz
  clear hfx hO hz HZ hzz
  go_enter Tryd.func5, Tryd.ntmps5
  go_wp2_with fail
  refine HA.out.mono ?_
  rintro e w1 ⟨rfl, hb1⟩
  have B1' := Lib.hid hb1
  have BY1 := Lib.hid (HB.out.below hb1)
  have T1 := Lib.hid (HT.out.below hb1)
  clear hb1 HA
  go_wp2_with fail
  refine (find_any A n cap bs (-1) want w1 BY1.out T1.out (by omega)).mono ?_
  rintro e w2 ⟨rfl, hb2⟩
  rw [HFX.out]
  dsimp only
  have B2' := Lib.hid (below_all B1'.out B1'.out.size hb2)
  have BY2 := Lib.hid (BY1.out.below hb2)
  have T2' := Lib.hid (T1.out.below hb2)
  clear hb2
  obtain ⟨G, hG⟩ : ∃ G, grF O 11 = G := ⟨_, rfl⟩
  rw [hG]
  have HG := Lib.hid hG
  obtain ⟨N, hN⟩ : ∃ N, min want G = N := ⟨_, rfl⟩
  rw [hN]
  have HN := Lib.hid hN
  clear hG hN
  have HZE := Lib.hid (zeros_any A n cap bs w2 hn (by omega) HAA.out BY2.out)
  rw [HZZ.out] at HZE
  go_wp2_with fail
  refine HZE.out.mono ?_
  rintro e w' ⟨rfl, rfl⟩
  clear HZE
  go_wp2_with fail
  clear hzb
  refine (orders_any A n cap bs w2 BY2.out T2'.out).mono ?_
  rintro e w3 ⟨rfl, hb3⟩
  rw [HO.out]
  have B3' := Lib.hid (below_all B2'.out B2'.out.size hb3)
  clear hb3
  have hOs : (ints O).toArray.size = 11 := by simp [ints, hOl]
  have HCG := Lib.hid (show ∀ k, k < 11 → (ints O).toArray[k]? = some (.int .i64 (O.getD k 0)) from fun k hk => cells_get (by omega))
  have HON := Lib.hid (cells_one O)
  obtain ⟨cs, hcs⟩ : ∃ cs, (ints O).toArray = cs := ⟨_, rfl⟩
  rw [hcs] at hOs HCG HON ⊢
  have HIN := Lib.hid (show (Tryd.prog.info? 27).map (·.size) = some cs.size by rw [hOs]; kernel_rfl)
  have K3 := Lib.hid (Blk.new w3 27 #[.int .i64 0, .int .i64 0, .int .i64 0, .int .i64 0, .int .i64 0, .int .i64 0, .int .i64 0, .int .i64 0, .int .i64 0, .int .i64 0, .int .i64 0])
  obtain ⟨w4, hw4⟩ : ∃ w4, (w3.alloc (.cells #[.int .i64 0, .int .i64 0, .int .i64 0, .int .i64 0, .int .i64 0, .int .i64 0, .int .i64 0, .int .i64 0, .int .i64 0, .int .i64 0, .int .i64 0] 27)).setRow w3.heap.size cs = w4 := ⟨_, rfl⟩
  have K4 := Lib.hid (show Blk w4 w3.heap.size 27 cs by rw [← hw4]; exact setRow_heap _ w3.heap.size _ cs 27 (0, 0) K3.out)
  have B34 := Lib.hid (show Below w3.heap.size w3 w4 from hw4 ▸ ((Below.refl w3.heap.size w3).alloc (Nat.le_refl _) _).trans ⟨rfl, rfl, rfl, by simp [World.setRow], fun k hk => setRow_other _ w3.heap.size k cs (by omega)⟩)
  have B4' := Lib.hid (below_all B3'.out B3'.out.size B34.out)
  have HW4 := Lib.hid hw4
  have HSZ := Lib.hid hOs
  clear hw4 hcs hOs hOl
  go_wp2_with (first
    | (refine wpList_store_row rfl 27 (.tmp 9) (.tmp 41) rfl w3.heap.size cs rfl rfl 27 _ K3.out HIN.out (by rw [HSZ.out]; rfl) HON.out ?_; rw [HW4.out])
    | fail)
  go_loopw [10, 11] (fun g i wr => ∃ k : Nat, k ≤ 11 ∧ i = .int .i64 k ∧ g = .int .i64 (grF O k) ∧ wr = w4) (fun _ i _ => 11 - (intOf i).toNat)
  case atStart => exact ⟨0, by omega, rfl, rfl, rfl⟩
  case round =>
    obtain ⟨k, hk, rfl, rfl, rfl⟩ := hrel
    by_cases hlt : k < 11
    · have c2 : wr.cell? ⟨w3.heap.size, k, none⟩ = some (.int .i64 (O.getD k 0)) := (K4.out.cell k).trans (HCG.out k hlt)
      have HS := Lib.hid (show grF O (k + 1) = if 0 < O.getD k 0 then ((2 ^ k : Nat) : Int) else grF O k from rfl)
      have k0 : (0 : Int) ≤ (k : Int) := by omega
      have k1 : ¬ (k : Int) < 0 := by omega
      have hpt := pow_ten k (by omega)
      have wp : IntKind.i64.wrap ((2 : Int) ^ k) = ((2 ^ k : Nat) : Int) := by rw [hpt.1, IntKind.wrap_i64]; omega
      obtain ⟨cv, hcv⟩ : ∃ cv, O.getD k 0 = cv := ⟨_, rfl⟩
      rw [hcv] at c2 HS
      obtain ⟨P, hP⟩ : ∃ P, (2 : Nat) ^ k = P := ⟨_, rfl⟩
      rw [hP] at wp HS
      clear hcv hpt hP
      generalize grF O k = gk at *
      by_cases hc : 0 < cv
      · have HS2 := Lib.hid (show grF O (k + 1) = (P : Int) by rw [HS.out, if_pos hc])
        go_wp2_with fail
        go_roundw
        case rel => exact ⟨k + 1, by omega, by go_num, by rw [HS2.out], by first | trivial | rfl⟩
        case measure => simp [intOf]; omega
      · have HS2 := Lib.hid (show grF O (k + 1) = gk by rw [HS.out, if_neg hc])
        go_wp2_with fail
        go_roundw
        case rel => exact ⟨k + 1, by omega, by go_num, by rw [HS2.out], by first | trivial | rfl⟩
        case measure => simp [intOf]; omega
    · obtain rfl : k = 11 := by omega
      rw [HG.out]
      have hmin := HN.out
      go_wp2_with fail
      go_ret
      exact ⟨by first | rfl | simp, B4'.out⟩
theorem bitsRoom_walk (w : World) (hT : Tab w) (a0 : Option Addr) (len0 cap0 : Nat) (z0 : List Int) (w0 : IsRow .u8 w a0 len0 cap0 z0) (e0 : cap0 * 1 ≤ 140737488351232) (a1 : Int) (w1 : (Lit.int .i64 a1).wf = true) :
    Calls Tryd.prog 5 #[.slice a0 len0 cap0, .int .i64 a1] w fun e w' => e = .returned (.bool true) ∧ Below w.heap.size w w' := by
  obtain ⟨bs, hb, hl, hA⟩ := row_bytes w0
  exact bitsRoom_run a0 len0 cap0 bs a1 w hT hl (by omega) hA hb
end Go.Proofs.YtcmpkcmfhfajpaaDoor.Bits

namespace Go.Proofs.YtcmpkcmfhfajpaaDoor.bitsRoom
open Go.ChangeShapes Go.WideShapes Go.ChangeAt Go.RowKit Go.Joins
set_option linter.unusedVariables false
set_option linter.unusedSimpArgs false

open Go.Proofs.YtcmpkcmfhfajpaaDoor.Bits
theorem own : ownKnob Tryd.prog.godebug = none := by kernel_rfl
theorem laidOut : laidOutB Tryd.prog = true := by kernel_rfl

theorem door_met (os : Os) (args : Array Value) : laidMetH Tryd.prog Bits.laidL ((World.doorLaid Tryd.prog 400 os).forCall (fun _ _ => 0) ⟨#[], args, []⟩).memory :=
  laidMetH_of_parts3 (fuel := 8) (laidMet_of_run' 8 (by kernel_rfl) (by kernel_rfl)) (by kernel_rfl) (by kernel_rfl)

set_option maxRecDepth 100000 in
theorem lifted (os : Os) (started : os.Started) (H : Type) (enc : TypeId × Value → H) :
    ReturnsInHanded {} Tryd.checked os 5 .any (fun w args => (Rows.bitsRoomSpec.pre enc Tryd.prog Tryd.f5 Rows.bitsRoomRow.domain false w args ∧ laidMetH Tryd.prog Bits.laidL w) ∧ sizedMet enc Tryd.prog Tryd.f5 (OpenSpec.ofChange Rows.bitsRoomSpec) false w args) (Rows.bitsRoomSpec.post enc Tryd.prog Tryd.f5 false true false false) := by
  refine returnsInHanded_of_change_and (C := Tryd.checked) (X := fun w _ => laidMetH Tryd.prog Bits.laidL w) (fun _ _ _ hh h => h.of_heap hh) own started (by kernel_rfl) Tryd.func5
    (ChangeSpec.witness_shaped (enc := enc) (C := Tryd.checked) (os := os) (X := fun w _ => laidMetH Tryd.prog Bits.laidL w) false (World.doorLaid Tryd.prog 400 os) #[.slice none 0 0, .int .i64 0] 8 rfl (World.shaped_of_RefB (by kernel_rfl) (by kernel_rfl)) (by kernel_rfl) (by kernel_rfl) (by kernel_rfl) (door_met os _)) ?_
  intro W base args ds gs before hval0 hW hcnd hsz0 hL _
  have hval : ∀ (j : Nat) t v, Tryd.f5.params[j]? = some t → args[j]? = some v → Value.okWide Tryd.prog W .any base t v := hval0
  have hW' := hW
  obtain ⟨p, q, hA0, hV, rfl, hfz, hnd⟩ := hW
  have hA : DataW.TrodAll enc Tryd.prog W 0 (fun _ => true) true Tryd.f5.params.toList args.toList ds p := hA0
  have hsz : (DataW.weightsEach Tryd.prog (Tryd.f5.params.toList ++ Rows.bitsRoomSpec.plain.varTypes Tryd.prog) (ds ++ gs)).all (· ≤ reachBytes) = true := hsz0
  rw [Tryd.params5] at hA hval hsz
  obtain ⟨v0, vs0, d0, ds0, p0, q0, hargs, rfl, rfl, h0, r0⟩ := trodAll_cons hA
  obtain ⟨v1, vs1, d1, ds1, p1, q1, rfl, rfl, rfl, h1, r1⟩ := trodAll_cons r0
  obtain ⟨rfl, rfl, rfl⟩ := trodAll_nil r1
  obtain rfl : args = #[v0, v1] := by cases args; simp_all
  obtain ⟨rfl, rfl⟩ := trodVars_none hV
  obtain ⟨a0, len0, cap0, rfl⟩ := okWide_slice Tryd.underlying22 (hval 0 22 v0 rfl rfl)
  have k0 := h0
  have lt0 : ∀ x ∈ p0, x.block < W.heap.size := by obtain ⟨m, hm⟩ := k0; exact DataW.trod_lt m _ _ _ hm
  obtain ⟨z0, w0, e0⟩ : ∃ zs, IsRow .u8 W a0 len0 cap0 zs ∧ cap0 * 1 ≤ 140737488351232 := by
    obtain ⟨fuel, hf⟩ := h0
    rcases open_ints Tryd.underlying22 Tryd.underlying5 (by kernel_rfl) hf with ⟨hcs, _⟩ | ⟨x, l, c, zs, hcs, _, hl, hm, hz, hx, hcell, hwz⟩
    · simp [Value.cells] at hcs
      obtain ⟨rfl, rfl, rfl⟩ := hcs
      exact ⟨[], .inl ⟨rfl, rfl, rfl, rfl⟩, by omega⟩
    · simp [Value.cells] at hcs
      obtain ⟨rfl, rfl, rfl⟩ := hcs
      refine ⟨zs, .inr ⟨_, rfl, hl, hm, by simpa using hz, hcell, hwz⟩, ?_⟩
      simp only [Prod.mk.injEq] at hx
      rw [hx.1] at hsz
      have := sized_slice hsz (j := 0) (t := 22) (e := 5) rfl rfl Tryd.underlying22
      rw [show Tryd.prog.bytesOf 5 = 1 from by kernel_rfl] at this
      simp [lits, List.length_map, List.length_take, List.length_drop, reachBytes] at this
      simp at hz
      omega
  obtain ⟨a1, rfl, rfl, rfl, w1⟩ := open_int Tryd.underlying3 (hval 1 3 v1 rfl rfl) h1
  clear hA0 hval0
  refine (bitsRoom_walk W (Bits.tab_of_laid hL) a0 len0 cap0 z0 w0 e0 a1 w1).mono fun e W' ⟨he, bel⟩ => ?_
  subst he
  exact ⟨_, rfl, _, _, _, [], _, [], hW', trodAll_mk1 (shut_bool Tryd.underlying4 _), (trodAll_cons_mk (Below.trod laidOut (by kernel_rfl) (of_decide_eq_true (by kernel_rfl)) k0 bel lt0) (trodAll_cons_mk (shut_int Tryd.underlying3 w1) trodAll_mk0)), rfl, bel.frame _, fun h => by cases h⟩

theorem over : Rows.bitsRoomRow.holds Tryd.pinned (OpenSpec.ofChange Rows.bitsRoomSpec) :=
  OpenClaim.holds_of_wide 5 Tryd.f5 rfl rfl rfl rfl rfl rfl rfl ⟨rfl, rfl, rfl, rfl, rfl⟩ rfl rfl rfl rfl rfl (by kernel_rfl) Tryd.func5 (by kernel_rfl)
    (of_decide_eq_true (by kernel_rfl)) (by unfold Func.isWrapper; first | (rw [if_pos (by decide +kernel)]; kernel_rfl) | (rw [if_neg (by decide +kernel)]; exact ⟨rfl, rfl⟩))
    (fun os started H enc _ => lifted os started H enc)

theorem proved : Rows.BitsRoomCardSaid :=
  Claim7.holds_tied_plain_at .later [] [.data, .data] true (true, "96ebdc0b6590c3421474a3afdebc92b9620e8281886a65cccbfbd02a6d73769d") true
    over (fun _ h => by cases h) (by kernel_rfl) (fun _ h => by cases h) bitsRoom_row_tie rfl ⟨rfl, rfl⟩ (by kernel_rfl) rfl
    (fun f fn hf hfn => by
      obtain rfl : f = 5 := Option.some.inj ((show Tryd.prog.funcNamed "hayrick/hayricklaw05.BitsRoom" = some 5 by kernel_rfl).symm.trans hf) |>.symm
      obtain rfl : fn = Tryd.f5 := (Option.some.inj (Tryd.func5.symm.trans hfn)).symm
      exact ⟨by kernel_rfl, fun j t ht => by
        have ha : (Tryd.f5.params.all fun t => !Tryd.prog.wantsStandIn t) = true := by kernel_rfl
        have hb := Array.all_eq_true_iff_forall_mem.1 ha t (Array.mem_of_getElem? ht)
        exact Bool.not_eq_true' _ ▸ hb⟩)
    (by kernel_rfl)
#print axioms proved
end Go.Proofs.YtcmpkcmfhfajpaaDoor.bitsRoom
