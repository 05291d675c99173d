
/-
  THE ROW of hayricklaw05.BitsBuddies: for every input the law returns true, and its arguments read as they did. No condition.
-/
import Derived.Test.YtcmpkcmfhfajpaaDoorKR4N7
import Derived.Test.YtcmpkcmfhfajpaaDoorKR4N4
import Derived.Test.YtcmpkcmfhfajpaaDoorRows
import Derived.ProofKit
import Derived.OpenShut
import Derived.ShutString
import Derived.ChangeOld
import Derived.SizedLaws
import Derived.Lib.SmallJoins
import Derived.Test.YtcmpkcmfhfajpaaDoorTie
import Derived.Test.YtcmpkcmfhfajpaaDoorCards
import Derived.LaidMore
import Derived.Stop.Joined
import Derived.SevenTiedAt
namespace Go.Proofs.YtcmpkcmfhfajpaaDoor.Bits
open Go.RowKit Go.Proofs.YtcmpkcmfhfajpaaDoor.Wire
set_option maxHeartbeats 16000000
set_option maxRecDepth 100000
set_option linter.unusedVariables false
set_option linter.unusedSimpArgs false

theorem sumC_mono (s : Nat → Bool) (a : Nat) : ∀ m k, sumC s a k ≤ sumC s a (k + m)
  | 0, k => Nat.le_refl _
  | m + 1, k => Nat.le_trans (sumC_mono s a m k) (by rw [← Nat.add_assoc]; simp only [sumC]; omega)
theorem sumC_le {bs : List UInt8} {k : Nat} (hk : k ≤ 11) : sumC (setN bs) 2017 k ≤ 2016 := by
  have h1 := sumC_mono (setN bs) 2017 (11 - k) k
  rw [show k + (11 - k) = 11 by omega, sum_all (setN bs) (setN_far bs 2016 (Nat.le_refl _))] at h1
  exact Nat.le_trans h1 (zc_le _ _)
theorem bitsBuddies_run (A : Option Addr) (n cap : Nat) (bs : List UInt8) (goal want : Int) (W : World) (hT : Tab W) (hn : n ≤ cap) (hc : cap ≤ 140737488351232) (hA : A = none → n = 0 ∧ cap = 0) (hb : BytesAt W A n bs) (hg : goal ≤ 9223372036854775807) :
    Calls Tryd.prog 7 #[.slice A n cap, .int .i64 goal, .int .i64 want] W fun e w' => e = .returned (.bool true) ∧ Below W.heap.size W w' := by
  have HA := Lib.hid (awake_any W hT)
  have HT := Lib.hid hT
  have HB := Lib.hid hb
  have HAA := Lib.hid hA
  have HGB := Lib.hid (bo_good (setN bs) (setN_far bs 2016 (Nat.le_refl _)))
  have HSA := Lib.hid (show zerosZ bs = (sumC (setN bs) 2017 11 : Int) by rw [zerosZ_zc, sum_all (setN bs) (setN_far bs 2016 (Nat.le_refl _))])
  have HZN := Lib.hid (show ((sumC (setN bs) 2017 11 : Nat) : Int) = zc (setN bs) 2016 by rw [sum_all (setN bs) (setN_far bs 2016 (Nat.le_refl _))])
  have HSL := Lib.hid (show ∀ k, k ≤ 11 → sumC (setN bs) 2017 k ≤ 2016 from fun k hk => sumC_le hk)
  have hOl := HGB.out.l2
  obtain ⟨O, hO⟩ : ∃ O, (bo (setN bs)).2 = O := ⟨_, rfl⟩
  rw [hO] at hOl
  have HO := Lib.hid hO
  have HST := Lib.hid (show ∀ k, k < 11 → (sumC (setN bs) 2017 (k + 1) : Int) = sumC (setN bs) 2017 k + O.getD k 0 * ((2 ^ k : Nat) : Int) ∧ 0 ≤ O.getD k 0 from fun k hk => by
    have := HGB.out.c k (by omega)
    rw [hO] at this
    rw [this]
    simp only [sumC]
    exact ⟨by push_cast; rfl, by omega⟩)
  have HS0 := Lib.hid (show ((sumC (setN bs) 2017 0 : Nat) : Int) = 0 from rfl)
  generalize sumC (setN bs) 2017 = S at *
  clear hT hb hA hO
  go_enter Tryd.func7, Tryd.ntmps7
  go_wp2_with fail
  refine HA.out.mono ?_
  rintro e w1 ⟨rfl, hb1⟩
  have B1' := Lib.hid hb1
  have BY1 := Lib.hid (HB.out.below hb1)
  have T1 := Lib.hid (HT.out.below hb1)
  clear hb1 HA
  go_wp2_with fail
  refine (orders_any A n cap bs w1 BY1.out T1.out).mono ?_
  rintro e w3 ⟨rfl, hb3⟩
  rw [HO.out]
  have B3' := Lib.hid (below_all B1'.out B1'.out.size hb3)
  have BY3 := Lib.hid (BY1.out.below hb3)
  have T3' := Lib.hid (T1.out.below hb3)
  clear hb3
  have hOs : (ints O).toArray.size = 11 := by simp [ints, hOl]
  have HCG := Lib.hid (show ∀ k, k < 11 → (ints O).toArray[k]? = some (.int .i64 (O.getD k 0)) from fun k hk => cells_get (by omega))
  have HON := Lib.hid (cells_one O)
  obtain ⟨cs, hcs⟩ : ∃ cs, (ints O).toArray = cs := ⟨_, rfl⟩
  rw [hcs] at hOs HCG HON ⊢
  have HIN := Lib.hid (show (Tryd.prog.info? 27).map (·.size) = some cs.size by rw [hOs]; kernel_rfl)
  have K3 := Lib.hid (Blk.new w3 27 #[.int .i64 0, .int .i64 0, .int .i64 0, .int .i64 0, .int .i64 0, .int .i64 0, .int .i64 0, .int .i64 0, .int .i64 0, .int .i64 0, .int .i64 0])
  obtain ⟨w4, hw4⟩ : ∃ w4, (w3.alloc (.cells #[.int .i64 0, .int .i64 0, .int .i64 0, .int .i64 0, .int .i64 0, .int .i64 0, .int .i64 0, .int .i64 0, .int .i64 0, .int .i64 0, .int .i64 0] 27)).setRow w3.heap.size cs = w4 := ⟨_, rfl⟩
  have K4 := Lib.hid (show Blk w4 w3.heap.size 27 cs by rw [← hw4]; exact setRow_heap _ w3.heap.size _ cs 27 (0, 0) K3.out)
  have B34 := Lib.hid (show Below w3.heap.size w3 w4 from hw4 ▸ ((Below.refl w3.heap.size w3).alloc (Nat.le_refl _) _).trans ⟨rfl, rfl, rfl, by simp [World.setRow], fun k hk => setRow_other _ w3.heap.size k cs (by omega)⟩)
  have B4' := Lib.hid (below_all B3'.out B3'.out.size B34.out)
  have BY4 := Lib.hid (BY3.out.below B34.out)
  have T4' := Lib.hid (T3'.out.below B34.out)
  have HW4 := Lib.hid hw4
  have HSZ := Lib.hid hOs
  clear hw4 hcs hOs hOl
  go_wp2_with (first
    | (refine wpList_store_row rfl 27 (.tmp 8) (.tmp 19) rfl w3.heap.size cs rfl rfl 27 _ K3.out HIN.out (by rw [HSZ.out]; rfl) HON.out ?_; rw [HW4.out])
    | fail)
  go_loopw [9, 10] (fun g i wr => ∃ k : Nat, k ≤ 11 ∧ i = .int .i64 k ∧ g = .int .i64 (S k : Nat) ∧ wr = w4) (fun _ i _ => 11 - (intOf i).toNat)
  case atStart => exact ⟨0, by omega, rfl, by rw [HS0.out], rfl⟩
  case round =>
    obtain ⟨k, hk, rfl, rfl, rfl⟩ := hrel
    by_cases hlt : k < 11
    · have c2 : wr.cell? ⟨w3.heap.size, k, none⟩ = some (.int .i64 (O.getD k 0)) := (K4.out.cell k).trans (HCG.out k hlt)
      obtain ⟨hs1, hs2⟩ := HST.out k hlt
      have hs3 := HSL.out (k + 1) (by omega)
      have hs4 := HSL.out k (by omega)
      have k0 : (0 : Int) ≤ (k : Int) := by omega
      have k1 : ¬ (k : Int) < 0 := by omega
      have hpt := pow_ten k (by omega)
      obtain ⟨cv, hcv⟩ : ∃ cv, O.getD k 0 = cv := ⟨_, rfl⟩
      rw [hcv] at c2 hs1 hs2
      have hnn : 0 ≤ cv * ((2 ^ k : Nat) : Int) := Int.mul_nonneg hs2 (by omega)
      obtain ⟨V, hV⟩ : ∃ V, cv * ((2 ^ k : Nat) : Int) = V := ⟨_, rfl⟩
      rw [hV] at hs1 hnn
      have wp : IntKind.i64.wrap (cv * (2 : Int) ^ k) = V := by rw [hpt.1, hV, IntKind.wrap_i64]; omega
      have wq : IntKind.i64.wrap ((S k : Int) + V) = (S (k + 1) : Int) := by rw [← hs1, IntKind.wrap_i64]; omega
      have HS := Lib.hid (show (S k : Int) + V = (S (k + 1) : Int) from hs1.symm)
      clear hcv hpt hV hs1
      generalize S k = gk at *
      go_wp2_with fail
      go_roundw
      case rel => exact ⟨k + 1, by omega, by go_num, by first | rfl | (rw [← HS.out]), by first | trivial | rfl⟩
      case measure => simp [intOf]; omega
    · obtain rfl : k = 11 := by omega
      have HZE := Lib.hid (zeros_any A n cap bs wr hn (by omega) HAA.out BY4.out)
      rw [HSA.out] at HZE
      have hs4 := HSL.out 11 (by omega)
      obtain ⟨Z, hZ⟩ : ∃ Z, S 11 = Z := ⟨_, rfl⟩
      rw [hZ] at HZE HZN hs4 ⊢
      clear hZ
      have HFA := Lib.hid (find_any A n cap bs goal want wr BY4.out T4'.out hg)
      obtain ⟨⟨i, m, ok⟩, hfx⟩ : ∃ fx, findX bs goal want = fx := ⟨_, rfl⟩
      rw [hfx] at HFA
      dsimp only at HFA
      have hze : ((Z : Int) != (Z : Int)) = false := by simp
      cases ok with
      | false =>
        obtain ⟨rfl, rfl, h3⟩ := find_none hfx
        have h4 : want < 1 ∨ ¬ want < 1 ∧ Z = 0 := by
          by_cases hw : want < 1
          · exact .inl hw
          · refine .inr ⟨hw, ?_⟩
            have := HZN.out
            rcases h3 with h3 | h3
            · exact absurd h3 hw
            · omega
        clear hfx h3
        rcases h4 with h4 | ⟨h4, rfl⟩
        all_goals
          go_wp2_with fail
          refine HZE.out.mono ?_
          rintro e w' ⟨rfl, rfl⟩
          go_wp2_with fail
          refine HFA.out.mono ?_
          rintro e w5 ⟨rfl, hb5⟩
          have B5' := Lib.hid (below_all B4'.out B4'.out.size hb5)
          clear hb5
          go_wp2_with fail
          go_ret
          exact ⟨rfl, B5'.out⟩
      | true =>
        obtain ⟨f0, f1, f2, f3⟩ := find_found hfx
        have HF3 := Lib.hid f3
        have hend := setZ_low (f3 (i + m - 1) (by omega) (by omega))
        clear hfx f3
        have wim : IntKind.i64.wrap (i + m) = i + m := by rw [IntKind.wrap_i64]; omega
        go_wp2_with fail
        refine HZE.out.mono ?_
        rintro e w' ⟨rfl, rfl⟩
        go_wp2_with fail
        refine HFA.out.mono ?_
        rintro e w5 ⟨rfl, hb5⟩
        have B5' := Lib.hid (below_all B4'.out B4'.out.size hb5)
        have BY5 := Lib.hid (BY4.out.below hb5)
        clear hb5 HFA HZE hze
        go_wp2_with fail
        go_loopw [14, 15, 16] (fun kk _ _ wq => ∃ q : Int, i ≤ q ∧ q ≤ i + m ∧ kk = .int .i64 q ∧ wq = w5) (fun kk _ _ _ => (i + m - intOf kk).toNat)
        case atStart => exact ⟨i, by omega, by omega, rfl, rfl⟩
        case round =>
          obtain ⟨q, hq1, hq2, rfl, rfl⟩ := hrel
          have HTE := Lib.hid (test_any A n cap bs q wr BY5.out)
          by_cases hlq : q < i + m
          · have hsq := HF3.out q hq1 hlq
            rw [show testX bs q = false by rw [testX, if_pos (by omega)]; exact hsq, show testE q = 0 by rw [testE, if_pos (by omega)]] at HTE
            clear hsq
            go_wp2_with fail
            refine HTE.out.mono ?_
            rintro e w' ⟨rfl, rfl⟩
            go_wp2_with fail
            go_roundw
            case rel => exact ⟨q + 1, by omega, by omega, rfl, by first | trivial | rfl⟩
            case measure => simp [intOf]; omega
          · go_wp2_with fail
            go_ret
            exact ⟨rfl, B5'.out⟩
theorem bitsBuddies_walk (w : World) (hT : Tab w) (a0 : Option Addr) (len0 cap0 : Nat) (z0 : List Int) (w0 : IsRow .u8 w a0 len0 cap0 z0) (e0 : cap0 * 1 ≤ 140737488351232) (a1 : Int) (w1 : (Lit.int .i64 a1).wf = true) (a2 : Int) (w2 : (Lit.int .i64 a2).wf = true) :
    Calls Tryd.prog 7 #[.slice a0 len0 cap0, .int .i64 a1, .int .i64 a2] w fun e w' => e = .returned (.bool true) ∧ Below w.heap.size w w' := by
  obtain ⟨bs, hb, hl, hA⟩ := row_bytes w0
  exact bitsBuddies_run a0 len0 cap0 bs a1 a2 w hT hl (by omega) hA hb (wf_int w1).2
end Go.Proofs.YtcmpkcmfhfajpaaDoor.Bits

namespace Go.Proofs.YtcmpkcmfhfajpaaDoor.bitsBuddies
open Go.ChangeShapes Go.WideShapes Go.ChangeAt Go.RowKit Go.Joins
set_option linter.unusedVariables false
set_option linter.unusedSimpArgs false

open Go.Proofs.YtcmpkcmfhfajpaaDoor.Bits
theorem own : ownKnob Tryd.prog.godebug = none := by kernel_rfl
theorem laidOut : laidOutB Tryd.prog = true := by kernel_rfl

theorem door_met (os : Os) (args : Array Value) : laidMetH Tryd.prog Bits.laidL ((World.doorLaid Tryd.prog 400 os).forCall (fun _ _ => 0) ⟨#[], args, []⟩).memory :=
  laidMetH_of_parts3 (fuel := 8) (laidMet_of_run' 8 (by kernel_rfl) (by kernel_rfl)) (by kernel_rfl) (by kernel_rfl)

set_option maxRecDepth 100000 in
theorem lifted (os : Os) (started : os.Started) (H : Type) (enc : TypeId × Value → H) :
    ReturnsInHanded {} Tryd.checked os 7 .any (fun w args => (Rows.bitsBuddiesSpec.pre enc Tryd.prog Tryd.f7 Rows.bitsBuddiesRow.domain false w args ∧ laidMetH Tryd.prog Bits.laidL w) ∧ sizedMet enc Tryd.prog Tryd.f7 (OpenSpec.ofChange Rows.bitsBuddiesSpec) false w args) (Rows.bitsBuddiesSpec.post enc Tryd.prog Tryd.f7 false true false false) := by
  refine returnsInHanded_of_change_and (C := Tryd.checked) (X := fun w _ => laidMetH Tryd.prog Bits.laidL w) (fun _ _ _ hh h => h.of_heap hh) own started (by kernel_rfl) Tryd.func7
    (ChangeSpec.witness_shaped (enc := enc) (C := Tryd.checked) (os := os) (X := fun w _ => laidMetH Tryd.prog Bits.laidL w) false (World.doorLaid Tryd.prog 400 os) #[.slice none 0 0, .int .i64 0, .int .i64 0] 8 rfl (World.shaped_of_RefB (by kernel_rfl) (by kernel_rfl)) (by kernel_rfl) (by kernel_rfl) (by kernel_rfl) (door_met os _)) ?_
  intro W base args ds gs before hval0 hW hcnd hsz0 hL _
  have hval : ∀ (j : Nat) t v, Tryd.f7.params[j]? = some t → args[j]? = some v → Value.okWide Tryd.prog W .any base t v := hval0
  have hW' := hW
  obtain ⟨p, q, hA0, hV, rfl, hfz, hnd⟩ := hW
  have hA : DataW.TrodAll enc Tryd.prog W 0 (fun _ => true) true Tryd.f7.params.toList args.toList ds p := hA0
  have hsz : (DataW.weightsEach Tryd.prog (Tryd.f7.params.toList ++ Rows.bitsBuddiesSpec.plain.varTypes Tryd.prog) (ds ++ gs)).all (· ≤ reachBytes) = true := hsz0
  rw [Tryd.params7] at hA hval hsz
  obtain ⟨v0, vs0, d0, ds0, p0, q0, hargs, rfl, rfl, h0, r0⟩ := trodAll_cons hA
  obtain ⟨v1, vs1, d1, ds1, p1, q1, rfl, rfl, rfl, h1, r1⟩ := trodAll_cons r0
  obtain ⟨v2, vs2, d2, ds2, p2, q2, rfl, rfl, rfl, h2, r2⟩ := trodAll_cons r1
  obtain ⟨rfl, rfl, rfl⟩ := trodAll_nil r2
  obtain rfl : args = #[v0, v1, v2] := by cases args; simp_all
  obtain ⟨rfl, rfl⟩ := trodVars_none hV
  obtain ⟨a0, len0, cap0, rfl⟩ := okWide_slice Tryd.underlying22 (hval 0 22 v0 rfl rfl)
  have k0 := h0
  have lt0 : ∀ x ∈ p0, x.block < W.heap.size := by obtain ⟨m, hm⟩ := k0; exact DataW.trod_lt m _ _ _ hm
  obtain ⟨z0, w0, e0⟩ : ∃ zs, IsRow .u8 W a0 len0 cap0 zs ∧ cap0 * 1 ≤ 140737488351232 := by
    obtain ⟨fuel, hf⟩ := h0
    rcases open_ints Tryd.underlying22 Tryd.underlying5 (by kernel_rfl) hf with ⟨hcs, _⟩ | ⟨x, l, c, zs, hcs, _, hl, hm, hz, hx, hcell, hwz⟩
    · simp [Value.cells] at hcs
      obtain ⟨rfl, rfl, rfl⟩ := hcs
      exact ⟨[], .inl ⟨rfl, rfl, rfl, rfl⟩, by omega⟩
    · simp [Value.cells] at hcs
      obtain ⟨rfl, rfl, rfl⟩ := hcs
      refine ⟨zs, .inr ⟨_, rfl, hl, hm, by simpa using hz, hcell, hwz⟩, ?_⟩
      simp only [Prod.mk.injEq] at hx
      rw [hx.1] at hsz
      have := sized_slice hsz (j := 0) (t := 22) (e := 5) rfl rfl Tryd.underlying22
      rw [show Tryd.prog.bytesOf 5 = 1 from by kernel_rfl] at this
      simp [lits, List.length_map, List.length_take, List.length_drop, reachBytes] at this
      simp at hz
      omega
  obtain ⟨a1, rfl, rfl, rfl, w1⟩ := open_int Tryd.underlying3 (hval 1 3 v1 rfl rfl) h1
  obtain ⟨a2, rfl, rfl, rfl, w2⟩ := open_int Tryd.underlying3 (hval 2 3 v2 rfl rfl) h2
  clear hA0 hval0
  refine (bitsBuddies_walk W (Bits.tab_of_laid hL) a0 len0 cap0 z0 w0 e0 a1 w1 a2 w2).mono fun e W' ⟨he, bel⟩ => ?_
  subst he
  exact ⟨_, rfl, _, _, _, [], _, [], hW', trodAll_mk1 (shut_bool Tryd.underlying4 _), (trodAll_cons_mk (Below.trod laidOut (by kernel_rfl) (of_decide_eq_true (by kernel_rfl)) k0 bel lt0) (trodAll_cons_mk (shut_int Tryd.underlying3 w1) (trodAll_cons_mk (shut_int Tryd.underlying3 w2) trodAll_mk0))), rfl, bel.frame _, fun h => by cases h⟩

theorem over : Rows.bitsBuddiesRow.holds Tryd.pinned (OpenSpec.ofChange Rows.bitsBuddiesSpec) :=
  OpenClaim.holds_of_wide 7 Tryd.f7 rfl rfl rfl rfl rfl rfl rfl ⟨rfl, rfl, rfl, rfl, rfl⟩ rfl rfl rfl rfl rfl (by kernel_rfl) Tryd.func7 (by kernel_rfl)
    (of_decide_eq_true (by kernel_rfl)) (by unfold Func.isWrapper; first | (rw [if_pos (by decide +kernel)]; kernel_rfl) | (rw [if_neg (by decide +kernel)]; exact ⟨rfl, rfl⟩))
    (fun os started H enc _ => lifted os started H enc)

theorem proved : Rows.BitsBuddiesCardSaid :=
  Claim7.holds_tied_plain_at .later [] [.data, .data] true (true, "96ebdc0b6590c3421474a3afdebc92b9620e8281886a65cccbfbd02a6d73769d") true
    over (fun _ h => by cases h) (by kernel_rfl) (fun _ h => by cases h) bitsBuddies_row_tie rfl ⟨rfl, rfl⟩ (by kernel_rfl) rfl
    (fun f fn hf hfn => by
      obtain rfl : f = 7 := Option.some.inj ((show Tryd.prog.funcNamed "hayrick/hayricklaw05.BitsBuddies" = some 7 by kernel_rfl).symm.trans hf) |>.symm
      obtain rfl : fn = Tryd.f7 := (Option.some.inj (Tryd.func7.symm.trans hfn)).symm
      exact ⟨by kernel_rfl, fun j t ht => by
        have ha : (Tryd.f7.params.all fun t => !Tryd.prog.wantsStandIn t) = true := by kernel_rfl
        have hb := Array.all_eq_true_iff_forall_mem.1 ha t (Array.mem_of_getElem? ht)
        exact Bool.not_eq_true' _ ▸ hb⟩)
    (by kernel_rfl)
#print axioms proved
end Go.Proofs.YtcmpkcmfhfajpaaDoor.bitsBuddies
