
/-
  THE ROW of hayricklaw05.BitsGoal: for every input the law returns true, and its arguments read as they did. No condition.
-/
import Derived.Test.YtcmpkcmfhfajpaaDoorKR4N7
import Derived.Test.YtcmpkcmfhfajpaaDoorKR4N4
import Derived.Test.YtcmpkcmfhfajpaaDoorRows
import Derived.ProofKit
import Derived.OpenShut
import Derived.ShutString
import Derived.ChangeOld
import Derived.SizedLaws
import Derived.Lib.SmallJoins
import Derived.Test.YtcmpkcmfhfajpaaDoorTie
import Derived.Test.YtcmpkcmfhfajpaaDoorCards
import Derived.LaidMore
import Derived.Stop.Joined
import Derived.SevenTiedAt
namespace Go.Proofs.YtcmpkcmfhfajpaaDoor.Bits
open Go.RowKit Go.Proofs.YtcmpkcmfhfajpaaDoor.Wire
set_option maxHeartbeats 16000000
set_option maxRecDepth 100000
set_option linter.unusedVariables false
set_option linter.unusedSimpArgs false

theorem bitsGoal_run (A : Option Addr) (n cap : Nat) (bs : List UInt8) (goal want : Int) (W : World) (hT : Tab W) (hn : n ≤ cap) (hc : cap ≤ 140737488351232) (hA : A = none → n = 0 ∧ cap = 0) (hb : BytesAt W A n bs) (hg : goal ≤ 9223372036854775807) :
    Calls Tryd.prog 8 #[.slice A n cap, .int .i64 goal, .int .i64 want] W fun e w' => e = .returned (.bool true) ∧ Below W.heap.size W w' := by
  have HA := Lib.hid (awake_any W hT)
  have HT := Lib.hid hT
  have HB := Lib.hid hb
  clear hT hb hA
  have hcase : testE goal = 22 ∨ testE goal = 0 ∧ (testX bs goal = true ∨ testX bs goal = false ∧ (want < 1 ∨ ¬ want < 1 ∧ setZ bs goal = false)) := by
    unfold testE testX
    split
    · right
      refine ⟨rfl, ?_⟩
      cases hs : setZ bs goal
      · right; refine ⟨rfl, ?_⟩; (by_cases hw : want < 1; exact .inl hw; exact .inr ⟨hw, rfl⟩)
      · left; rfl
    · left; rfl
  rcases hcase with h1 | ⟨h1, h2 | ⟨h2, h3 | ⟨h3, h4⟩⟩⟩
  rotate_right
  · have HR := Lib.hid (runN_free (bs := bs) (goal := goal) (want := want) (by omega) h4)
    have HFX := Lib.hid (show findX bs goal want = (goal, (runN bs goal want : Int), true) by rw [findX, if_neg h3, if_pos HR.out])
    obtain ⟨r1, r2, r3⟩ := runN_spec (bs := bs) (goal := goal) (want := want) (by omega)
    have hlo := setZ_low h4
    obtain ⟨R, hR⟩ : ∃ R, runN bs goal want = R := ⟨_, rfl⟩
    rw [hR] at HR HFX r1 r2 r3
    have hR1 : 1 ≤ R := HR.out
    have hend := r2 (goal + R - 1) (by omega) (by omega)
    have hle := setZ_low hend
    have h5 := r3 hlo.1
    have HR2 := Lib.hid r2
    clear r2 r3 hend hR HR2
    have wg : IntKind.i64.wrap (goal + (R : Int)) = goal + (R : Int) := by rw [IntKind.wrap_i64]; omega
    have q1 : ((goal : Int) != goal) = false := by simp
    have hB : (R : Int) = want ∨ ¬ (R : Int) = want ∧ (testE (goal + R) = 22 ∨ testE (goal + R) = 0 ∧ testX bs (goal + R) = true) := by
      by_cases e : (R : Int) = want
      · exact .inl e
      · refine .inr ⟨e, ?_⟩
        have hs : setZ bs (goal + R) = true := by rcases h5 with h5 | h5; exact absurd h5 e; exact h5
        unfold testE testX
        split
        · exact .inr ⟨rfl, hs⟩
        · exact .inl rfl
    clear h4 h5
    have q2 : ¬ (R : Int) < 1 := by omega
    have q3 : ¬ want < (R : Int) := by omega
    go_enter Tryd.func8, Tryd.ntmps8
    go_wp2_with fail
    refine HA.out.mono ?_
    rintro e w1 ⟨rfl, hb1⟩
    have B1' := Lib.hid hb1
    have BY1 := Lib.hid (HB.out.below hb1)
    have T1 := Lib.hid (HT.out.below hb1)
    clear hb1 HA wg
    go_wp2_with fail
    refine (find_any A n cap bs goal want w1 BY1.out T1.out hg).mono ?_
    rintro e w2 ⟨rfl, hb2⟩
    rw [HFX.out]
    dsimp only
    have B2' := Lib.hid (below_all B1'.out B1'.out.size hb2)
    have BY2 := Lib.hid (BY1.out.below hb2)
    clear hb2
    go_wp2_with fail
    refine (test_any A n cap bs goal w2 BY2.out).mono ?_
    rintro e w' ⟨rfl, rfl⟩
    rw [h1, h2]
    have wg : IntKind.i64.wrap (goal + (R : Int)) = goal + (R : Int) := by rw [IntKind.wrap_i64]; omega
    have HTE := Lib.hid (test_any A n cap bs (goal + (R : Int)) w2 BY2.out)
    have HBB := Lib.hid hB
    clear h1 h2 hB
    go_wp2_with fail
    refine HTE.out.mono ?_
    rintro e w' ⟨rfl, rfl⟩
    rcases HBB.out with h6 | ⟨h6, h7 | ⟨h7, h8⟩⟩
    · have h6' : ((R : Int) == want) = true := by simpa using h6
      clear h6 HTE HBB q2 q3
      generalize testE (goal + (R : Int)) = te
      generalize testX bs (goal + (R : Int)) = tx
      go_wp2_with fail
      go_ret
      exact ⟨rfl, B2'.out⟩
    · have h6' : ((R : Int) == want) = false := by simpa using h6
      rw [h7]
      clear h6 HTE HBB h7
      generalize testX bs (goal + (R : Int)) = tx
      go_wp2_with fail
      go_ret
      exact ⟨rfl, B2'.out⟩
    · have h6' : ((R : Int) == want) = false := by simpa using h6
      rw [h7, h8]
      clear h6 HTE HBB h7 h8
      go_wp2_with fail
      go_ret
      exact ⟨rfl, B2'.out⟩
  all_goals
    go_enter Tryd.func8, Tryd.ntmps8
    go_wp2_with fail
    refine HA.out.mono ?_
    rintro e w1 ⟨rfl, hb1⟩
    have B1' := Lib.hid hb1
    have BY1 := Lib.hid (HB.out.below hb1)
    have T1 := Lib.hid (HT.out.below hb1)
    clear hb1 HA
    go_wp2_with fail
    refine (find_any A n cap bs goal want w1 BY1.out T1.out hg).mono ?_
    rintro e w2 ⟨rfl, hb2⟩
    generalize findX bs goal want = fx
    obtain ⟨i, m, ok⟩ := fx
    dsimp only
    have B2' := Lib.hid (below_all B1'.out B1'.out.size hb2)
    have BY2 := Lib.hid (BY1.out.below hb2)
    clear hb2
    have HTE := Lib.hid (test_any A n cap bs goal w2 BY2.out)
    rw [h1] at HTE
    try rw [h2] at HTE
    clear h1
    try clear h2
    try generalize testX bs goal = tx at HTE
    go_wp2_with fail
    refine HTE.out.mono ?_
    rintro e w' ⟨rfl, rfl⟩
    go_wp2_with fail
    go_ret
    exact ⟨rfl, B2'.out⟩
theorem bitsGoal_walk (w : World) (hT : Tab w) (a0 : Option Addr) (len0 cap0 : Nat) (z0 : List Int) (w0 : IsRow .u8 w a0 len0 cap0 z0) (e0 : cap0 * 1 ≤ 140737488351232) (a1 : Int) (w1 : (Lit.int .i64 a1).wf = true) (a2 : Int) (w2 : (Lit.int .i64 a2).wf = true) :
    Calls Tryd.prog 8 #[.slice a0 len0 cap0, .int .i64 a1, .int .i64 a2] w fun e w' => e = .returned (.bool true) ∧ Below w.heap.size w w' := by
  obtain ⟨bs, hb, hl, hA⟩ := row_bytes w0
  exact bitsGoal_run a0 len0 cap0 bs a1 a2 w hT hl (by omega) hA hb (wf_int w1).2
end Go.Proofs.YtcmpkcmfhfajpaaDoor.Bits

namespace Go.Proofs.YtcmpkcmfhfajpaaDoor.bitsGoal
open Go.ChangeShapes Go.WideShapes Go.ChangeAt Go.RowKit Go.Joins
set_option linter.unusedVariables false
set_option linter.unusedSimpArgs false

open Go.Proofs.YtcmpkcmfhfajpaaDoor.Bits
theorem own : ownKnob Tryd.prog.godebug = none := by kernel_rfl
theorem laidOut : laidOutB Tryd.prog = true := by kernel_rfl

theorem door_met (os : Os) (args : Array Value) : laidMetH Tryd.prog Bits.laidL ((World.doorLaid Tryd.prog 400 os).forCall (fun _ _ => 0) ⟨#[], args, []⟩).memory :=
  laidMetH_of_parts3 (fuel := 8) (laidMet_of_run' 8 (by kernel_rfl) (by kernel_rfl)) (by kernel_rfl) (by kernel_rfl)

set_option maxRecDepth 100000 in
theorem lifted (os : Os) (started : os.Started) (H : Type) (enc : TypeId × Value → H) :
    ReturnsInHanded {} Tryd.checked os 8 .any (fun w args => (Rows.bitsGoalSpec.pre enc Tryd.prog Tryd.f8 Rows.bitsGoalRow.domain false w args ∧ laidMetH Tryd.prog Bits.laidL w) ∧ sizedMet enc Tryd.prog Tryd.f8 (OpenSpec.ofChange Rows.bitsGoalSpec) false w args) (Rows.bitsGoalSpec.post enc Tryd.prog Tryd.f8 false true false false) := by
  refine returnsInHanded_of_change_and (C := Tryd.checked) (X := fun w _ => laidMetH Tryd.prog Bits.laidL w) (fun _ _ _ hh h => h.of_heap hh) own started (by kernel_rfl) Tryd.func8
    (ChangeSpec.witness_shaped (enc := enc) (C := Tryd.checked) (os := os) (X := fun w _ => laidMetH Tryd.prog Bits.laidL w) false (World.doorLaid Tryd.prog 400 os) #[.slice none 0 0, .int .i64 0, .int .i64 0] 8 rfl (World.shaped_of_RefB (by kernel_rfl) (by kernel_rfl)) (by kernel_rfl) (by kernel_rfl) (by kernel_rfl) (door_met os _)) ?_
  intro W base args ds gs before hval0 hW hcnd hsz0 hL _
  have hval : ∀ (j : Nat) t v, Tryd.f8.params[j]? = some t → args[j]? = some v → Value.okWide Tryd.prog W .any base t v := hval0
  have hW' := hW
  obtain ⟨p, q, hA0, hV, rfl, hfz, hnd⟩ := hW
  have hA : DataW.TrodAll enc Tryd.prog W 0 (fun _ => true) true Tryd.f8.params.toList args.toList ds p := hA0
  have hsz : (DataW.weightsEach Tryd.prog (Tryd.f8.params.toList ++ Rows.bitsGoalSpec.plain.varTypes Tryd.prog) (ds ++ gs)).all (· ≤ reachBytes) = true := hsz0
  rw [Tryd.params8] at hA hval hsz
  obtain ⟨v0, vs0, d0, ds0, p0, q0, hargs, rfl, rfl, h0, r0⟩ := trodAll_cons hA
  obtain ⟨v1, vs1, d1, ds1, p1, q1, rfl, rfl, rfl, h1, r1⟩ := trodAll_cons r0
  obtain ⟨v2, vs2, d2, ds2, p2, q2, rfl, rfl, rfl, h2, r2⟩ := trodAll_cons r1
  obtain ⟨rfl, rfl, rfl⟩ := trodAll_nil r2
  obtain rfl : args = #[v0, v1, v2] := by cases args; simp_all
  obtain ⟨rfl, rfl⟩ := trodVars_none hV
  obtain ⟨a0, len0, cap0, rfl⟩ := okWide_slice Tryd.underlying22 (hval 0 22 v0 rfl rfl)
  have k0 := h0
  have lt0 : ∀ x ∈ p0, x.block < W.heap.size := by obtain ⟨m, hm⟩ := k0; exact DataW.trod_lt m _ _ _ hm
  obtain ⟨z0, w0, e0⟩ : ∃ zs, IsRow .u8 W a0 len0 cap0 zs ∧ cap0 * 1 ≤ 140737488351232 := by
    obtain ⟨fuel, hf⟩ := h0
    rcases open_ints Tryd.underlying22 Tryd.underlying5 (by kernel_rfl) hf with ⟨hcs, _⟩ | ⟨x, l, c, zs, hcs, _, hl, hm, hz, hx, hcell, hwz⟩
    · simp [Value.cells] at hcs
      obtain ⟨rfl, rfl, rfl⟩ := hcs
      exact ⟨[], .inl ⟨rfl, rfl, rfl, rfl⟩, by omega⟩
    · simp [Value.cells] at hcs
      obtain ⟨rfl, rfl, rfl⟩ := hcs
      refine ⟨zs, .inr ⟨_, rfl, hl, hm, by simpa using hz, hcell, hwz⟩, ?_⟩
      simp only [Prod.mk.injEq] at hx
      rw [hx.1] at hsz
      have := sized_slice hsz (j := 0) (t := 22) (e := 5) rfl rfl Tryd.underlying22
      rw [show Tryd.prog.bytesOf 5 = 1 from by kernel_rfl] at this
      simp [lits, List.length_map, List.length_take, List.length_drop, reachBytes] at this
      simp at hz
      omega
  obtain ⟨a1, rfl, rfl, rfl, w1⟩ := open_int Tryd.underlying3 (hval 1 3 v1 rfl rfl) h1
  obtain ⟨a2, rfl, rfl, rfl, w2⟩ := open_int Tryd.underlying3 (hval 2 3 v2 rfl rfl) h2
  clear hA0 hval0
  refine (bitsGoal_walk W (Bits.tab_of_laid hL) a0 len0 cap0 z0 w0 e0 a1 w1 a2 w2).mono fun e W' ⟨he, bel⟩ => ?_
  subst he
  exact ⟨_, rfl, _, _, _, [], _, [], hW', trodAll_mk1 (shut_bool Tryd.underlying4 _), (trodAll_cons_mk (Below.trod laidOut (by kernel_rfl) (of_decide_eq_true (by kernel_rfl)) k0 bel lt0) (trodAll_cons_mk (shut_int Tryd.underlying3 w1) (trodAll_cons_mk (shut_int Tryd.underlying3 w2) trodAll_mk0))), rfl, bel.frame _, fun h => by cases h⟩

theorem over : Rows.bitsGoalRow.holds Tryd.pinned (OpenSpec.ofChange Rows.bitsGoalSpec) :=
  OpenClaim.holds_of_wide 8 Tryd.f8 rfl rfl rfl rfl rfl rfl rfl ⟨rfl, rfl, rfl, rfl, rfl⟩ rfl rfl rfl rfl rfl (by kernel_rfl) Tryd.func8 (by kernel_rfl)
    (of_decide_eq_true (by kernel_rfl)) (by unfold Func.isWrapper; first | (rw [if_pos (by decide +kernel)]; kernel_rfl) | (rw [if_neg (by decide +kernel)]; exact ⟨rfl, rfl⟩))
    (fun os started H enc _ => lifted os started H enc)

theorem proved : Rows.BitsGoalCardSaid :=
  Claim7.holds_tied_plain_at .later [] [.data, .data] true (true, "96ebdc0b6590c3421474a3afdebc92b9620e8281886a65cccbfbd02a6d73769d") true
    over (fun _ h => by cases h) (by kernel_rfl) (fun _ h => by cases h) bitsGoal_row_tie rfl ⟨rfl, rfl⟩ (by kernel_rfl) rfl
    (fun f fn hf hfn => by
      obtain rfl : f = 8 := Option.some.inj ((show Tryd.prog.funcNamed "hayrick/hayricklaw05.BitsGoal" = some 8 by kernel_rfl).symm.trans hf) |>.symm
      obtain rfl : fn = Tryd.f8 := (Option.some.inj (Tryd.func8.symm.trans hfn)).symm
      exact ⟨by kernel_rfl, fun j t ht => by
        have ha : (Tryd.f8.params.all fun t => !Tryd.prog.wantsStandIn t) = true := by kernel_rfl
        have hb := Array.all_eq_true_iff_forall_mem.1 ha t (Array.mem_of_getElem? ht)
        exact Bool.not_eq_true' _ ▸ hb⟩)
    (by kernel_rfl)
#print axioms proved
end Go.Proofs.YtcmpkcmfhfajpaaDoor.bitsGoal
