
/-
  THE ROW of hayricklaw05.BitsTurned: for every input the law returns true, and its arguments read as they did. No condition.
-/
import Derived.Test.YtcmpkcmfhfajpaaDoorKR4N7
import Derived.Test.YtcmpkcmfhfajpaaDoorKR4N4
import Derived.Test.YtcmpkcmfhfajpaaDoorRows
import Derived.ProofKit
import Derived.OpenShut
import Derived.ShutString
import Derived.ChangeOld
import Derived.SizedLaws
import Derived.Lib.SmallJoins
import Derived.Test.YtcmpkcmfhfajpaaDoorTie
import Derived.Test.YtcmpkcmfhfajpaaDoorCards
import Derived.LaidMore
import Derived.Stop.Joined
import Derived.SevenTiedAt
namespace Go.Proofs.YtcmpkcmfhfajpaaDoor.Bits
open Go.RowKit Go.Proofs.YtcmpkcmfhfajpaaDoor.Wire
set_option maxHeartbeats 16000000
set_option maxRecDepth 100000
set_option linter.unusedVariables false
set_option linter.unusedSimpArgs false

theorem zerosZ_le (bs : List UInt8) : 0 ≤ zerosZ bs ∧ zerosZ bs ≤ 2016 := by
  rw [zerosZ_zc]
  have := zc_le (setN bs) 2016
  omega
theorem testX_turned {bs : List UInt8} {n f c : Int} {on : Bool} {seed : BitVec 32} {p m : Nat} (h : Turned bs n f c on seed p m) {z : Int} (hz : z < (p : Int) ∨ (p : Int) + m ≤ z) : testX (turnB bs n f c on seed) z = testX bs z := by
  unfold testX
  split
  · rw [setZ_of_nat (by omega), setZ_of_nat (by omega), h.now, if_neg (by omega)]
  · rfl
theorem bitsTurned_run (A : Option Addr) (l cap : Nat) (bs : List UInt8) (n f c : Int) (seed : BitVec 32) (z : Int) (W : World) (hT : Tab W) (hn : l ≤ cap) (hc : cap ≤ 140737488351232) (hA : A = none → l = 0 ∧ cap = 0) (hb : BytesAt W A l bs) :
    Calls Tryd.prog 9 #[.slice A l cap, .int .i64 n, .int .i64 f, .int .i64 c, .int .u32 (seed.toNat : Int), .int .i64 z] W fun e w' => e = .returned (.bool true) ∧ Below W.heap.size W w' := by
  have HA := Lib.hid (awake_any W hT)
  have HT := Lib.hid hT
  have HB := Lib.hid hb
  have HAA := Lib.hid hA
  clear hT hb hA
  by_cases hte : turnE bs n f c true seed = 0
  rotate_left
  · have HBB := Lib.hid (show turnB bs n f c true seed = [] by rw [turnB, if_neg hte])
    have hne : (turnE bs n f c true seed != 0) = true := by simpa using hte
    obtain ⟨te, hte'⟩ : ∃ te, turnE bs n f c true seed = te := ⟨_, rfl⟩
    have HTE := Lib.hid hte'
    rw [hte'] at hne
    clear hte hte'
    go_enter Tryd.func9, Tryd.ntmps9
    go_wp2_with fail
    refine HA.out.mono ?_
    rintro e w1 ⟨rfl, hb1⟩
    have B1' := Lib.hid hb1
    have BY1 := Lib.hid (HB.out.below hb1)
    clear hb1 HA
    go_wp2_with fail
    refine (turn_any A l cap n f c true seed bs w1 hn (by omega) HAA.out BY1.out).mono ?_
    rintro e w2 ⟨v2, rfl, hb2, ho2⟩
    rw [HTE.out]
    rw [HBB.out] at ho2
    obtain ⟨A2, c2, rfl, _, _, _, _, _⟩ := own_slice ho2
    have B2' := Lib.hid (below_all B1'.out B1'.out.size hb2)
    clear hb2 ho2
    rw [show ([] : List UInt8).length = 0 from rfl]
    go_wp2_with fail
    go_ret
    exact ⟨rfl, B2'.out⟩
  obtain ⟨p, m, ht⟩ := turned_of hte
  have hf := ht.hf
  have hcc := ht.hc
  have hm1 := ht.hm
  have hpn := ht.hn
  have H := Lib.hid ht
  have HTE := Lib.hid hte
  have hzt := zc_turned ht
  have hzl := zerosZ_le bs
  have HCK := Lib.hid (chk_turned ht)
  have HOL := Lib.hid ht.olen
  have hpm : p + m ≤ 2016 := by omega
  have hcase : (z < (p : Int) ∧ testE z = 22) ∨ (z < (p : Int) ∧ testE z = 0) ∨ ((p : Int) ≤ z ∧ z < (p : Int) + (m : Int) ∧ testE z = 0 ∧ testX bs z = false ∧ testX (turnB bs n f c true seed) z = true) ∨ ((p : Int) ≤ z ∧ (p : Int) + (m : Int) ≤ z ∧ testE z = 22) ∨ ((p : Int) ≤ z ∧ (p : Int) + (m : Int) ≤ z ∧ testE z = 0) := by
    have he : testE z = 22 ∨ testE z = 0 := by unfold testE; split; exact .inr rfl; exact .inl rfl
    by_cases h1 : z < (p : Int)
    · rcases he with he | he
      · exact .inl ⟨h1, he⟩
      · exact .inr (.inl ⟨h1, he⟩)
    · by_cases h2 : z < (p : Int) + (m : Int)
      · refine .inr (.inr (.inl ⟨by omega, h2, ?_, ?_, ?_⟩))
        · rw [testE, if_pos (by omega)]
        · rw [testX, if_pos (by omega), setZ_of_nat (by omega), H.out.was _ (by omega) (by omega)]; rfl
        · rw [testX, if_pos (by omega), setZ_of_nat (by omega), H.out.now, if_pos (by omega)]
      · rcases he with he | he
        · exact .inr (.inr (.inr (.inl ⟨by omega, by omega, he⟩)))
        · exact .inr (.inr (.inr (.inr ⟨by omega, by omega, he⟩)))
  have HX := Lib.hid (show z < (p : Int) ∨ (p : Int) + (m : Int) ≤ z → testX (turnB bs n f c true seed) z = testX bs z from fun h => testX_turned ht h)
  have wpm : IntKind.i64.wrap ((p : Int) + (m : Int)) = (p : Int) + (m : Int) := by rw [IntKind.wrap_i64]; omega
  have HTU := Lib.hid (fun w hb => turn_any A l cap n f c true seed bs w hn (by omega) HAA.out hb)
  rw [hte] at HTU
  subst hf hcc
  obtain ⟨C, hC⟩ : ∃ C, turnB bs n (p : Int) (m : Int) true seed = C := ⟨_, rfl⟩
  rw [hC] at hzt HCK HOL hcase HX HTU
  rw [HOL.out] at HTU
  obtain ⟨zb, hzb⟩ : ∃ zb, zerosZ bs = zb := ⟨_, rfl⟩
  rw [hzb] at hzt hzl
  have HZB := Lib.hid hzb
  have HZC := Lib.hid (show zerosZ C = zb - (m : Int) by rw [hzt]; simp; omega)
  have wz : IntKind.i64.wrap (zb - (m : Int)) = zb - (m : Int) := by rw [IntKind.wrap_i64]; omega
  clear hte ht hC hzt hzb H
  rcases hcase with ⟨g1, g2⟩ | ⟨g1, g2⟩ | ⟨g1, g2, g3, g4, g5⟩ | ⟨g0, g1, g2⟩ | ⟨g0, g1, g2⟩
  all_goals
    have HTX := Lib.hid (fun w hb => test_any A l cap bs z w hb)
    have HTC := Lib.hid (fun (a : Option Addr) (k : Nat) w hb => test_any a 256 k C z w hb)
    first
      | (rw [g3, g4] at HTX; rw [g3, g5] at HTC; clear g3 g4 g5)
      | (rw [g2] at HTX HTC; rw [HX.out (by first | exact .inl g1 | exact .inr g1)] at HTC; clear g2; generalize testX bs z = tx at HTX HTC; have htx : (tx == tx) = true := (by simp))
    clear wz HX
    go_enter Tryd.func9, Tryd.ntmps9
    go_wp2_with fail
    refine HA.out.mono ?_
    rintro e w1 ⟨rfl, hb1⟩
    have B1' := Lib.hid hb1
    have BY1 := Lib.hid (HB.out.below hb1)
    clear hb1 HA
    go_wp2_with fail
    refine (HTU.out w1 BY1.out).mono ?_
    rintro e w2 ⟨v2, rfl, hb2, ho2⟩
    obtain ⟨g, c2, cs2, rfl, _, _, hc2, hm2, _⟩ := own_form ho2 (by omega)
    unfold maxLen at hm2
    have B2' := Lib.hid (below_all B1'.out B1'.out.size hb2)
    have BY2 := Lib.hid (BY1.out.below hb2)
    have CY2 := Lib.hid (BytesAt.of_own ho2)
    clear hb2 ho2 HTU
    go_wp2_with fail
    refine (HTX.out w2 BY2.out).mono ?_
    rintro e w' ⟨rfl, rfl⟩
    go_wp2_with fail
    refine (HTC.out _ _ w2 CY2.out).mono ?_
    rintro e w' ⟨rfl, rfl⟩
    clear HTX HTC
    have HZ1 := Lib.hid (zeros_any (some ⟨g, 0, none⟩) 256 c2 C w2 hc2 (by omega) (fun e => by cases e) CY2.out)
    rw [HZC.out] at HZ1
    have HZ2 := Lib.hid (zeros_any A l cap bs w2 hn (by omega) HAA.out BY2.out)
    rw [HZB.out] at HZ2
    have HK := Lib.hid (check_any (some ⟨g, 0, none⟩) 256 c2 n seed C w2 hc2 (by omega) CY2.out)
    rw [HCK.out] at HK
    go_wp2_with fail
    refine HZ1.out.mono ?_
    rintro e w' ⟨rfl, rfl⟩
    go_wp2_with fail
    refine HZ2.out.mono ?_
    rintro e w' ⟨rfl, rfl⟩
    clear HZ1 HZ2 wpm
    have wz : IntKind.i64.wrap (zb - (m : Int)) = zb - (m : Int) := by rw [IntKind.wrap_i64]; omega
    go_wp2_with fail
    refine HK.out.mono ?_
    rintro e w3 ⟨rfl, hb3⟩
    have B3' := Lib.hid (below_all B2'.out B2'.out.size hb3)
    clear hb3
    go_wp2_with fail
    go_ret
    exact ⟨rfl, B3'.out⟩
theorem bitsTurned_walk (w : World) (hT : Tab w) (a0 : Option Addr) (len0 cap0 : Nat) (z0 : List Int) (w0 : IsRow .u8 w a0 len0 cap0 z0) (e0 : cap0 * 1 ≤ 140737488351232) (a1 : Int) (w1 : (Lit.int .i64 a1).wf = true) (a2 : Int) (w2 : (Lit.int .i64 a2).wf = true)
    (a3 : Int) (w3 : (Lit.int .i64 a3).wf = true) (a4 : Int) (w4 : (Lit.int .u32 a4).wf = true) (a5 : Int) (w5 : (Lit.int .i64 a5).wf = true) :
    Calls Tryd.prog 9 #[.slice a0 len0 cap0, .int .i64 a1, .int .i64 a2, .int .i64 a3, .int .u32 a4, .int .i64 a5] w fun e w' => e = .returned (.bool true) ∧ Below w.heap.size w w' := by
  obtain ⟨bs, hb, hl, hA⟩ := row_bytes w0
  obtain ⟨s, rfl⟩ := wf_u32 w4
  exact bitsTurned_run a0 len0 cap0 bs a1 a2 a3 s a5 w hT hl (by omega) hA hb
end Go.Proofs.YtcmpkcmfhfajpaaDoor.Bits

namespace Go.Proofs.YtcmpkcmfhfajpaaDoor.bitsTurned
open Go.ChangeShapes Go.WideShapes Go.ChangeAt Go.RowKit Go.Joins
set_option linter.unusedVariables false
set_option linter.unusedSimpArgs false

open Go.Proofs.YtcmpkcmfhfajpaaDoor.Bits
theorem own : ownKnob Tryd.prog.godebug = none := by kernel_rfl
theorem laidOut : laidOutB Tryd.prog = true := by kernel_rfl

theorem door_met (os : Os) (args : Array Value) : laidMetH Tryd.prog Bits.laidL ((World.doorLaid Tryd.prog 400 os).forCall (fun _ _ => 0) ⟨#[], args, []⟩).memory :=
  laidMetH_of_parts3 (fuel := 8) (laidMet_of_run' 8 (by kernel_rfl) (by kernel_rfl)) (by kernel_rfl) (by kernel_rfl)

set_option maxRecDepth 100000 in
theorem lifted (os : Os) (started : os.Started) (H : Type) (enc : TypeId × Value → H) :
    ReturnsInHanded {} Tryd.checked os 9 .any (fun w args => (Rows.bitsTurnedSpec.pre enc Tryd.prog Tryd.f9 Rows.bitsTurnedRow.domain false w args ∧ laidMetH Tryd.prog Bits.laidL w) ∧ sizedMet enc Tryd.prog Tryd.f9 (OpenSpec.ofChange Rows.bitsTurnedSpec) false w args) (Rows.bitsTurnedSpec.post enc Tryd.prog Tryd.f9 false true false false) := by
  refine returnsInHanded_of_change_and (C := Tryd.checked) (X := fun w _ => laidMetH Tryd.prog Bits.laidL w) (fun _ _ _ hh h => h.of_heap hh) own started (by kernel_rfl) Tryd.func9
    (ChangeSpec.witness_shaped (enc := enc) (C := Tryd.checked) (os := os) (X := fun w _ => laidMetH Tryd.prog Bits.laidL w) false (World.doorLaid Tryd.prog 400 os) #[.slice none 0 0, .int .i64 0, .int .i64 0, .int .i64 0, .int .u32 0, .int .i64 0] 8 rfl (World.shaped_of_RefB (by kernel_rfl) (by kernel_rfl)) (by kernel_rfl) (by kernel_rfl) (by kernel_rfl) (door_met os _)) ?_
  intro W base args ds gs before hval0 hW hcnd hsz0 hL _
  have hval : ∀ (j : Nat) t v, Tryd.f9.params[j]? = some t → args[j]? = some v → Value.okWide Tryd.prog W .any base t v := hval0
  have hW' := hW
  obtain ⟨p, q, hA0, hV, rfl, hfz, hnd⟩ := hW
  have hA : DataW.TrodAll enc Tryd.prog W 0 (fun _ => true) true Tryd.f9.params.toList args.toList ds p := hA0
  have hsz : (DataW.weightsEach Tryd.prog (Tryd.f9.params.toList ++ Rows.bitsTurnedSpec.plain.varTypes Tryd.prog) (ds ++ gs)).all (· ≤ reachBytes) = true := hsz0
  rw [Tryd.params9] at hA hval hsz
  obtain ⟨v0, vs0, d0, ds0, p0, q0, hargs, rfl, rfl, h0, r0⟩ := trodAll_cons hA
  obtain ⟨v1, vs1, d1, ds1, p1, q1, rfl, rfl, rfl, h1, r1⟩ := trodAll_cons r0
  obtain ⟨v2, vs2, d2, ds2, p2, q2, rfl, rfl, rfl, h2, r2⟩ := trodAll_cons r1
  obtain ⟨v3, vs3, d3, ds3, p3, q3, rfl, rfl, rfl, h3, r3⟩ := trodAll_cons r2
  obtain ⟨v4, vs4, d4, ds4, p4, q4, rfl, rfl, rfl, h4, r4⟩ := trodAll_cons r3
  obtain ⟨v5, vs5, d5, ds5, p5, q5, rfl, rfl, rfl, h5, r5⟩ := trodAll_cons r4
  obtain ⟨rfl, rfl, rfl⟩ := trodAll_nil r5
  obtain rfl : args = #[v0, v1, v2, v3, v4, v5] := by cases args; simp_all
  obtain ⟨rfl, rfl⟩ := trodVars_none hV
  obtain ⟨a0, len0, cap0, rfl⟩ := okWide_slice Tryd.underlying22 (hval 0 22 v0 rfl rfl)
  have k0 := h0
  have lt0 : ∀ x ∈ p0, x.block < W.heap.size := by obtain ⟨m, hm⟩ := k0; exact DataW.trod_lt m _ _ _ hm
  obtain ⟨z0, w0, e0⟩ : ∃ zs, IsRow .u8 W a0 len0 cap0 zs ∧ cap0 * 1 ≤ 140737488351232 := by
    obtain ⟨fuel, hf⟩ := h0
    rcases open_ints Tryd.underlying22 Tryd.underlying5 (by kernel_rfl) hf with ⟨hcs, _⟩ | ⟨x, l, c, zs, hcs, _, hl, hm, hz, hx, hcell, hwz⟩
    · simp [Value.cells] at hcs
      obtain ⟨rfl, rfl, rfl⟩ := hcs
      exact ⟨[], .inl ⟨rfl, rfl, rfl, rfl⟩, by omega⟩
    · simp [Value.cells] at hcs
      obtain ⟨rfl, rfl, rfl⟩ := hcs
      refine ⟨zs, .inr ⟨_, rfl, hl, hm, by simpa using hz, hcell, hwz⟩, ?_⟩
      simp only [Prod.mk.injEq] at hx
      rw [hx.1] at hsz
      have := sized_slice hsz (j := 0) (t := 22) (e := 5) rfl rfl Tryd.underlying22
      rw [show Tryd.prog.bytesOf 5 = 1 from by kernel_rfl] at this
      simp [lits, List.length_map, List.length_take, List.length_drop, reachBytes] at this
      simp at hz
      omega
  obtain ⟨a1, rfl, rfl, rfl, w1⟩ := open_int Tryd.underlying3 (hval 1 3 v1 rfl rfl) h1
  obtain ⟨a2, rfl, rfl, rfl, w2⟩ := open_int Tryd.underlying3 (hval 2 3 v2 rfl rfl) h2
  obtain ⟨a3, rfl, rfl, rfl, w3⟩ := open_int Tryd.underlying3 (hval 3 3 v3 rfl rfl) h3
  obtain ⟨a4, rfl, rfl, rfl, w4⟩ := open_int Tryd.underlying31 (hval 4 31 v4 rfl rfl) h4
  obtain ⟨a5, rfl, rfl, rfl, w5⟩ := open_int Tryd.underlying3 (hval 5 3 v5 rfl rfl) h5
  clear hA0 hval0
  refine (bitsTurned_walk W (Bits.tab_of_laid hL) a0 len0 cap0 z0 w0 e0 a1 w1 a2 w2 a3 w3 a4 w4 a5 w5).mono fun e W' ⟨he, bel⟩ => ?_
  subst he
  exact ⟨_, rfl, _, _, _, [], _, [], hW', trodAll_mk1 (shut_bool Tryd.underlying4 _), (trodAll_cons_mk (Below.trod laidOut (by kernel_rfl) (of_decide_eq_true (by kernel_rfl)) k0 bel lt0) (trodAll_cons_mk (shut_int Tryd.underlying3 w1) (trodAll_cons_mk (shut_int Tryd.underlying3 w2) (trodAll_cons_mk (shut_int Tryd.underlying3 w3) (trodAll_cons_mk (shut_int Tryd.underlying31 w4) (trodAll_cons_mk (shut_int Tryd.underlying3 w5) trodAll_mk0)))))), rfl, bel.frame _, fun h => by cases h⟩

theorem over : Rows.bitsTurnedRow.holds Tryd.pinned (OpenSpec.ofChange Rows.bitsTurnedSpec) :=
  OpenClaim.holds_of_wide 9 Tryd.f9 rfl rfl rfl rfl rfl rfl rfl ⟨rfl, rfl, rfl, rfl, rfl⟩ rfl rfl rfl rfl rfl (by kernel_rfl) Tryd.func9 (by kernel_rfl)
    (of_decide_eq_true (by kernel_rfl)) (by unfold Func.isWrapper; first | (rw [if_pos (by decide +kernel)]; kernel_rfl) | (rw [if_neg (by decide +kernel)]; exact ⟨rfl, rfl⟩))
    (fun os started H enc _ => lifted os started H enc)

theorem proved : Rows.BitsTurnedCardSaid :=
  Claim7.holds_tied_plain_at .later [] [.data, .data] true (true, "96ebdc0b6590c3421474a3afdebc92b9620e8281886a65cccbfbd02a6d73769d") true
    over (fun _ h => by cases h) (by kernel_rfl) (fun _ h => by cases h) bitsTurned_row_tie rfl ⟨rfl, rfl⟩ (by kernel_rfl) rfl
    (fun f fn hf hfn => by
      obtain rfl : f = 9 := Option.some.inj ((show Tryd.prog.funcNamed "hayrick/hayricklaw05.BitsTurned" = some 9 by kernel_rfl).symm.trans hf) |>.symm
      obtain rfl : fn = Tryd.f9 := (Option.some.inj (Tryd.func9.symm.trans hfn)).symm
      exact ⟨by kernel_rfl, fun j t ht => by
        have ha : (Tryd.f9.params.all fun t => !Tryd.prog.wantsStandIn t) = true := by kernel_rfl
        have hb := Array.all_eq_true_iff_forall_mem.1 ha t (Array.mem_of_getElem? ht)
        exact Bool.not_eq_true' _ ▸ hb⟩)
    (by kernel_rfl)
#print axioms proved
end Go.Proofs.YtcmpkcmfhfajpaaDoor.bitsTurned
