
/-
  THE ROW of hayricklaw07.LogNeeds: for every input the law returns true, and its arguments read as they did. No condition.
-/
import Derived.Test.YtafonjnanfekkaaK9
import Derived.Test.YtafonjnanfekkaaRows
import Derived.ProofKit
import Derived.OpenShut
import Derived.ShutString
import Derived.ChangeOld
import Derived.SizedLaws
import Derived.Lib.SmallJoins
namespace Go.Proofs.Ytafonjnanfekkaa.LLogNeeds
open Go.RowKit Go.Proofs.Ytafonjnanfekkaa.Wire Go.Proofs.Ytafonjnanfekkaa.Lay Go.Proofs.Ytafonjnanfekkaa.Log
set_option maxHeartbeats 8000000
set_option maxRecDepth 100000
set_option linter.unusedVariables false
set_option linter.unusedSimpArgs false

theorem and_mask (x : Int) (m : Nat) (hm : m < 9223372036854775808) : 0 ≤ bits .and .i64 x (m : Int) ∧ bits .and .i64 x (m : Int) ≤ (m : Int) := by
  show 0 ≤ IntKind.i64.wrap ((BitVec.ofInt 64 x &&& BitVec.ofInt 64 (m : Int)).toNat : Int) ∧ IntKind.i64.wrap ((BitVec.ofInt 64 x &&& BitVec.ofInt 64 (m : Int)).toNat : Int) ≤ (m : Int)
  rw [BitVec.toNat_and, ofInt_i64 m hm, IntKind.wrap_i64]
  have : (BitVec.ofInt 64 x).toNat &&& m ≤ m := Nat.and_le_right
  omega
theorem need_1 (w x r : Int) (hw : 0 ≤ w) (hx : 0 ≤ x) : need w r ≤ need (w + x) r := by unfold need parts; omega
theorem need_2 (w r s : Int) (hr : 0 ≤ r) (hs : 0 ≤ s) : need w r ≤ need w (r + s) := by unfold need parts; omega
theorem need_3 (w x r s : Int) (hw : 0 ≤ w) (hx : 0 ≤ x) (hr : 0 ≤ r) (hs : 0 ≤ s) : need (w + x) (r + s) ≤ need w r + need x s := by unfold need parts; omega
theorem need_le (w r : Int) (hw : w ≤ 10000) (hr : r ≤ 10000) : 0 ≤ need w r ∧ need w r ≤ 1000000 := by unfold need parts; omega
theorem logNeeds_walk (w : World) (a : Int) (wa : (Lit.int .i64 a).wf = true) (b : Int) (wb : (Lit.int .i64 b).wf = true) (c : Int) (wc : (Lit.int .i64 c).wf = true) (d : Int) (wd : (Lit.int .i64 d).wf = true) :
    Calls Try.prog 9 #[.int .i64 a, .int .i64 b, .int .i64 c, .int .i64 d] w fun e w' => e = .returned (.bool true) ∧ Below w.heap.size w w' := by
  have ha := and_mask a 4095 (by omega)
  have hb := and_mask b 4095 (by omega)
  have hc := and_mask c 4095 (by omega)
  have hd := and_mask d 4095 (by omega)
  rw [show ((4095 : Nat) : Int) = 4095 from rfl] at ha hb hc hd
  obtain ⟨p, hp⟩ : ∃ p, bits .and .i64 a 4095 = p := ⟨_, rfl⟩
  obtain ⟨x, hx⟩ : ∃ p, bits .and .i64 b 4095 = p := ⟨_, rfl⟩
  obtain ⟨r, hr⟩ : ∃ p, bits .and .i64 c 4095 = p := ⟨_, rfl⟩
  obtain ⟨s, hs⟩ : ∃ p, bits .and .i64 d 4095 = p := ⟨_, rfl⟩
  rw [hp] at ha
  rw [hx] at hb
  rw [hr] at hc
  rw [hs] at hd
  have l1 := need_1 p x r ha.1 hb.1
  have l2 := need_2 p r s hc.1 hd.1
  have l3 := need_3 p x r s ha.1 hb.1 hc.1 hd.1
  have b1 := need_le p r (by omega) (by omega)
  have b2 := need_le x s (by omega) (by omega)
  have N1 := Lib.hid fun w => need_any (p + x) r w (by omega) (by omega)
  have N2 := Lib.hid fun w => need_any p r w (by omega) (by omega)
  have N3 := Lib.hid fun w => need_any p (r + s) w (by omega) (by omega)
  have N4 := Lib.hid fun w => need_any x s w (by omega) (by omega)
  have N5 := Lib.hid fun w => need_any (p + x) (r + s) w (by omega) (by omega)
  generalize need (p + x) r = n1 at *
  generalize need p r = n2 at *
  generalize need p (r + s) = n3 at *
  generalize need x s = n4 at *
  generalize need (p + x) (r + s) = n5 at *
  have e1 : IntKind.i64.wrap (p + x) = p + x := by rw [IntKind.wrap_i64]; omega
  have e2 : IntKind.i64.wrap (r + s) = r + s := by rw [IntKind.wrap_i64]; omega
  have e3 : IntKind.i64.wrap (n2 + n4) = n2 + n4 := by rw [IntKind.wrap_i64]; omega
  clear wa wb wc wd
  go_enter Try.func9, Try.ntmps9
  go_wp2_with fail
  refine (logAwake_true w).mono ?_
  rintro e w1 ⟨rfl, hb1⟩
  have B1 := Lib.hid hb1
  clear hb1
  go_wp2_with fail
  refine (N1.out _).mono ?_
  rintro e w' ⟨rfl, rfl⟩
  go_wp2_with fail
  refine (N2.out _).mono ?_
  rintro e w' ⟨rfl, rfl⟩
  go_wp2_with fail
  refine (N3.out _).mono ?_
  rintro e w' ⟨rfl, rfl⟩
  go_wp2_with fail
  refine (N2.out _).mono ?_
  rintro e w' ⟨rfl, rfl⟩
  go_wp2_with fail
  refine (N2.out _).mono ?_
  rintro e w' ⟨rfl, rfl⟩
  go_wp2_with fail
  refine (N4.out _).mono ?_
  rintro e w' ⟨rfl, rfl⟩
  go_wp2_with fail
  refine (N5.out _).mono ?_
  rintro e w' ⟨rfl, rfl⟩
  go_wp2_with fail
  go_ret
  exact ⟨rfl, B1.out⟩
end Go.Proofs.Ytafonjnanfekkaa.LLogNeeds

namespace Go.Proofs.Ytafonjnanfekkaa.logNeeds
open Go.ChangeShapes Go.WideShapes Go.ChangeAt Go.RowKit Go.Joins
set_option linter.unusedVariables false
set_option linter.unusedSimpArgs false

open Go.Proofs.Ytafonjnanfekkaa.LLogNeeds
theorem own : ownKnob Try.prog.godebug = none := by kernel_rfl
theorem laidOut : laidOutB Try.prog = true := by kernel_rfl

set_option maxRecDepth 100000 in
theorem lifted (os : Os) (started : os.Started) (H : Type) (enc : TypeId × Value → H) :
    ReturnsInHanded {} Try.checked os 9 .any (Rows.logNeedsSpec.pre6 enc Try.prog Try.f9 Rows.logNeedsRow.domain false) (Rows.logNeedsSpec.post enc Try.prog Try.f9 false true false false) := by
  refine returnsInHanded_of_change (C := Try.checked) own started (by kernel_rfl) Try.func9
    (ChangeSpec.witness6 (enc := enc) (C := Try.checked) false ⟨#[], #[.int .i64 0, .int .i64 0, .int .i64 0, .int .i64 0], []⟩ 8 (by kernel_rfl) (by kernel_rfl) (by kernel_rfl) (by kernel_rfl)) ?_
  intro W base args ds gs before hval0 hW hcnd _
  have hval : ∀ (j : Nat) t v, Try.f9.params[j]? = some t → args[j]? = some v → Value.okWide Try.prog W .any base t v := hval0
  have hW' := hW
  obtain ⟨p, q, hA0, hV, rfl, hfz, hnd⟩ := hW
  have hA : DataW.TrodAll enc Try.prog W 0 (fun _ => true) true Try.f9.params.toList args.toList ds p := hA0
  rw [Try.params9] at hA hval
  obtain ⟨v0, vs0, d0, ds0, p0, q0, hargs, rfl, rfl, h0, r0⟩ := trodAll_cons hA
  obtain ⟨v1, vs1, d1, ds1, p1, q1, rfl, rfl, rfl, h1, r1⟩ := trodAll_cons r0
  obtain ⟨v2, vs2, d2, ds2, p2, q2, rfl, rfl, rfl, h2, r2⟩ := trodAll_cons r1
  obtain ⟨v3, vs3, d3, ds3, p3, q3, rfl, rfl, rfl, h3, r3⟩ := trodAll_cons r2
  obtain ⟨rfl, rfl, rfl⟩ := trodAll_nil r3
  obtain rfl : args = #[v0, v1, v2, v3] := by cases args; simp_all
  obtain ⟨rfl, rfl⟩ := trodVars_none hV
  obtain ⟨a0, rfl, rfl, rfl, w0⟩ := open_int Try.underlying3 (hval 0 3 v0 rfl rfl) h0
  obtain ⟨a1, rfl, rfl, rfl, w1⟩ := open_int Try.underlying3 (hval 1 3 v1 rfl rfl) h1
  obtain ⟨a2, rfl, rfl, rfl, w2⟩ := open_int Try.underlying3 (hval 2 3 v2 rfl rfl) h2
  obtain ⟨a3, rfl, rfl, rfl, w3⟩ := open_int Try.underlying3 (hval 3 3 v3 rfl rfl) h3
  clear hA0 hval0
  refine (logNeeds_walk W a0 w0 a1 w1 a2 w2 a3 w3).mono fun e W' ⟨he, bel⟩ => ?_
  subst he
  exact ⟨_, rfl, _, _, _, [], _, [], hW', trodAll_mk1 (shut_bool Try.underlying4 _), (trodAll_cons_mk (shut_int Try.underlying3 w0) (trodAll_cons_mk (shut_int Try.underlying3 w1) (trodAll_cons_mk (shut_int Try.underlying3 w2) (trodAll_cons_mk (shut_int Try.underlying3 w3) trodAll_mk0)))), rfl, bel.frame _, fun h => by cases h⟩

theorem over : Rows.logNeedsRow.holds Try.pinned (OpenSpec.ofChange Rows.logNeedsSpec) :=
  OpenClaim.holds_of_wide 9 Try.f9 rfl rfl rfl rfl rfl rfl rfl ⟨rfl, rfl, rfl, rfl, rfl⟩ rfl rfl rfl rfl rfl (by kernel_rfl) Try.func9 (by kernel_rfl)
    (of_decide_eq_true (by kernel_rfl)) (by unfold Func.isWrapper; first | (rw [if_pos (by decide +kernel)]; kernel_rfl) | (rw [if_neg (by decide +kernel)]; exact ⟨rfl, rfl⟩))
    (fun os started H enc _ => lifted os started H enc)

theorem proved : Rows.LogNeedsSaid := over
#print axioms proved
end Go.Proofs.Ytafonjnanfekkaa.logNeeds
