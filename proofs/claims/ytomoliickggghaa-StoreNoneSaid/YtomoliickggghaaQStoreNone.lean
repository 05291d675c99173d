
/-
  THE ROW of hayricklaw06.StoreNone: for every input the law returns true, and its arguments read as they did. No condition.
-/
import Derived.Test.YtomoliickggghaaKR6N11
import Derived.Test.YtomoliickggghaaRows
import Derived.ProofKit
import Derived.OpenShut
import Derived.ShutString
import Derived.ChangeOld
import Derived.SizedLaws
import Derived.Lib.SmallJoins
namespace Go.Proofs.Ytomoliickggghaa.Mem
open Go.RowKit Go.Proofs.Ytomoliickggghaa Go.Proofs.Ytomoliickggghaa.Wire
set_option maxHeartbeats 16000000
set_option maxRecDepth 100000
set_option linter.unusedVariables false
set_option linter.unusedSimpArgs false

theorem storeNone_walk (w : World) (n : Int) (wf : (Lit.int .i64 n).wf = true) : Calls Try.prog 6 #[.int .i64 n] w fun e w' => e = .returned (.bool true) ∧ Below w.heap.size w w' := by
  have HA := Lib.hid (awake_any w)
  go_enter Try.func6, Try.ntmps6
  go_wp2_with fail
  refine HA.out.mono ?_
  rintro e w1 ⟨rfl, hb1⟩
  have B1 := Lib.hid hb1
  obtain ⟨w2, hw2⟩ : ∃ w2, w1.alloc (.cells zcells 60) = w2 := ⟨_, rfl⟩
  obtain ⟨gz, hgz⟩ : ∃ gz, w1.heap.size = gz := ⟨_, rfl⟩
  obtain ⟨w3, hw3⟩ : ∃ w3, w2.alloc (.cells #[.pointer none, .pointer (some ⟨gz, 0, none⟩)] 28) = w3 := ⟨_, rfl⟩
  obtain ⟨gl, hgl⟩ : ∃ gl, w2.heap.size = gl := ⟨_, rfl⟩
  have hb2 : Below w1.heap.size w1 w2 := hw2 ▸ (Below.refl w1.heap.size w1).alloc (Nat.le_refl _) _
  have hb3 : Below w2.heap.size w2 w3 := hw3 ▸ (Below.refl w2.heap.size w2).alloc (Nat.le_refl _) _
  have KZ := Lib.hid (show Blk w3 gz 60 zcells from (show Blk w2 gz 60 zcells by rw [← hw2, ← hgz]; exact Blk.new _ _ _).belowAll hb3)
  have KL := Lib.hid (show Blk w3 gl 28 #[.pointer none, .pointer (some ⟨gz, 0, none⟩)] by rw [← hw3, ← hgl]; exact Blk.new _ _ _)
  have B3 := Lib.hid (below_all (below_all hb1 hb1.size hb2) (Nat.le_trans hb1.size hb2.size) hb3)
  have HW2 := Lib.hid (show w1.alloc (.cells #[.pointer none, .int .i64 0, .map none, .map none, .map none, .slice none 0 0, .slice none 0 0, .int .i64 0, .int .i64 0] 60) = w2 from hw2)
  have HGZ := Lib.hid hgz
  have HW3 := Lib.hid hw3
  have HGL := Lib.hid hgl
  clear hw2 hgz hw3 hgl hb1 hb2 hb3 HA
  go_wp2_with (first | rw [HGZ.out, HW2.out, HGL.out, HW3.out] | rw [HGZ.out, HW2.out] | rw [HGL.out, HW3.out] | fail)
  go_loopw [6, 7, 8, 9, 10, 11] (fun ii _ _ _ _ _ wr => ∃ k : Nat, k ≤ 2 ∧ ii = .int .i64 k ∧ Below w3.heap.size w3 wr) (fun ii _ _ _ _ _ _ => 2 - (intOf ii).toNat)
  case atStart => exact ⟨0, by omega, rfl, Below.refl _ _⟩
  case round =>
    obtain ⟨k, hk, rfl, hb⟩ := hrel
    have X4 := Lib.hid hb
    have KZ4 := KZ.out.belowAll hb
    have KL4 := KL.out.belowAll hb
    clear hb
    by_cases hlt : k < 2
    · obtain ⟨v, hv, hcl⟩ : ∃ v, Never wr v ∧ wr.cell? ⟨gl, k, none⟩ = some v := by
        rcases (show k = 0 ∨ k = 1 by omega) with rfl | rfl
        · exact ⟨_, .inl rfl, KL4.cell 0⟩
        · exact ⟨_, .inr ⟨gz, rfl, KZ4⟩, KL4.cell 1⟩
      have N4 := Lib.hid hv
      have hki : (k : Int) < 2 := by omega
      have hkn : ((k : Int)).toNat = k := by omega
      clear hv KZ4 KL4
      go_wp2_with fail
      refine (nrelease wr v N4.out).mono ?_
      rintro e w' ⟨rfl, rfl⟩
      go_wp2_with fail
      refine (nread wr v n N4.out).mono ?_
      rintro e w' ⟨rfl, rfl⟩
      go_wp2_with fail
      refine (ncounts wr v N4.out).mono ?_
      rintro e w5 ⟨rfl, kd, rfl⟩
      have N5 := Lib.hid (N4.out.below (below_drewN (Below.refl _ _) kd))
      have X5 := Lib.hid (below_drewN X4.out kd)
      obtain ⟨w5, hw5⟩ : ∃ w5, wr.drewN kd = w5 := ⟨_, rfl⟩
      rw [hw5] at N5 X5 ⊢
      clear hw5 N4 X4
      go_wp2_with fail
      refine (filled_any 1 w5).mono ?_
      rintro e w6 ⟨rfl, hb6, _⟩
      have N6 := Lib.hid (N5.out.below hb6)
      have X6 := Lib.hid (below_all X5.out X5.out.size hb6)
      clear hb6 N5 X5
      go_wp2_with fail
      refine (nwrite w6 v n _ 256 256 N6.out).mono ?_
      rintro e w7 ⟨rfl, hb7⟩
      have N7 := Lib.hid (N6.out.below hb7)
      have X7 := Lib.hid (below_all X6.out X6.out.size hb7)
      clear hb7 N6 X6
      go_wp2_with fail
      refine (nhold w7 v n N7.out).mono ?_
      rintro e w8 ⟨rfl, hb8⟩
      have N8 := Lib.hid (N7.out.below hb8)
      have X8 := Lib.hid (below_all X7.out X7.out.size hb8)
      clear hb8 N7 X7
      go_wp2_with fail
      refine (nback w8 v n N8.out).mono ?_
      rintro e w' ⟨rfl, rfl⟩
      go_wp2_with fail
      refine (nhome w8 v n N8.out).mono ?_
      rintro e w' ⟨rfl, rfl⟩
      go_wp2_with fail
      refine (nheld w8 v n N8.out).mono ?_
      rintro e w' ⟨rfl, rfl⟩
      go_wp2_with fail
      refine (nmark w8 v N8.out).mono ?_
      rintro e w' ⟨rfl, rfl⟩
      go_wp2_with fail
      refine (nchanged w8 v N8.out).mono ?_
      rintro e w9 ⟨Ac, cc, rfl, hb9⟩
      have N9 := Lib.hid (N8.out.below hb9)
      have X9 := Lib.hid (below_all X8.out X8.out.size hb9)
      clear hb9 N8 X8
      go_wp2_with fail
      refine (ncommit w9 v N9.out).mono ?_
      rintro e w' ⟨rfl, rfl⟩
      go_wp2_with fail
      refine (nwaiting w9 v N9.out).mono ?_
      rintro e w10 ⟨rfl, hb10⟩
      have N10 := Lib.hid (N9.out.below hb10)
      have X10 := Lib.hid (below_all X9.out X9.out.size hb10)
      clear hb10 N9 X9
      go_wp2_with fail
      refine (nblocks w10 v N10.out).mono ?_
      rintro e w' ⟨rfl, rfl⟩
      go_wp2_with fail
      go_roundw
      case rel => exact ⟨k + 1, by omega, by go_num, X10.out⟩
      case measure => simp [intOf]; omega
    · obtain rfl : k = 2 := by omega
      go_wp2_with fail
      go_ret
      exact ⟨rfl, below_all B3.out B3.out.size X4.out⟩
end Go.Proofs.Ytomoliickggghaa.Mem

namespace Go.Proofs.Ytomoliickggghaa.storeNone
open Go.ChangeShapes Go.WideShapes Go.ChangeAt Go.RowKit Go.Joins
set_option linter.unusedVariables false
set_option linter.unusedSimpArgs false

open Go.Proofs.Ytomoliickggghaa.Mem
theorem own : ownKnob Try.prog.godebug = none := by kernel_rfl
theorem laidOut : laidOutB Try.prog = true := by kernel_rfl

set_option maxRecDepth 100000 in
theorem lifted (os : Os) (started : os.Started) (H : Type) (enc : TypeId × Value → H) :
    ReturnsInHanded {} Try.checked os 6 .any (Rows.storeNoneSpec.pre6 enc Try.prog Try.f6 Rows.storeNoneRow.domain false) (Rows.storeNoneSpec.post enc Try.prog Try.f6 false true false false) := by
  refine returnsInHanded_of_change (C := Try.checked) own started (by kernel_rfl) Try.func6
    (ChangeSpec.witness6 (enc := enc) (C := Try.checked) false ⟨#[], #[.int .i64 0], []⟩ 8 (by kernel_rfl) (by kernel_rfl) (by kernel_rfl) (by kernel_rfl)) ?_
  intro W base args ds gs before hval0 hW hcnd _
  have hval : ∀ (j : Nat) t v, Try.f6.params[j]? = some t → args[j]? = some v → Value.okWide Try.prog W .any base t v := hval0
  have hW' := hW
  obtain ⟨p, q, hA0, hV, rfl, hfz, hnd⟩ := hW
  have hA : DataW.TrodAll enc Try.prog W 0 (fun _ => true) true Try.f6.params.toList args.toList ds p := hA0
  rw [Try.params6] at hA hval
  obtain ⟨v0, vs0, d0, ds0, p0, q0, hargs, rfl, rfl, h0, r0⟩ := trodAll_cons hA
  obtain ⟨rfl, rfl, rfl⟩ := trodAll_nil r0
  obtain rfl : args = #[v0] := by cases args; simp_all
  obtain ⟨rfl, rfl⟩ := trodVars_none hV
  obtain ⟨a0, rfl, rfl, rfl, w0⟩ := open_int Try.underlying3 (hval 0 3 v0 rfl rfl) h0
  clear hA0 hval0
  refine (storeNone_walk W a0 w0).mono fun e W' ⟨he, bel⟩ => ?_
  subst he
  exact ⟨_, rfl, _, _, _, [], _, [], hW', trodAll_mk1 (shut_bool Try.underlying4 _), (trodAll_cons_mk (shut_int Try.underlying3 w0) trodAll_mk0), rfl, bel.frame _, fun h => by cases h⟩

theorem over : Rows.storeNoneRow.holds Try.pinned (OpenSpec.ofChange Rows.storeNoneSpec) :=
  OpenClaim.holds_of_wide 6 Try.f6 rfl rfl rfl rfl rfl rfl rfl ⟨rfl, rfl, rfl, rfl, rfl⟩ rfl rfl rfl rfl rfl (by kernel_rfl) Try.func6 (by kernel_rfl)
    (of_decide_eq_true (by kernel_rfl)) (by unfold Func.isWrapper; first | (rw [if_pos (by decide +kernel)]; kernel_rfl) | (rw [if_neg (by decide +kernel)]; exact ⟨rfl, rfl⟩))
    (fun os started H enc _ => lifted os started H enc)

theorem proved : Rows.StoreNoneSaid := over
#print axioms proved
end Go.Proofs.Ytomoliickggghaa.storeNone
