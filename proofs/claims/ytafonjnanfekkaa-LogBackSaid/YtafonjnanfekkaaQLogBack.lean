
/-
  THE ROW of hayricklaw07.LogBack: for every input the law returns true, and its arguments read as they did. No condition.
-/
import Derived.Test.YtafonjnanfekkaaK9
import Derived.Test.YtafonjnanfekkaaK10
import Derived.Test.YtafonjnanfekkaaK6
import Derived.StillTailTactics
import Derived.Test.YtafonjnanfekkaaRows
import Derived.ProofKit
import Derived.OpenShut
import Derived.ShutString
import Derived.ChangeOld
import Derived.SizedLaws
import Derived.Lib.SmallJoins
namespace Go.Proofs.Ytafonjnanfekkaa.LLogNeeds
open Go.RowKit Go.Proofs.Ytafonjnanfekkaa.Wire Go.Proofs.Ytafonjnanfekkaa.Lay Go.Proofs.Ytafonjnanfekkaa.Log
set_option maxHeartbeats 8000000
set_option maxRecDepth 100000
set_option linter.unusedVariables false
set_option linter.unusedSimpArgs false

theorem and_mask (x : Int) (m : Nat) (hm : m < 9223372036854775808) : 0 ≤ bits .and .i64 x (m : Int) ∧ bits .and .i64 x (m : Int) ≤ (m : Int) := by
  show 0 ≤ IntKind.i64.wrap ((BitVec.ofInt 64 x &&& BitVec.ofInt 64 (m : Int)).toNat : Int) ∧ IntKind.i64.wrap ((BitVec.ofInt 64 x &&& BitVec.ofInt 64 (m : Int)).toNat : Int) ≤ (m : Int)
  rw [BitVec.toNat_and, ofInt_i64 m hm, IntKind.wrap_i64]
  have : (BitVec.ofInt 64 x).toNat &&& m ≤ m := Nat.and_le_right
  omega
theorem need_1 (w x r : Int) (hw : 0 ≤ w) (hx : 0 ≤ x) : need w r ≤ need (w + x) r := by unfold need parts; omega
theorem need_2 (w r s : Int) (hr : 0 ≤ r) (hs : 0 ≤ s) : need w r ≤ need w (r + s) := by unfold need parts; omega
theorem need_3 (w x r s : Int) (hw : 0 ≤ w) (hx : 0 ≤ x) (hr : 0 ≤ r) (hs : 0 ≤ s) : need (w + x) (r + s) ≤ need w r + need x s := by unfold need parts; omega
theorem need_le (w r : Int) (hw : w ≤ 10000) (hr : r ≤ 10000) : 0 ≤ need w r ∧ need w r ≤ 1000000 := by unfold need parts; omega
theorem logNeeds_walk (w : World) (a : Int) (wa : (Lit.int .i64 a).wf = true) (b : Int) (wb : (Lit.int .i64 b).wf = true) (c : Int) (wc : (Lit.int .i64 c).wf = true) (d : Int) (wd : (Lit.int .i64 d).wf = true) :
    Calls Try.prog 9 #[.int .i64 a, .int .i64 b, .int .i64 c, .int .i64 d] w fun e w' => e = .returned (.bool true) ∧ Below w.heap.size w w' := by
  have ha := and_mask a 4095 (by omega)
  have hb := and_mask b 4095 (by omega)
  have hc := and_mask c 4095 (by omega)
  have hd := and_mask d 4095 (by omega)
  rw [show ((4095 : Nat) : Int) = 4095 from rfl] at ha hb hc hd
  obtain ⟨p, hp⟩ : ∃ p, bits .and .i64 a 4095 = p := ⟨_, rfl⟩
  obtain ⟨x, hx⟩ : ∃ p, bits .and .i64 b 4095 = p := ⟨_, rfl⟩
  obtain ⟨r, hr⟩ : ∃ p, bits .and .i64 c 4095 = p := ⟨_, rfl⟩
  obtain ⟨s, hs⟩ : ∃ p, bits .and .i64 d 4095 = p := ⟨_, rfl⟩
  rw [hp] at ha
  rw [hx] at hb
  rw [hr] at hc
  rw [hs] at hd
  have l1 := need_1 p x r ha.1 hb.1
  have l2 := need_2 p r s hc.1 hd.1
  have l3 := need_3 p x r s ha.1 hb.1 hc.1 hd.1
  have b1 := need_le p r (by omega) (by omega)
  have b2 := need_le x s (by omega) (by omega)
  have N1 := Lib.hid fun w => need_any (p + x) r w (by omega) (by omega)
  have N2 := Lib.hid fun w => need_any p r w (by omega) (by omega)
  have N3 := Lib.hid fun w => need_any p (r + s) w (by omega) (by omega)
  have N4 := Lib.hid fun w => need_any x s w (by omega) (by omega)
  have N5 := Lib.hid fun w => need_any (p + x) (r + s) w (by omega) (by omega)
  generalize need (p + x) r = n1 at *
  generalize need p r = n2 at *
  generalize need p (r + s) = n3 at *
  generalize need x s = n4 at *
  generalize need (p + x) (r + s) = n5 at *
  have e1 : IntKind.i64.wrap (p + x) = p + x := by rw [IntKind.wrap_i64]; omega
  have e2 : IntKind.i64.wrap (r + s) = r + s := by rw [IntKind.wrap_i64]; omega
  have e3 : IntKind.i64.wrap (n2 + n4) = n2 + n4 := by rw [IntKind.wrap_i64]; omega
  clear wa wb wc wd
  go_enter Try.func9, Try.ntmps9
  go_wp2_with fail
  refine (logAwake_true w).mono ?_
  rintro e w1 ⟨rfl, hb1⟩
  have B1 := Lib.hid hb1
  clear hb1
  go_wp2_with fail
  refine (N1.out _).mono ?_
  rintro e w' ⟨rfl, rfl⟩
  go_wp2_with fail
  refine (N2.out _).mono ?_
  rintro e w' ⟨rfl, rfl⟩
  go_wp2_with fail
  refine (N3.out _).mono ?_
  rintro e w' ⟨rfl, rfl⟩
  go_wp2_with fail
  refine (N2.out _).mono ?_
  rintro e w' ⟨rfl, rfl⟩
  go_wp2_with fail
  refine (N2.out _).mono ?_
  rintro e w' ⟨rfl, rfl⟩
  go_wp2_with fail
  refine (N4.out _).mono ?_
  rintro e w' ⟨rfl, rfl⟩
  go_wp2_with fail
  refine (N5.out _).mono ?_
  rintro e w' ⟨rfl, rfl⟩
  go_wp2_with fail
  go_ret
  exact ⟨rfl, B1.out⟩
end Go.Proofs.Ytafonjnanfekkaa.LLogNeeds

namespace Go.Proofs.Ytafonjnanfekkaa.LLogBack
open Go.RowKit Go.Proofs.Ytafonjnanfekkaa.Wire Go.Proofs.Ytafonjnanfekkaa.Lay Go.Proofs.Ytafonjnanfekkaa.Log
set_option maxHeartbeats 8000000
set_option maxRecDepth 100000
set_option linter.unusedVariables false
set_option linter.unusedSimpArgs false

theorem logBack_no (k s : Int) (A : Option Addr) (n c sum : Nat) (st : Int) (es : List Ent) (bit : Int) (w : World) (hn : n ≤ 8796093021952) (hs : sum < 4294967296) (hr : RowAt w A (n * 2) (ecells es)) (hm : rMay k s es sum st = false) :
    Calls Try.prog 7 #[.agg #[.int .i64 k, .int .i64 s, .slice A n c, .int .u32 (sum : Int), .int .i64 st], .int .i64 bit] w fun e w' => e = .returned (.bool true) ∧ Below w.heap.size w w' := by
  obtain ⟨W, hW⟩ : ∃ W, w.alloc (.cells #[.int .i64 k, .int .i64 s, .slice A n c, .int .u32 (sum : Int), .int .i64 st] 53) = W := ⟨_, rfl⟩
  obtain ⟨b0, hbel, hsz⟩ := boxed w _ _ W hW
  have HW := Lib.hid hW
  have B0 := Lib.hid hbel
  have K0 := Lib.hid b0
  have HR := Lib.hid (hr.below hbel)
  have E1 := Lib.hid (show rE k s es sum st = 22 by simp [rE, hm])
  have E2 := Lib.hid (show rB k s es sum st = [] by simp [rB, hm])
  have HSM := Lib.hid hs
  clear hW b0 hbel hr hm hs
  go_enter Try.func7, Try.ntmps7
  go_wp2_with fail
  rw [HW.out]
  refine (logAwake_true W).mono ?_
  rintro e w1 ⟨rfl, hb1⟩
  have B1 := Lib.hid (below_all B0.out B0.out.size hb1)
  have k1 := K0.out.belowAll hb1
  have HR1 := Lib.hid (HR.out.below hb1)
  have f0 := k1.cell 0
  have f1 := k1.cell 1
  have f2 := k1.cell 2
  have f3 := k1.cell 3
  have f4 := k1.cell 4
  clear hb1 k1 HR
  go_wp2_with fail
  refine (mine_any k s A n c sum st es w1 hn HR1.out).mono ?_
  rintro e w2 ⟨v2, rfl, hb2, ho2⟩
  have B2 := Lib.hid (below_all B1.out B1.out.size hb2)
  obtain ⟨A2, c2, rfl, hr2, _, _, _, _⟩ := own_sliceN ho2
  have HP := Lib.hid (logPack_any k s A2 n c2 sum st es w2 (by omega) HSM.out hr2)
  clear hb2 ho2 hr2 f0 f1 f2 f3 f4
  go_wp2_with fail
  refine HP.out.mono ?_
  rintro e w3 ⟨v3, rfl, hb3, ho3⟩
  rw [E1.out]
  rw [E2.out] at ho3
  obtain ⟨A3, c3, rfl, _, _, _, _, _⟩ := own_slice ho3
  have B3 := Lib.hid (below_all B2.out B2.out.size hb3)
  clear hb3 ho3
  go_wp2_with fail
  go_ret
  exact ⟨rfl, B3.out⟩
theorem logBack_in (k s : Int) (A : Option Addr) (n c sum : Nat) (st : Int) (es : List Ent) (bit : Int) (w : World) (hn : n ≤ 8796093021952) (hs : sum < 4294967296) (hr : RowAt w A (n * 2) (ecells es)) (hm : rMay k s es sum st = true) :
    Calls Try.prog 7 #[.agg #[.int .i64 k, .int .i64 s, .slice A n c, .int .u32 (sum : Int), .int .i64 st], .int .i64 bit] w fun e w' => e = .returned (.bool true) ∧ Below w.heap.size w w' := by
  have hlen : es.length = n := by have := hr.len; rw [ecells_length] at this; omega
  obtain ⟨W, hW⟩ : ∃ W, w.alloc (.cells #[.int .i64 k, .int .i64 s, .slice A n c, .int .u32 (sum : Int), .int .i64 st] 53) = W := ⟨_, rfl⟩
  obtain ⟨b0, hbel, hsz⟩ := boxed w _ _ W hW
  have HW := Lib.hid hW
  have B0 := Lib.hid hbel
  have K0 := Lib.hid b0
  have HR := Lib.hid (hr.below hbel)
  have E1 := Lib.hid (show rE k s es sum st = 0 by simp [rE, hm])
  have HSM := Lib.hid hs
  obtain ⟨q1, q2, q3, q4, q5, q6⟩ := rec_back hm hs
  have hpl := rB_len hm hs
  obtain ⟨pb, hpb⟩ : ∃ pb, rB k s es sum st = pb := ⟨_, rfl⟩
  rw [hpb] at q1 q2 q3 q4 q5 q6 hpl
  have UV := Lib.hid (show ∀ v, uV pb v = #[.int .i64 k, .int .i64 s, v, .int .u32 (sum : Int), .int .i64 st] from fun v => by rw [uV, if_pos q1, q2, q3, q5, q6])
  have UE := Lib.hid (show uE pb = 0 by simp [uE, q1])
  have UX := Lib.hid (show uXs pb = es by simp [uXs, q1, q4])
  have PB := Lib.hid hpb
  have PL := Lib.hid hpl
  have PO := Lib.hid q1
  have HL := Lib.hid hlen
  have hmask := LLogNeeds.and_mask bit 2047 (by omega)
  rw [show ((2047 : Nat) : Int) = 2047 from rfl] at hmask
  obtain ⟨tz, htz⟩ : ∃ tz, bits .and .i64 bit 2047 = tz := ⟨_, rfl⟩
  rw [htz] at hmask
  obtain ⟨t, rfl⟩ := Int.eq_ofNat_of_zero_le hmask.1
  have HT := Lib.hid htz
  have ht : t ≤ 2047 := by omega
  clear hW b0 hbel hr hm hs q1 q2 q3 q4 q5 q6 hpb hpl htz hmask hlen
  go_enter Try.func7, Try.ntmps7
  go_wp2_with fail
  rw [HW.out]
  refine (logAwake_true W).mono ?_
  rintro e w1 ⟨rfl, hb1⟩
  have B1 := Lib.hid (below_all B0.out B0.out.size hb1)
  have K1 := Lib.hid (K0.out.belowAll hb1)
  have HR1 := Lib.hid (HR.out.below hb1)
  have f0 := K1.out.cell 0
  have f1 := K1.out.cell 1
  have f2 := K1.out.cell 2
  have f3 := K1.out.cell 3
  have f4 := K1.out.cell 4
  clear hb1 HR
  go_wp2_with fail
  refine (mine_any k s A n c sum st es w1 hn HR1.out).mono ?_
  rintro e w2 ⟨v2, rfl, hb2, ho2⟩
  have B2 := Lib.hid (below_all B1.out B1.out.size hb2)
  have K2 := Lib.hid (K1.out.belowAll hb2)
  have HR2 := Lib.hid (HR1.out.below hb2)
  obtain ⟨A2, c2, rfl, hr2, _, _, _, _⟩ := own_sliceN ho2
  have HP := Lib.hid (logPack_any k s A2 n c2 sum st es w2 (by omega) HSM.out hr2)
  clear hb2 ho2 hr2 f0 f1 f2 f3 f4
  go_wp2_with fail
  refine HP.out.mono ?_
  rintro e w3 ⟨v3, rfl, hb3, ho3⟩
  rw [E1.out]
  rw [PB.out, PL.out] at ho3
  have hz2 := B2.out.size
  obtain ⟨g, c3, cs3, rfl, hg3, _, hc3, hm3, _⟩ := own_form ho3 (by omega)
  have O3 := Lib.hid ho3
  have B3 := Lib.hid (below_all B2.out B2.out.size hb3)
  have K3 := Lib.hid (K2.out.belowAll hb3)
  have HR3 := Lib.hid (HR2.out.below hb3)
  have hc64 : c3 ≤ 9223372036854775807 := by unfold maxLen at hm3; omega
  clear hb3 ho3 HP
  go_wp2_with fail
  refine (logUnpack_any _ 256 c3 pb w3 hc3 hc64 (BytesAt.of_own O3.out)).mono ?_
  rintro e w4 ⟨v4, rfl, hb4, ho4⟩
  rw [UV.out, UE.out]
  rw [UX.out, HL.out] at ho4
  obtain ⟨A4, c4, rfl, hr4, _, _, _, _⟩ := own_sliceN ho4
  have B4 := Lib.hid ((below_all B3.out B3.out.size hb4).alloc (below_all B3.out B3.out.size hb4).size (.cells #[.int .i64 k, .int .i64 s, .slice A4 n c4, .int .u32 (sum : Int), .int .i64 st] 57))
  have K4 := Lib.hid ((K3.out.belowAll hb4).alloc (.cells #[.int .i64 k, .int .i64 s, .slice A4 n c4, .int .u32 (sum : Int), .int .i64 st] 57))
  have R4 := Lib.hid (Blk.new w4 57 #[.int .i64 k, .int .i64 s, .slice A4 n c4, .int .u32 (sum : Int), .int .i64 st])
  have HR4 := Lib.hid (((HR3.out.below hb4)).below ((Below.refl w4.heap.size w4).alloc (Nat.le_refl _) (.cells #[.int .i64 k, .int .i64 s, .slice A4 n c4, .int .u32 (sum : Int), .int .i64 st] 57)))
  have HQ4 := Lib.hid (hr4.below ((Below.refl w4.heap.size w4).alloc (Nat.le_refl _) (.cells #[.int .i64 k, .int .i64 s, .slice A4 n c4, .int .u32 (sum : Int), .int .i64 st] 57)))
  have O4 := Lib.hid ((own_belowN O3.out hb4).alloc (.cells #[.int .i64 k, .int .i64 s, .slice A4 n c4, .int .u32 (sum : Int), .int .i64 st] 57))
  clear hb4 ho4 hr4 O3 HR1 HR2 HR3 K1 K2 K3 B1 B2 B3
  go_wp2_with fail
  obtain ⟨w5, hw5⟩ : ∃ w5, (w4.alloc (.cells #[.int .i64 k, .int .i64 s, .slice A4 n c4, .int .u32 (sum : Int), .int .i64 st] 57)).drew = w5 := ⟨_, rfl⟩
  have HW5 := Lib.hid hw5
  have B5 := Lib.hid (show Below w.heap.size w w5 from hw5 ▸ B4.out.drew)
  have K5 := Lib.hid (show Blk w5 w.heap.size 53 #[.int .i64 k, .int .i64 s, .slice A n c, .int .u32 (sum : Int), .int .i64 st] from hw5 ▸ K4.out.drew)
  have R5 := Lib.hid (show Blk w5 w4.heap.size 57 #[.int .i64 k, .int .i64 s, .slice A4 n c4, .int .u32 (sum : Int), .int .i64 st] from hw5 ▸ R4.out.drew)
  have HR5 := Lib.hid (show RowAt w5 A (n * 2) (ecells es) from hw5 ▸ HR4.out)
  have HQ5 := Lib.hid (show RowAt w5 A4 (n * 2) (ecells es) from hw5 ▸ HQ4.out)
  have O5 := Lib.hid (show w5.ownsRow w2.heap.size 5 1 (.slice (some ⟨g, 0, none⟩) 256 c3) 256 (bvl pb) from hw5 ▸ O4.out)
  clear hw5 B4 K4 R4 HR4 HQ4 O4
  have hsk : ∀ W', Blk W' w.heap.size 53 #[.int .i64 k, .int .i64 s, .slice A n c, .int .u32 (sum : Int), .int .i64 st] → Blk W' w4.heap.size 57 #[.int .i64 k, .int .i64 s, .slice A4 n c4, .int .u32 (sum : Int), .int .i64 st] → (fun w' => w'.cell? ⟨w.heap.size, 0, none⟩ = some (.int .i64 k) ∧ w'.cell? ⟨w.heap.size, 1, none⟩ = some (.int .i64 s) ∧ w'.cell? ⟨w.heap.size, 2, none⟩ = some (.slice A n c) ∧ w'.cell? ⟨w.heap.size, 3, none⟩ = some (.int .u32 (sum : Int)) ∧ w'.cell? ⟨w.heap.size, 4, none⟩ = some (.int .i64 st) ∧ w'.cell? ⟨w4.heap.size, 0, none⟩ = some (.int .i64 k) ∧ w'.cell? ⟨w4.heap.size, 1, none⟩ = some (.int .i64 s) ∧ w'.cell? ⟨w4.heap.size, 2, none⟩ = some (.slice A4 n c4) ∧ w'.cell? ⟨w4.heap.size, 3, none⟩ = some (.int .u32 (sum : Int)) ∧ w'.cell? ⟨w4.heap.size, 4, none⟩ = some (.int .i64 st)) W' := fun W' a b => ⟨a.cell 0, a.cell 1, a.cell 2, a.cell 3, a.cell 4, b.cell 0, b.cell 1, b.cell 2, b.cell 3, b.cell 4⟩
  have SK := Lib.hid hsk
  have hNS := hsk w5 K5.out R5.out
  refine region_need_at (v := w5) (fun w' => w'.cell? ⟨w.heap.size, 0, none⟩ = some (.int .i64 k) ∧ w'.cell? ⟨w.heap.size, 1, none⟩ = some (.int .i64 s) ∧ w'.cell? ⟨w.heap.size, 2, none⟩ = some (.slice A n c) ∧ w'.cell? ⟨w.heap.size, 3, none⟩ = some (.int .u32 (sum : Int)) ∧ w'.cell? ⟨w.heap.size, 4, none⟩ = some (.int .i64 st) ∧ w'.cell? ⟨w4.heap.size, 0, none⟩ = some (.int .i64 k) ∧ w'.cell? ⟨w4.heap.size, 1, none⟩ = some (.int .i64 s) ∧ w'.cell? ⟨w4.heap.size, 2, none⟩ = some (.slice A4 n c4) ∧ w'.cell? ⟨w4.heap.size, 3, none⟩ = some (.int .u32 (sum : Int)) ∧ w'.cell? ⟨w4.heap.size, 4, none⟩ = some (.int .i64 st)) (fun i => i == 3 || (i == 4 || i == 5)) HW5.out (by kernel_rfl) ?_
  clear hsk
  refine nw_free (i := 0) (v := ?_) rfl (by kernel_rfl) (fun _ _ d _ _ h => by cases d <;> exact h) (by kernel_rfl) ?_ (fun K hK => ?_); rotate_left; (· (intro w'; go_simp; with_reducible rfl)); simp only [Act.put, List.setIfInBounds_toArray, List.set_cons_zero, List.set_cons_succ]; refine hK _ ?_; clear hK K
  refine nw_free (i := 1) (v := ?_) rfl (by kernel_rfl) (fun _ _ d _ _ h => by cases d <;> exact h) (by kernel_rfl) ?_ (fun K hK => ?_); rotate_left; (· (intro w'; go_simp; with_reducible rfl)); simp only [Act.put, List.setIfInBounds_toArray, List.set_cons_zero, List.set_cons_succ]; refine hK _ ?_; clear hK K
  refine nw_free (i := 2) (v := ?_) rfl (by kernel_rfl) (fun _ _ d _ _ h => by cases d <;> exact h) (by kernel_rfl) ?_ (fun K hK => ?_); rotate_left; (· (intro w'; go_simp; with_reducible rfl)); simp only [Act.put, List.setIfInBounds_toArray, List.set_cons_zero, List.set_cons_succ]; refine hK _ ?_; clear hK K
  refine nw_take (i := 3) (v := ?_) rfl (by kernel_rfl) (by kernel_rfl) (fun _ _ d _ _ h => by cases d <;> exact h) (by exact hNS) (by kernel_rfl) ?_ (fun K hK => ?_); rotate_left; (· (intro w' hSw; (try dsimp only at hSw); go_simp; with_reducible rfl)); simp only [Act.put, List.setIfInBounds_toArray, List.set_cons_zero, List.set_cons_succ]; refine hK _ ?_; clear hK K
  refine nw_take (i := 5) (v := ?_) rfl (by kernel_rfl) (by kernel_rfl) (fun _ _ d _ _ h => by cases d <;> exact h) (by exact hNS) (by kernel_rfl) ?_ (fun K hK => ?_); rotate_left; (· (intro w' hSw; (try dsimp only at hSw); go_simp; with_reducible rfl)); simp only [Act.put, List.setIfInBounds_toArray, List.set_cons_zero, List.set_cons_succ]; refine hK _ ?_; clear hK K
  clear hNS
  refine nw_one (i := 4) (E := False) rfl (by kernel_rfl) (fun K hK => ?_) (by kernel_rfl)
  go_simp
  refine (theirs_any k s A4 n c4 sum st es w5 hn HQ5.out).mono ?_
  rintro e w6 ⟨v6, rfl, hb6, ho6⟩
  have B6 := Lib.hid (below_all B5.out B5.out.size hb6)
  have HR6 := Lib.hid (HR5.out.below hb6)
  have O6 := Lib.hid (own_belowN O5.out hb6)
  have SK6 := Lib.hid (SK.out w6 (K5.out.belowAll hb6) (R5.out.belowAll hb6))
  obtain ⟨A6, c6, rfl, hr6, _, _, _, _⟩ := own_sliceN ho6
  have HS := Lib.hid (recSame_any k s A6 A n c6 c sum st es w6 (by omega) hr6 HR6.out)
  clear hb6 ho6 hr6 O5 HR5 HQ5 B5
  refine hK.out _ _ (fun _ => SK6.out) ?_
  clear hK K
  try simp only [Act.put, List.setIfInBounds_toArray, List.set_cons_zero, List.set_cons_succ]
  refine nw_one (i := 6) (E := False) rfl (by kernel_rfl) (fun K hK => ?_) (by kernel_rfl)
  go_simp
  refine HS.out.mono ?_
  rintro e w7 ⟨rfl, hb7⟩
  have B7 := Lib.hid (below_all B6.out B6.out.size hb7)
  have O7 := Lib.hid (own_belowN O6.out hb7)
  clear hb7 B6 O6 HS SK6
  refine hK.out _ _ ((fun h => absurd h (by decide))) ?_
  clear hK K
  try simp only [Act.put, List.setIfInBounds_toArray, List.set_cons_zero, List.set_cons_succ]
  refine nw_free (i := 7) (v := ?_) rfl (by kernel_rfl) (fun _ _ d _ _ h => by cases d <;> exact h) (by kernel_rfl) ?_ (fun K hK => ?_); rotate_left; (· (intro w'; go_simp; with_reducible rfl)); simp only [Act.put, List.setIfInBounds_toArray, List.set_cons_zero, List.set_cons_succ]; refine hK _ ?_; clear hK K
  refine nw_free (i := 8) (v := ?_) rfl (by kernel_rfl) (fun _ _ d _ _ h => by cases d <;> exact h) (by kernel_rfl) ?_ (fun K hK => ?_); rotate_left; (· (intro w'; go_simp; with_reducible rfl)); simp only [Act.put, List.setIfInBounds_toArray, List.set_cons_zero, List.set_cons_succ]; refine hK _ ?_; clear hK K
  refine nw_free (i := 9) (v := ?_) rfl (by kernel_rfl) (fun _ _ d _ _ h => by cases d <;> exact h) (by kernel_rfl) ?_ (fun K hK => ?_); rotate_left; (· (intro w'; go_simp; with_reducible rfl)); simp only [Act.put, List.setIfInBounds_toArray, List.set_cons_zero, List.set_cons_succ]; refine hK _ ?_; clear hK K
  refine nw_free (i := 10) (v := ?_) rfl (by kernel_rfl) (fun _ _ d _ _ h => by cases d <;> exact h) (by kernel_rfl) ?_ (fun K hK => ?_); rotate_left; (· (intro w'; go_simp; with_reducible rfl)); simp only [Act.put, List.setIfInBounds_toArray, List.set_cons_zero, List.set_cons_succ]; refine hK _ ?_; clear hK K
  refine nw_free (i := 11) (v := ?_) rfl (by kernel_rfl) (fun _ _ d _ _ h => by cases d <;> exact h) (by kernel_rfl) ?_ (fun K hK => ?_); rotate_left; (· (intro w'; go_simp; with_reducible rfl)); simp only [Act.put, List.setIfInBounds_toArray, List.set_cons_zero, List.set_cons_succ]; refine hK _ ?_; clear hK K
  refine nw_free (i := 12) (v := ?_) rfl (by kernel_rfl) (fun _ _ d _ _ h => by cases d <;> exact h) (by kernel_rfl) ?_ (fun K hK => ?_); rotate_left; (· (intro w'; go_simp; with_reducible rfl)); simp only [Act.put, List.setIfInBounds_toArray, List.set_cons_zero, List.set_cons_succ]; refine hK _ ?_; clear hK K
  refine nw_free (i := 13) (v := ?_) rfl (by kernel_rfl) (fun _ _ d _ _ h => by cases d <;> exact h) (by kernel_rfl) ?_ (fun K hK => ?_); rotate_left; (· (intro w'; go_simp; with_reducible rfl)); simp only [Act.put, List.setIfInBounds_toArray, List.set_cons_zero, List.set_cons_succ]; refine hK _ ?_; clear hK K
  refine nw_end (by kernel_rfl) ?_
  go_wp2_with fail
  rw [HT.out]
  obtain ⟨j, ej⟩ : ∃ j, t / 8 = j := ⟨_, rfl⟩
  obtain ⟨r, er⟩ : ∃ r, t % 8 = r := ⟨_, rfl⟩
  have hj : j < 256 := by omega
  have hr8 : r < 8 := by omega
  obtain ⟨x, hx⟩ : ∃ x, pb[j]? = some x := ⟨_, List.getElem?_eq_getElem (by have := PL.out; omega)⟩
  have hcx2 : w7.drew.cell? ⟨g, j, none⟩ = some (.int .u8 (x.toNat : Int)) := by
    show w7.cell? ⟨g, j, none⟩ = _
    rw [O7.out.cellAt j (by omega), bvl_get, hx]; rfl
  have hfx2 : w7.drew.frozen? ⟨g, j, none⟩ = false := O7.out.frozenAt j
  have g1 : (t : Int) / 8 = (j : Int) := by omega
  have g2 : (t : Int) % 8 = (r : Int) := by omega
  have g2' : (t : Int).tmod 8 = (r : Int) := by rw [Int.tmod_eq_emod_of_nonneg (by omega)]; omega
  have g3 : (j : Int) < 256 := by omega
  have g7 : ¬ (r : Int) < 0 := by omega
  have g8 : (0 : Int) ≤ (r : Int) := by omega
  have g5 : IntKind.i64.wrap (j : Int) = (j : Int) := by rw [IntKind.wrap_i64]; omega
  have g6 : (0 : Int) ≤ (j : Int) := by omega
  have HX := Lib.hid hx
  clear hx ej er
  have O8 := Lib.hid (show w7.drew.ownsRow w2.heap.size 5 1 (.slice (some ⟨g, 0, none⟩) 256 c3) 256 (bvl pb) from O7.out)
  have B8 := Lib.hid (show Below w.heap.size w w7.drew from below_drewN B7.out 1)
  go_wp2_with fail
  go_still_tail 13, (by kernel_rfl)
  change wpList _ _ _ _ _ w7.drew
  clear O7 B7
  generalize w7.drew = w8 at *
  obtain ⟨y, hy, hxy⟩ := turn_byte x r hr8
  have HY := Lib.hid hy
  have O9 := Lib.hid (own_set O8.out j y)
  have B9 := Lib.hid (B8.out.setCell (p := ⟨g, j, none⟩) (Nat.le_trans hz2 hg3) (.int .u8 (y.toNat : Int)))
  have hnot := rec_turned PO.out HX.out hxy
  have UV2 := Lib.hid (show ∀ v, uV (pb.set j y) v = #[.int .i64 0, .int .i64 0, .slice none 0 0, .int .u32 0, .int .i64 0] from fun v => by simp [uV, hnot])
  have UE2 := Lib.hid (show uE (pb.set j y) = 117 by simp [uE, hnot])
  clear hy hxy O8 B8 hnot
  go_wp2_with fail
  rw [HY.out]
  refine (logUnpack_any _ 256 c3 (pb.set j y) _ hc3 hc64 (BytesAt.of_own O9.out)).mono ?_
  rintro e w9 ⟨v9, rfl, hb9, _⟩
  rw [UV2.out, UE2.out]
  have B10 := Lib.hid ((below_all B9.out B9.out.size hb9).alloc (below_all B9.out B9.out.size hb9).size (.cells #[.int .i64 0, .int .i64 0, .slice none 0 0, .int .u32 0, .int .i64 0] 57))
  clear hb9 O9 B9 g1 g2 g2' g3 g5 g6 g7 g8 hcx2 hfx2
  go_wp2_with fail
  go_ret
  exact ⟨rfl, B10.out⟩
theorem logBack_walk (w : World) (k s : Int) (A : Option Addr) (n c sum : Nat) (st : Int) (es : List Ent) (hr : RowAt w A (n * 2) (ecells es)) (hs : sum < 4294967296) (hn : n * 16 ≤ reachBytes) (bit : Int) (wb : (Lit.int .i64 bit).wf = true) :
    Calls Try.prog 7 #[.agg #[.int .i64 k, .int .i64 s, .slice A n c, .int .u32 (sum : Int), .int .i64 st], .int .i64 bit] w fun e w' => e = .returned (.bool true) ∧ Below w.heap.size w w' := by
  have hn' : n ≤ 8796093021952 := by unfold reachBytes at hn; omega
  cases hm : rMay k s es sum st
  · exact logBack_no k s A n c sum st es bit w hn' hs hr hm
  · exact logBack_in k s A n c sum st es bit w hn' hs hr hm
end Go.Proofs.Ytafonjnanfekkaa.LLogBack

namespace Go.Proofs.Ytafonjnanfekkaa.logBack
open Go.ChangeShapes Go.WideShapes Go.ChangeAt Go.RowKit Go.Joins
set_option linter.unusedVariables false
set_option linter.unusedSimpArgs false

open Go.Proofs.Ytafonjnanfekkaa.LLogBack
theorem own : ownKnob Try.prog.godebug = none := by kernel_rfl
theorem laidOut : laidOutB Try.prog = true := by kernel_rfl

set_option maxRecDepth 100000 in
theorem lifted (os : Os) (started : os.Started) (H : Type) (enc : TypeId × Value → H) :
    ReturnsInHanded {} Try.checked os 7 .any (Rows.logBackSpec.pre6 enc Try.prog Try.f7 Rows.logBackRow.domain false) (Rows.logBackSpec.post enc Try.prog Try.f7 false true false false) := by
  refine returnsInHanded_of_change_sized (C := Try.checked) own started (by kernel_rfl) Try.func7
    (ChangeSpec.witness6 (enc := enc) (C := Try.checked) false ⟨#[], #[.agg #[.int .i64 0, .int .i64 0, .slice none 0 0, .int .u32 0, .int .i64 0], .int .i64 0], []⟩ 8 (by kernel_rfl) (by kernel_rfl) (by kernel_rfl) (by kernel_rfl)) ?_
  intro W base args ds gs before hval0 hW hcnd hsz0 _
  have hval : ∀ (j : Nat) t v, Try.f7.params[j]? = some t → args[j]? = some v → Value.okWide Try.prog W .any base t v := hval0
  have hW' := hW
  obtain ⟨p, q, hA0, hV, rfl, hfz, hnd⟩ := hW
  have hA : DataW.TrodAll enc Try.prog W 0 (fun _ => true) true Try.f7.params.toList args.toList ds p := hA0
  have hsz : (DataW.weightsEach Try.prog (Try.f7.params.toList ++ Rows.logBackSpec.plain.varTypes Try.prog) (ds ++ gs)).all (· ≤ reachBytes) = true := hsz0
  rw [Try.params7] at hA hval hsz
  obtain ⟨v0, vs0, d0, ds0, p0, q0, hargs, rfl, rfl, h0, r0⟩ := trodAll_cons hA
  obtain ⟨v1, vs1, d1, ds1, p1, q1, rfl, rfl, rfl, h1, r1⟩ := trodAll_cons r0
  obtain ⟨rfl, rfl, rfl⟩ := trodAll_nil r1
  obtain rfl : args = #[v0, v1] := by cases args; simp_all
  obtain ⟨rfl, rfl⟩ := trodVars_none hV
  have k0 := h0
  have lt0 : ∀ x ∈ p0, x.block < W.heap.size := by obtain ⟨m, hm⟩ := k0; exact DataW.trod_lt m _ _ _ hm
  obtain ⟨r0k, r0s, r0A, r0n, r0c, r0sum, r0st, r0es, rfl, ro0, hs0, hn0⟩ := open_rec (hval 0 53 v0 rfl rfl) h0 (fun x hx => by simpa using List.all_eq_true.1 hsz x (DataW.weights_mem_each (j := 0) rfl rfl x hx))
  obtain ⟨a1, rfl, rfl, rfl, w1⟩ := open_int Try.underlying3 (hval 1 3 v1 rfl rfl) h1
  clear hA0 hval0
  refine (logBack_walk W r0k r0s r0A r0n r0c r0sum r0st r0es ro0 hs0 hn0 a1 w1).mono fun e W' ⟨he, bel⟩ => ?_
  subst he
  exact ⟨_, rfl, _, _, _, [], _, [], hW', trodAll_mk1 (shut_bool Try.underlying4 _), (trodAll_cons_mk (Below.trod laidOut (by kernel_rfl) (of_decide_eq_true (by kernel_rfl)) k0 bel lt0) (trodAll_cons_mk (shut_int Try.underlying3 w1) trodAll_mk0)), rfl, bel.frame _, fun h => by cases h⟩

theorem over : Rows.logBackRow.holds Try.pinned (OpenSpec.ofChange Rows.logBackSpec) :=
  OpenClaim.holds_of_wide 7 Try.f7 rfl rfl rfl rfl rfl rfl rfl ⟨rfl, rfl, rfl, rfl, rfl⟩ rfl rfl rfl rfl rfl (by kernel_rfl) Try.func7 (by kernel_rfl)
    (of_decide_eq_true (by kernel_rfl)) (by unfold Func.isWrapper; first | (rw [if_pos (by decide +kernel)]; kernel_rfl) | (rw [if_neg (by decide +kernel)]; exact ⟨rfl, rfl⟩))
    (fun os started H enc _ => lifted os started H enc)

theorem proved : Rows.LogBackSaid := over
#print axioms proved
end Go.Proofs.Ytafonjnanfekkaa.logBack
