
/-
  THE ROW of hayricklaw07.LogRecords: for every input the law returns true, and its arguments read as they did. No condition.
-/
import Derived.Test.YtafonjnanfekkaaK10
import Derived.Test.YtafonjnanfekkaaK11
import Derived.Test.YtafonjnanfekkaaK3
import Derived.Test.YtafonjnanfekkaaRows
import Derived.ProofKit
import Derived.OpenShut
import Derived.ShutString
import Derived.ChangeOld
import Derived.SizedLaws
import Derived.Lib.SmallJoins
namespace Go.Proofs.Ytafonjnanfekkaa.LLogRecords
open Go.RowKit Go.Proofs.Ytafonjnanfekkaa.Wire Go.Proofs.Ytafonjnanfekkaa.Lay Go.Proofs.Ytafonjnanfekkaa.Log
set_option maxHeartbeats 8000000
set_option maxRecDepth 100000
set_option linter.unusedVariables false
set_option linter.unusedSimpArgs false

theorem uV_gen (bs : List UInt8) : ∃ (k s : Int) (sum : Nat) (st : Int), (uXs bs).length ≤ 61 ∧ ∀ (T : TypeId) (w : World) (base : Nat) (v : Value), w.ownsRow base T 2 v (uXs bs).length (ecells (uXs bs)) →
    ∃ A c, uV bs v = #[.int .i64 k, .int .i64 s, .slice A (uXs bs).length c, .int .u32 (sum : Int), .int .i64 st] ∧ RowAt w A ((uXs bs).length * 2) (ecells (uXs bs)) := by
  cases h : uOk bs
  · have hx : uXs bs = [] := by simp [uXs, h]
    refine ⟨0, 0, 0, 0, by rw [hx]; simp, fun T w base v ho => ⟨none, 0, ?_, ?_⟩⟩
    · rw [hx]; simp [uV, h]
    · rw [hx]; exact RowAt.nil_ _ _
  · have hx : uXs bs = uEs bs := by simp [uXs, h]
    refine ⟨uf bs 4 1, uf bs 5 4, uSum bs (uP bs), uSt bs (uP bs), by rw [hx, uEs_length]; exact uN_le bs, fun T w base v ho => ?_⟩
    obtain ⟨A, c, rfl, hr, _, _, _, _⟩ := own_sliceN ho
    exact ⟨A, c, by rw [uV, if_pos h], hr⟩
theorem logRecords_run (k s : Int) (A : Option Addr) (n c sum : Nat) (st : Int) (es : List Ent) (B : Option Addr) (m cap : Nat) (bs : List UInt8) (w : World) (hn : n ≤ 8796093021952) (hs : sum < 4294967296) (hr : RowAt w A (n * 2) (ecells es))
    (hmc : m ≤ cap) (hm : cap ≤ 140737488351232) (hb : BytesAt w B m bs) :
    Calls Try.prog 6 #[.agg #[.int .i64 k, .int .i64 s, .slice A n c, .int .u32 (sum : Int), .int .i64 st], .slice B m cap] w fun e w' => e = .returned (.bool true) ∧ Below w.heap.size w w' := by
  obtain ⟨W, hW⟩ : ∃ W, w.alloc (.cells #[.int .i64 k, .int .i64 s, .slice A n c, .int .u32 (sum : Int), .int .i64 st] 53) = W := ⟨_, rfl⟩
  obtain ⟨b0, hbel, hsz⟩ := boxed w _ _ W hW
  have HW := Lib.hid hW
  have B0 := Lib.hid hbel
  have K0 := Lib.hid b0
  have HB := Lib.hid hb
  have HR := Lib.hid (hr.below hbel)
  have HSM := Lib.hid hs
  obtain ⟨k', s', sum', st', hx61, hgen⟩ := uV_gen bs
  obtain ⟨xs, hxs⟩ : ∃ xs, uXs bs = xs := ⟨_, rfl⟩
  rw [hxs] at hx61 hgen
  have HXS := Lib.hid hxs
  clear hxs
  have HG := Lib.hid hgen
  obtain ⟨ee, hee⟩ : ∃ ee, rE k s es sum st = ee := ⟨_, rfl⟩
  obtain ⟨uu, huu⟩ : ∃ uu, uE bs = uu := ⟨_, rfl⟩
  obtain ⟨pb, hpb⟩ : ∃ pb, rB k s es sum st = pb := ⟨_, rfl⟩
  have HEE := Lib.hid hee
  have HUU := Lib.hid huu
  have HPB := Lib.hid hpb
  have HPL := Lib.hid (show pb.length ≤ 1000 by
    rw [← hpb]
    cases hmy : rMay k s es sum st
    · simp [rB, hmy]
    · rw [rB_len hmy hs]; omega)
  have q1 : (ee == ee) = true := by simp
  have q2 : (uu == uu) = true := by simp
  clear hW b0 hbel hr hs hb hgen hee huu hpb
  go_enter Try.func6, Try.ntmps6
  go_wp2_with fail
  rw [HW.out]
  refine (logAwake_true W).mono ?_
  rintro e w1 ⟨rfl, hb1⟩
  have B1 := Lib.hid (below_all B0.out B0.out.size hb1)
  have K1 := Lib.hid (K0.out.belowAll hb1)
  have HR1 := Lib.hid (HR.out.below hb1)
  have f0 := K1.out.cell 0
  have f1 := K1.out.cell 1
  have f2 := K1.out.cell 2
  have f3 := K1.out.cell 3
  have f4 := K1.out.cell 4
  clear hb1 HR
  go_wp2_with fail
  refine (mine_any k s A n c sum st es w1 hn HR1.out).mono ?_
  rintro e w2 ⟨v2, rfl, hb2, ho2⟩
  have B2 := Lib.hid (below_all B1.out B1.out.size hb2)
  have K2 := Lib.hid (K1.out.belowAll hb2)
  have HR2 := Lib.hid (HR1.out.below hb2)
  obtain ⟨A2, c2, rfl, hr2, _, _, _, _⟩ := own_sliceN ho2
  have HP := Lib.hid (logPack_any k s A2 n c2 sum st es w2 (by omega) HSM.out hr2)
  rw [HEE.out, HPB.out] at HP
  clear hb2 ho2 hr2 f0 f1 f2 f3 f4
  go_wp2_with fail
  refine HP.out.mono ?_
  rintro e w3 ⟨v3, rfl, hb3, ho3⟩
  have B3 := Lib.hid (below_all B2.out B2.out.size hb3)
  have K3 := Lib.hid (K2.out.belowAll hb3)
  have HR3 := Lib.hid (HR2.out.below hb3)
  obtain ⟨A3, c3, rfl, hy3, _, _, _, _⟩ := own_slice ho3
  have Y3 := Lib.hid hy3
  have HQ := Lib.hid (logPackR_any k s A n c sum st es w3 (by omega) HSM.out HR3.out)
  rw [HEE.out, HPB.out] at HQ
  have f0 := K3.out.cell 0
  have f1 := K3.out.cell 1
  have f2 := K3.out.cell 2
  have f3 := K3.out.cell 3
  have f4 := K3.out.cell 4
  clear hb3 ho3 hy3 HP K1 K2 HR1 HR2
  go_wp2_with fail
  refine HQ.out.mono ?_
  rintro e w4 ⟨v4, rfl, hb4, ho4⟩
  have B4 := Lib.hid (below_all B3.out B3.out.size hb4)
  have Y4 := Lib.hid (Y3.out.below hb4)
  obtain ⟨A4, c4, rfl, hy4, _, _, _, _⟩ := own_slice ho4
  have Z4 := Lib.hid hy4
  have HB4 := Lib.hid (HB.out.below B4.out)
  clear hb4 ho4 hy4 HQ f0 f1 f2 f3 f4 K3 HR3
  go_wp2_with fail
  refine (logUnpack_any B m cap bs w4 hmc (by omega) HB4.out).mono ?_
  rintro e w5 ⟨v5, rfl, hb5, ho5⟩
  rw [HXS.out] at ho5
  obtain ⟨A5, c5, e5, hr5⟩ := HG.out _ _ _ _ ho5
  rw [e5, HUU.out]
  have B5 := Lib.hid ((below_all B4.out B4.out.size hb5).alloc (below_all B4.out B4.out.size hb5).size (.cells #[.int .i64 k', .int .i64 s', .slice A5 xs.length c5, .int .u32 (sum' : Int), .int .i64 st'] 57))
  have R5 := Lib.hid (Blk.new w5 57 #[.int .i64 k', .int .i64 s', .slice A5 xs.length c5, .int .u32 (sum' : Int), .int .i64 st'])
  have ba := (Below.refl w5.heap.size w5).alloc (Nat.le_refl _) (.cells #[.int .i64 k', .int .i64 s', .slice A5 xs.length c5, .int .u32 (sum' : Int), .int .i64 st'] 57)
  have X5 := Lib.hid (hr5.below ba)
  have Y5 := Lib.hid ((Y4.out.below hb5).below ba)
  have Z5 := Lib.hid ((Z4.out.below hb5).below ba)
  obtain ⟨w6, hw6⟩ : ∃ w6, w5.alloc (.cells #[.int .i64 k', .int .i64 s', .slice A5 xs.length c5, .int .u32 (sum' : Int), .int .i64 st'] 57) = w6 := ⟨_, rfl⟩
  have HW6 := Lib.hid hw6
  rw [hw6] at B5 R5 X5 Y5 Z5
  have HB6 := Lib.hid (HB.out.below B5.out)
  clear hb5 ho5 hr5 e5 ba hw6 Y4 Z4 HB4
  go_wp2_with fail
  rw [HW6.out]
  refine (logUnpackR_any B m cap bs w6 hmc (by omega) HB6.out).mono ?_
  rintro e w7 ⟨v7, rfl, hb7, ho7⟩
  rw [HXS.out] at ho7
  obtain ⟨A7, c7, e7, hr7⟩ := HG.out _ _ _ _ ho7
  rw [e7, HUU.out]
  have ba := (Below.refl w7.heap.size w7).alloc (Nat.le_refl _) (.cells #[.int .i64 k', .int .i64 s', .slice A7 xs.length c7, .int .u32 (sum' : Int), .int .i64 st'] 53)
  obtain ⟨w8, hw8⟩ : ∃ w8, (w7.alloc (.cells #[.int .i64 k', .int .i64 s', .slice A7 xs.length c7, .int .u32 (sum' : Int), .int .i64 st'] 53)).drew = w8 := ⟨_, rfl⟩
  have HW8 := Lib.hid hw8
  have B8 := Lib.hid (show Below w.heap.size w w8 from hw8 ▸ ((below_all B5.out B5.out.size hb7).alloc (below_all B5.out B5.out.size hb7).size (.cells #[.int .i64 k', .int .i64 s', .slice A7 xs.length c7, .int .u32 (sum' : Int), .int .i64 st'] 53)).drew)
  have R8 := Lib.hid (show Blk w8 w5.heap.size 57 #[.int .i64 k', .int .i64 s', .slice A5 xs.length c5, .int .u32 (sum' : Int), .int .i64 st'] from hw8 ▸ ((R5.out.belowAll hb7).alloc (.cells #[.int .i64 k', .int .i64 s', .slice A7 xs.length c7, .int .u32 (sum' : Int), .int .i64 st'] 53)).drew)
  have S8 := Lib.hid (show Blk w8 w7.heap.size 53 #[.int .i64 k', .int .i64 s', .slice A7 xs.length c7, .int .u32 (sum' : Int), .int .i64 st'] from hw8 ▸ (Blk.new w7 53 #[.int .i64 k', .int .i64 s', .slice A7 xs.length c7, .int .u32 (sum' : Int), .int .i64 st']).drew)
  have X8 := Lib.hid (show RowAt w8 A5 (xs.length * 2) (ecells xs) from hw8 ▸ (X5.out.below hb7).below ba.drew)
  have T8 := Lib.hid (show RowAt w8 A7 (xs.length * 2) (ecells xs) from hw8 ▸ hr7.below ba.drew)
  have Y8 := Lib.hid (show BytesAt w8 A3 pb.length pb from hw8 ▸ (Y5.out.below hb7).below ba.drew)
  have Z8 := Lib.hid (show BytesAt w8 A4 pb.length pb from hw8 ▸ (Z5.out.below hb7).below ba.drew)
  clear hb7 ho7 hr7 e7 ba hw8 X5 Y5 Z5 R5
  have HSA := Lib.hid (same_any A3 A4 pb.length pb.length c3 c4 pb pb w8 (by have := HPL.out; omega) Y8.out Z8.out)
  rw [show (pb == pb) = true by simp] at HSA
  go_wp2_with fail
  refine region_need_at (v := w8) (fun w' => w'.cell? ⟨w5.heap.size, 0, none⟩ = some (.int .i64 k') ∧ w'.cell? ⟨w5.heap.size, 1, none⟩ = some (.int .i64 s') ∧ w'.cell? ⟨w5.heap.size, 2, none⟩ = some (.slice A5 xs.length c5) ∧ w'.cell? ⟨w5.heap.size, 3, none⟩ = some (.int .u32 (sum' : Int)) ∧ w'.cell? ⟨w5.heap.size, 4, none⟩ = some (.int .i64 st') ∧ w'.cell? ⟨w7.heap.size, 0, none⟩ = some (.int .i64 k') ∧ w'.cell? ⟨w7.heap.size, 1, none⟩ = some (.int .i64 s') ∧ w'.cell? ⟨w7.heap.size, 2, none⟩ = some (.slice A7 xs.length c7) ∧ w'.cell? ⟨w7.heap.size, 3, none⟩ = some (.int .u32 (sum' : Int)) ∧ w'.cell? ⟨w7.heap.size, 4, none⟩ = some (.int .i64 st')) (fun i => i == 17 || (i == 18 || i == 19)) HW8.out (by kernel_rfl) ?_
  refine nw_free (i := 0) (v := ?_) rfl (by kernel_rfl) (fun _ _ d _ _ h => by cases d <;> exact h) (by kernel_rfl) ?_ (fun K hK => ?_); rotate_left; (· (intro w'; go_simp; with_reducible rfl)); simp only [Act.put, List.setIfInBounds_toArray, List.set_cons_zero, List.set_cons_succ]; refine hK _ ?_; clear hK K
  refine nw_free (i := 1) (v := ?_) rfl (by kernel_rfl) (fun _ _ d _ _ h => by cases d <;> exact h) (by kernel_rfl) ?_ (fun K hK => ?_); rotate_left; (· (intro w'; go_simp; with_reducible rfl)); simp only [Act.put, List.setIfInBounds_toArray, List.set_cons_zero, List.set_cons_succ]; refine hK _ ?_; clear hK K
  refine nw_free (i := 2) (v := ?_) rfl (by kernel_rfl) (fun _ _ d _ _ h => by cases d <;> exact h) (by kernel_rfl) ?_ (fun K hK => ?_); rotate_left; (· (intro w'; go_simp; with_reducible rfl)); simp only [Act.put, List.setIfInBounds_toArray, List.set_cons_zero, List.set_cons_succ]; refine hK _ ?_; clear hK K
  refine nw_free (i := 3) (v := ?_) rfl (by kernel_rfl) (fun _ _ d _ _ h => by cases d <;> exact h) (by kernel_rfl) ?_ (fun K hK => ?_); rotate_left; (· (intro w'; go_simp; with_reducible rfl)); simp only [Act.put, List.setIfInBounds_toArray, List.set_cons_zero, List.set_cons_succ]; refine hK _ ?_; clear hK K
  refine nw_free (i := 4) (v := ?_) rfl (by kernel_rfl) (fun _ _ d _ _ h => by cases d <;> exact h) (by kernel_rfl) ?_ (fun K hK => ?_); rotate_left; (· (intro w'; go_simp; with_reducible rfl)); simp only [Act.put, List.setIfInBounds_toArray, List.set_cons_zero, List.set_cons_succ]; refine hK _ ?_; clear hK K
  refine nw_free (i := 5) (v := ?_) rfl (by kernel_rfl) (fun _ _ d _ _ h => by cases d <;> exact h) (by kernel_rfl) ?_ (fun K hK => ?_); rotate_left; (· (intro w'; go_simp; with_reducible rfl)); simp only [Act.put, List.setIfInBounds_toArray, List.set_cons_zero, List.set_cons_succ]; refine hK _ ?_; clear hK K
  refine nw_free (i := 6) (v := ?_) rfl (by kernel_rfl) (fun _ _ d _ _ h => by cases d <;> exact h) (by kernel_rfl) ?_ (fun K hK => ?_); rotate_left; (· (intro w'; go_simp; with_reducible rfl)); simp only [Act.put, List.setIfInBounds_toArray, List.set_cons_zero, List.set_cons_succ]; refine hK _ ?_; clear hK K
  refine nw_free (i := 7) (v := ?_) rfl (by kernel_rfl) (fun _ _ d _ _ h => by cases d <;> exact h) (by kernel_rfl) ?_ (fun K hK => ?_); rotate_left; (· (intro w'; go_simp; with_reducible rfl)); simp only [Act.put, List.setIfInBounds_toArray, List.set_cons_zero, List.set_cons_succ]; refine hK _ ?_; clear hK K
  refine nw_free (i := 8) (v := ?_) rfl (by kernel_rfl) (fun _ _ d _ _ h => by cases d <;> exact h) (by kernel_rfl) ?_ (fun K hK => ?_); rotate_left; (· (intro w'; go_simp; with_reducible rfl)); simp only [Act.put, List.setIfInBounds_toArray, List.set_cons_zero, List.set_cons_succ]; refine hK _ ?_; clear hK K
  refine nw_one (i := 9) (E := False) rfl (by kernel_rfl) (fun K hK => ?_) (by kernel_rfl)
  go_simp
  refine HSA.out.mono ?_
  rintro e w' ⟨rfl, nq, rfl⟩
  refine hK.out _ _ ((fun h => absurd h (by decide))) ?_
  clear hK K
  try simp only [Act.put, List.setIfInBounds_toArray, List.set_cons_zero, List.set_cons_succ]
  have R9 := Lib.hid (R8.out.drewN nq)
  have S9 := Lib.hid (S8.out.drewN nq)
  have hNS : (fun w' => w'.cell? ⟨w5.heap.size, 0, none⟩ = some (.int .i64 k') ∧ w'.cell? ⟨w5.heap.size, 1, none⟩ = some (.int .i64 s') ∧ w'.cell? ⟨w5.heap.size, 2, none⟩ = some (.slice A5 xs.length c5) ∧ w'.cell? ⟨w5.heap.size, 3, none⟩ = some (.int .u32 (sum' : Int)) ∧ w'.cell? ⟨w5.heap.size, 4, none⟩ = some (.int .i64 st') ∧ w'.cell? ⟨w7.heap.size, 0, none⟩ = some (.int .i64 k') ∧ w'.cell? ⟨w7.heap.size, 1, none⟩ = some (.int .i64 s') ∧ w'.cell? ⟨w7.heap.size, 2, none⟩ = some (.slice A7 xs.length c7) ∧ w'.cell? ⟨w7.heap.size, 3, none⟩ = some (.int .u32 (sum' : Int)) ∧ w'.cell? ⟨w7.heap.size, 4, none⟩ = some (.int .i64 st')) (w8.drewN nq) := ⟨R9.out.cell 0, R9.out.cell 1, R9.out.cell 2, R9.out.cell 3, R9.out.cell 4, S9.out.cell 0, S9.out.cell 1, S9.out.cell 2, S9.out.cell 3, S9.out.cell 4⟩
  refine nw_free (i := 10) (v := ?_) rfl (by kernel_rfl) (fun _ _ d _ _ h => by cases d <;> exact h) (by kernel_rfl) ?_ (fun K hK => ?_); rotate_left; (· (intro w'; go_simp; with_reducible rfl)); simp only [Act.put, List.setIfInBounds_toArray, List.set_cons_zero, List.set_cons_succ]; refine hK _ ?_; clear hK K
  refine nw_free (i := 11) (v := ?_) rfl (by kernel_rfl) (fun _ _ d _ _ h => by cases d <;> exact h) (by kernel_rfl) ?_ (fun K hK => ?_); rotate_left; (· (intro w'; go_simp; with_reducible rfl)); simp only [Act.put, List.setIfInBounds_toArray, List.set_cons_zero, List.set_cons_succ]; refine hK _ ?_; clear hK K
  refine nw_free (i := 12) (v := ?_) rfl (by kernel_rfl) (fun _ _ d _ _ h => by cases d <;> exact h) (by kernel_rfl) ?_ (fun K hK => ?_); rotate_left; (· (intro w'; go_simp; with_reducible rfl)); simp only [Act.put, List.setIfInBounds_toArray, List.set_cons_zero, List.set_cons_succ]; refine hK _ ?_; clear hK K
  refine nw_free (i := 13) (v := ?_) rfl (by kernel_rfl) (fun _ _ d _ _ h => by cases d <;> exact h) (by kernel_rfl) ?_ (fun K hK => ?_); rotate_left; (· (intro w'; go_simp; with_reducible rfl)); simp only [Act.put, List.setIfInBounds_toArray, List.set_cons_zero, List.set_cons_succ]; refine hK _ ?_; clear hK K
  refine nw_free (i := 14) (v := ?_) rfl (by kernel_rfl) (fun _ _ d _ _ h => by cases d <;> exact h) (by kernel_rfl) ?_ (fun K hK => ?_); rotate_left; (· (intro w'; go_simp; with_reducible rfl)); simp only [Act.put, List.setIfInBounds_toArray, List.set_cons_zero, List.set_cons_succ]; refine hK _ ?_; clear hK K
  refine nw_free (i := 15) (v := ?_) rfl (by kernel_rfl) (fun _ _ d _ _ h => by cases d <;> exact h) (by kernel_rfl) ?_ (fun K hK => ?_); rotate_left; (· (intro w'; go_simp; with_reducible rfl)); simp only [Act.put, List.setIfInBounds_toArray, List.set_cons_zero, List.set_cons_succ]; refine hK _ ?_; clear hK K
  refine nw_free (i := 16) (v := ?_) rfl (by kernel_rfl) (fun _ _ d _ _ h => by cases d <;> exact h) (by kernel_rfl) ?_ (fun K hK => ?_); rotate_left; (· (intro w'; go_simp; with_reducible rfl)); simp only [Act.put, List.setIfInBounds_toArray, List.set_cons_zero, List.set_cons_succ]; refine hK _ ?_; clear hK K
  refine nw_take (i := 17) (v := ?_) rfl (by kernel_rfl) (by kernel_rfl) (fun _ _ d _ _ h => by cases d <;> exact h) (by exact hNS) (by kernel_rfl) ?_ (fun K hK => ?_); rotate_left; (· (intro w' hSw; (try dsimp only at hSw); go_simp; with_reducible rfl)); simp only [Act.put, List.setIfInBounds_toArray, List.set_cons_zero, List.set_cons_succ]; refine hK _ ?_; clear hK K
  refine nw_take (i := 19) (v := ?_) rfl (by kernel_rfl) (by kernel_rfl) (fun _ _ d _ _ h => by cases d <;> exact h) (by exact hNS) (by kernel_rfl) ?_ (fun K hK => ?_); rotate_left; (· (intro w' hSw; (try dsimp only at hSw); go_simp; with_reducible rfl)); simp only [Act.put, List.setIfInBounds_toArray, List.set_cons_zero, List.set_cons_succ]; refine hK _ ?_; clear hK K
  clear hNS
  have HT := Lib.hid (theirs_any k' s' A5 xs.length c5 sum' st' xs (w8.drewN nq) (by omega) X8.out)
  refine nw_one (i := 18) (E := False) rfl (by kernel_rfl) (fun K hK => ?_) (by kernel_rfl)
  go_simp
  refine HT.out.mono ?_
  rintro e w10 ⟨v10, rfl, hb10, ho10⟩
  have B10 := Lib.hid (below_all (below_drewN B8.out nq) B8.out.size hb10)
  have R10 := R9.out.belowAll hb10
  have S10 := S9.out.belowAll hb10
  obtain ⟨A10, c10, rfl, hr10, _, _, _, _⟩ := own_sliceN ho10
  have HS := Lib.hid (recSame_any k' s' A10 A7 xs.length c10 c7 sum' st' xs w10 (by omega) hr10 (show RowAt w10 A7 (xs.length * 2) (ecells xs) from T8.out.below (show Below w8.heap.size w8 w10 from ⟨hb10.os, hb10.tape, hb10.output, hb10.size, hb10.block⟩)))
  have SK := Lib.hid (show (fun w' => w'.cell? ⟨w5.heap.size, 0, none⟩ = some (.int .i64 k') ∧ w'.cell? ⟨w5.heap.size, 1, none⟩ = some (.int .i64 s') ∧ w'.cell? ⟨w5.heap.size, 2, none⟩ = some (.slice A5 xs.length c5) ∧ w'.cell? ⟨w5.heap.size, 3, none⟩ = some (.int .u32 (sum' : Int)) ∧ w'.cell? ⟨w5.heap.size, 4, none⟩ = some (.int .i64 st') ∧ w'.cell? ⟨w7.heap.size, 0, none⟩ = some (.int .i64 k') ∧ w'.cell? ⟨w7.heap.size, 1, none⟩ = some (.int .i64 s') ∧ w'.cell? ⟨w7.heap.size, 2, none⟩ = some (.slice A7 xs.length c7) ∧ w'.cell? ⟨w7.heap.size, 3, none⟩ = some (.int .u32 (sum' : Int)) ∧ w'.cell? ⟨w7.heap.size, 4, none⟩ = some (.int .i64 st')) w10 from ⟨R10.cell 0, R10.cell 1, R10.cell 2, R10.cell 3, R10.cell 4, S10.cell 0, S10.cell 1, S10.cell 2, S10.cell 3, S10.cell 4⟩)
  clear hb10 ho10 hr10 R10 S10 HT
  refine hK.out _ _ (fun _ => SK.out) ?_
  clear hK K
  try simp only [Act.put, List.setIfInBounds_toArray, List.set_cons_zero, List.set_cons_succ]
  refine nw_one (i := 20) (E := False) rfl (by kernel_rfl) (fun K hK => ?_) (by kernel_rfl)
  go_simp
  refine HS.out.mono ?_
  rintro e w11 ⟨rfl, hb11⟩
  have B11 := Lib.hid (below_all B10.out B10.out.size hb11)
  clear hb11
  refine hK.out _ _ ((fun h => absurd h (by decide))) ?_
  clear hK K
  try simp only [Act.put, List.setIfInBounds_toArray, List.set_cons_zero, List.set_cons_succ]
  refine nw_free (i := 21) (v := ?_) rfl (by kernel_rfl) (fun _ _ d _ _ h => by cases d <;> exact h) (by kernel_rfl) ?_ (fun K hK => ?_); rotate_left; (· (intro w'; go_simp; with_reducible rfl)); simp only [Act.put, List.setIfInBounds_toArray, List.set_cons_zero, List.set_cons_succ]; refine hK _ ?_; clear hK K
  refine nw_free (i := 22) (v := ?_) rfl (by kernel_rfl) (fun _ _ d _ _ h => by cases d <;> exact h) (by kernel_rfl) ?_ (fun K hK => ?_); rotate_left; (· (intro w'; go_simp; with_reducible rfl)); simp only [Act.put, List.setIfInBounds_toArray, List.set_cons_zero, List.set_cons_succ]; refine hK _ ?_; clear hK K
  refine nw_end (by kernel_rfl) ?_
  go_wp2
  go_ret
  exact ⟨rfl, B11.out⟩
theorem logRecords_walk (w : World) (k s : Int) (A : Option Addr) (n c sum : Nat) (st : Int) (es : List Ent) (hr : RowAt w A (n * 2) (ecells es)) (hs : sum < 4294967296) (hn : n * 16 ≤ reachBytes) (a1 : Option Addr) (len1 cap1 : Nat) (z1 : List Int) (w1 : IsRow .u8 w a1 len1 cap1 z1) (e1 : cap1 * 1 ≤ 140737488351232) :
    Calls Try.prog 6 #[.agg #[.int .i64 k, .int .i64 s, .slice A n c, .int .u32 (sum : Int), .int .i64 st], .slice a1 len1 cap1] w fun e w' => e = .returned (.bool true) ∧ Below w.heap.size w w' := by
  have hn' : n ≤ 8796093021952 := by unfold reachBytes at hn; omega
  obtain ⟨bs, hb, hl, hA⟩ := row_bytes w1
  exact logRecords_run k s A n c sum st es a1 len1 cap1 bs w hn' hs hr hl (by omega) hb
end Go.Proofs.Ytafonjnanfekkaa.LLogRecords

namespace Go.Proofs.Ytafonjnanfekkaa.logRecords
open Go.ChangeShapes Go.WideShapes Go.ChangeAt Go.RowKit Go.Joins
set_option linter.unusedVariables false
set_option linter.unusedSimpArgs false

open Go.Proofs.Ytafonjnanfekkaa.LLogRecords
theorem own : ownKnob Try.prog.godebug = none := by kernel_rfl
theorem laidOut : laidOutB Try.prog = true := by kernel_rfl

set_option maxRecDepth 100000 in
theorem lifted (os : Os) (started : os.Started) (H : Type) (enc : TypeId × Value → H) :
    ReturnsInHanded {} Try.checked os 6 .any (Rows.logRecordsSpec.pre6 enc Try.prog Try.f6 Rows.logRecordsRow.domain false) (Rows.logRecordsSpec.post enc Try.prog Try.f6 false true false false) := by
  refine returnsInHanded_of_change_sized (C := Try.checked) own started (by kernel_rfl) Try.func6
    (ChangeSpec.witness6 (enc := enc) (C := Try.checked) false ⟨#[], #[.agg #[.int .i64 0, .int .i64 0, .slice none 0 0, .int .u32 0, .int .i64 0], .slice none 0 0], []⟩ 8 (by kernel_rfl) (by kernel_rfl) (by kernel_rfl) (by kernel_rfl)) ?_
  intro W base args ds gs before hval0 hW hcnd hsz0 _
  have hval : ∀ (j : Nat) t v, Try.f6.params[j]? = some t → args[j]? = some v → Value.okWide Try.prog W .any base t v := hval0
  have hW' := hW
  obtain ⟨p, q, hA0, hV, rfl, hfz, hnd⟩ := hW
  have hA : DataW.TrodAll enc Try.prog W 0 (fun _ => true) true Try.f6.params.toList args.toList ds p := hA0
  have hsz : (DataW.weightsEach Try.prog (Try.f6.params.toList ++ Rows.logRecordsSpec.plain.varTypes Try.prog) (ds ++ gs)).all (· ≤ reachBytes) = true := hsz0
  rw [Try.params6] at hA hval hsz
  obtain ⟨v0, vs0, d0, ds0, p0, q0, hargs, rfl, rfl, h0, r0⟩ := trodAll_cons hA
  obtain ⟨v1, vs1, d1, ds1, p1, q1, rfl, rfl, rfl, h1, r1⟩ := trodAll_cons r0
  obtain ⟨rfl, rfl, rfl⟩ := trodAll_nil r1
  obtain rfl : args = #[v0, v1] := by cases args; simp_all
  obtain ⟨rfl, rfl⟩ := trodVars_none hV
  have k0 := h0
  have lt0 : ∀ x ∈ p0, x.block < W.heap.size := by obtain ⟨m, hm⟩ := k0; exact DataW.trod_lt m _ _ _ hm
  obtain ⟨r0k, r0s, r0A, r0n, r0c, r0sum, r0st, r0es, rfl, ro0, hs0, hn0⟩ := open_rec (hval 0 53 v0 rfl rfl) h0 (fun x hx => by simpa using List.all_eq_true.1 hsz x (DataW.weights_mem_each (j := 0) rfl rfl x hx))
  obtain ⟨a1, len1, cap1, rfl⟩ := okWide_slice Try.underlying26 (hval 1 26 v1 rfl rfl)
  have k1 := h1
  have lt1 : ∀ x ∈ p1, x.block < W.heap.size := by obtain ⟨m, hm⟩ := k1; exact DataW.trod_lt m _ _ _ hm
  obtain ⟨z1, w1, e1⟩ : ∃ zs, IsRow .u8 W a1 len1 cap1 zs ∧ cap1 * 1 ≤ 140737488351232 := by
    obtain ⟨fuel, hf⟩ := h1
    rcases open_ints Try.underlying26 Try.underlying5 (by kernel_rfl) hf with ⟨hcs, _⟩ | ⟨x, l, c, zs, hcs, _, hl, hm, hz, hx, hcell, hwz⟩
    · simp [Value.cells] at hcs
      obtain ⟨rfl, rfl, rfl⟩ := hcs
      exact ⟨[], .inl ⟨rfl, rfl, rfl, rfl⟩, by omega⟩
    · simp [Value.cells] at hcs
      obtain ⟨rfl, rfl, rfl⟩ := hcs
      refine ⟨zs, .inr ⟨_, rfl, hl, hm, by simpa using hz, hcell, hwz⟩, ?_⟩
      simp only [Prod.mk.injEq] at hx
      rw [hx.1] at hsz
      have := sized_slice hsz (j := 1) (t := 26) (e := 5) rfl rfl Try.underlying26
      rw [show Try.prog.bytesOf 5 = 1 from by kernel_rfl] at this
      simp [lits, List.length_map, List.length_take, List.length_drop, reachBytes] at this
      simp at hz
      omega
  clear hA0 hval0
  refine (logRecords_walk W r0k r0s r0A r0n r0c r0sum r0st r0es ro0 hs0 hn0 a1 len1 cap1 z1 w1 e1).mono fun e W' ⟨he, bel⟩ => ?_
  subst he
  exact ⟨_, rfl, _, _, _, [], _, [], hW', trodAll_mk1 (shut_bool Try.underlying4 _), (trodAll_cons_mk (Below.trod laidOut (by kernel_rfl) (of_decide_eq_true (by kernel_rfl)) k0 bel lt0) (trodAll_cons_mk (Below.trod laidOut (by kernel_rfl) (of_decide_eq_true (by kernel_rfl)) k1 bel lt1) trodAll_mk0)), rfl, bel.frame _, fun h => by cases h⟩

theorem over : Rows.logRecordsRow.holds Try.pinned (OpenSpec.ofChange Rows.logRecordsSpec) :=
  OpenClaim.holds_of_wide 6 Try.f6 rfl rfl rfl rfl rfl rfl rfl ⟨rfl, rfl, rfl, rfl, rfl⟩ rfl rfl rfl rfl rfl (by kernel_rfl) Try.func6 (by kernel_rfl)
    (of_decide_eq_true (by kernel_rfl)) (by unfold Func.isWrapper; first | (rw [if_pos (by decide +kernel)]; kernel_rfl) | (rw [if_neg (by decide +kernel)]; exact ⟨rfl, rfl⟩))
    (fun os started H enc _ => lifted os started H enc)

theorem proved : Rows.LogRecordsSaid := over
#print axioms proved
end Go.Proofs.Ytafonjnanfekkaa.logRecords
