
/-
  THE WALK of LayoutGroups.
-/
import Derived.Test.YtafonjnanfekkaaLay9
import Derived.Test.YtafonjnanfekkaaI
namespace Go.Proofs.Ytafonjnanfekkaa.Lay
open Go.RowKit Go.Proofs.Ytafonjnanfekkaa.Wire
set_option maxHeartbeats 8000000
set_option maxRecDepth 100000
set_option linter.unusedVariables false
set_option linter.unusedSimpArgs false

theorem gB_small (gs : List Grp) : (gB gs).length ≤ 4096 := by
  unfold gB
  split
  · rw [sealB_length]; exact packB_lenle _ _ _ (by omega)
  · simp
theorem ugX_small (bs : List UInt8) (n : Int) : (ugX bs n).length ≤ 14 := by
  unfold ugX
  split
  · rename_i h
    simp only [ugOk, Bool.and_eq_true] at h
    have := rg_true h.1
    rw [ugs_length]; omega
  · simp

theorem layoutGroups_run (A0 : Option Addr) (n0 c0 : Nat) (gs : List Grp) (A : Option Addr) (len cap : Nat) (bs : List UInt8) (n : Int) (w : World) (hn0 : n0 ≤ 9223372036854775807) (hr : RowAt w A0 (n0 * 3) (gcells gs)) (hl : len ≤ cap) (hc : cap ≤ 140737488351232) (hb : BytesAt w A len bs) :
    Calls Try.prog 5 #[.slice A0 n0 c0, .slice A len cap, .int .i64 n] w fun e w' => e = .returned (.bool true) ∧ Below w.heap.size w w' := by
  have hpl := gB_small gs
  have hul := ugX_small bs n
  obtain ⟨pb, hpb⟩ : ∃ pb, gB gs = pb := ⟨_, rfl⟩
  obtain ⟨ux, hux⟩ : ∃ ux, ugX bs n = ux := ⟨_, rfl⟩
  rw [hpb] at hpl
  rw [hux] at hul
  have HPB := Lib.hid hpb
  have HUX := Lib.hid hux
  have HBS := Lib.hid (show (pb == pb) = true by simp)
  have HR := Lib.hid hr
  have HB := Lib.hid hb
  clear hpb hux hr hb
  go_enter Try.func5, Try.ntmps5
  go_wp2_with fail
  refine (awake_any _).mono ?_
  rintro e w1 ⟨rfl, hb1⟩
  have B1 := Lib.hid hb1
  clear hb1
  go_wp2_with fail
  refine (packGroups_any A0 n0 c0 gs _ hn0 (HR.out.below B1.out)).mono ?_
  rintro e w2 ⟨v2, rfl, hb2, ho2⟩
  rw [HPB.out] at ho2
  have B2 := Lib.hid (below_all B1.out B1.out.size hb2)
  obtain ⟨A2, c2, rfl, hr2, _, _, _, _⟩ := own_slice ho2
  have R2 := Lib.hid hr2
  clear hb2 ho2 hr2
  go_wp2_with fail
  refine (packGroupsR_any A0 n0 c0 gs _ hn0 (HR.out.below B2.out)).mono ?_
  rintro e w3 ⟨v3, rfl, hb3, ho3⟩
  rw [HPB.out] at ho3
  have B3 := Lib.hid (below_all B2.out B2.out.size hb3)
  have S2 := Lib.hid (R2.out.below hb3)
  obtain ⟨A3, c3, rfl, hr3, _, _, _, _⟩ := own_slice ho3
  have S3 := Lib.hid hr3
  clear hb3 ho3 hr3 R2
  go_wp2_with fail
  refine (unpackGroups_any A len cap n bs _ hl (by omega) (HB.out.below B3.out)).mono ?_
  rintro e w4 ⟨v4, rfl, hb4, ho4⟩
  rw [HUX.out] at ho4
  have B4 := Lib.hid (below_all B3.out B3.out.size hb4)
  have T2 := Lib.hid (S2.out.below hb4)
  have T3 := Lib.hid (S3.out.below hb4)
  obtain ⟨A4, c4, rfl, hr4, _, _, _, _⟩ := own_sliceN ho4
  have T4 := Lib.hid hr4
  clear hb4 ho4 hr4 S2 S3
  go_wp2_with fail
  refine (unpackGroupsR_any A len cap n bs _ hl (by omega) (HB.out.below B4.out)).mono ?_
  rintro e w5 ⟨v5, rfl, hb5, ho5⟩
  rw [HUX.out] at ho5
  have B5 := Lib.hid (below_all B4.out B4.out.size hb5)
  have U2 := Lib.hid (T2.out.below hb5)
  have U3 := Lib.hid (T3.out.below hb5)
  have U4 := Lib.hid (T4.out.below hb5)
  obtain ⟨A5, c5, rfl, hr5, _, _, _, _⟩ := own_sliceN ho5
  have U5 := Lib.hid hr5
  clear hb5 ho5 hr5 T2 T3 T4
  go_wp2_with fail
  refine (same_any A2 A3 pb.length pb.length c2 c3 pb pb _ (by omega) U2.out U3.out).mono ?_
  rintro e w7 ⟨rfl, nn, rfl⟩
  rw [HBS.out]
  go_wp2_with fail
  refine (sameGroups_any A4 A5 ux.length c4 c5 ux _ (by omega) (U4.out.drewN nn) (U5.out.drewN nn)).mono ?_
  rintro e w8 ⟨rfl, mm, rfl⟩
  go_wp2_with fail
  go_ret
  exact ⟨rfl, below_drewN B5.out _⟩

theorem layoutGroups_walk (w : World) (A0 : Option Addr) (len0 cap0 : Nat) (gs : List Grp) (r0 : RowAt w A0 (len0 * 3) (gcells gs)) (l0 : len0 ≤ cap0) (m0 : cap0 ≤ maxLen) (a1 : Option Addr) (len1 cap1 : Nat) (z1 : List Int) (w1 : IsRow .u8 w a1 len1 cap1 z1) (e1 : cap1 * 1 ≤ 140737488351232) (a2 : Int) (w2 : (Lit.int .i64 a2).wf = true) :
    Calls Try.prog 5 #[.slice A0 len0 cap0, .slice a1 len1 cap1, .int .i64 a2] w fun e w' => e = .returned (.bool true) ∧ Below w.heap.size w w' := by
  obtain ⟨bs, hb, hl, hA⟩ := row_bytes w1
  exact layoutGroups_run A0 len0 cap0 gs a1 len1 cap1 bs a2 w (by unfold maxLen at m0; omega) r0 hl (by omega) hb
end Go.Proofs.Ytafonjnanfekkaa.Lay
