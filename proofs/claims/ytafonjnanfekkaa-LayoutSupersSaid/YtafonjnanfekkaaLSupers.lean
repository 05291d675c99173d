
/-
  THE WALK of LayoutSupers.
-/
import Derived.Test.YtafonjnanfekkaaLay3
import Derived.Test.YtafonjnanfekkaaLay5
import Derived.Test.YtafonjnanfekkaaLayP
import Derived.Test.YtafonjnanfekkaaI
import Derived.Laws.StructEq
namespace Go.Proofs.Ytafonjnanfekkaa.Lay
open Go.RowKit Go.Proofs.Ytafonjnanfekkaa.Wire
set_option maxHeartbeats 8000000
set_option maxRecDepth 100000
set_option linter.unusedVariables false
set_option linter.unusedSimpArgs false

theorem super_eq (x0 x1 x2 x3 x4 x5 x6 x7 : Int) (c : Bool) (w : World) : (binOp .eql 39 (.agg #[.int .i64 x0, .int .i64 x1, .int .i64 x2, .int .i64 x3, .int .i64 x4, .int .i64 x5, .int .i64 x6, .int .i64 x7, .bool c]) (.agg #[.int .i64 x0, .int .i64 x1, .int .i64 x2, .int .i64 x3, .int .i64 x4, .int .i64 x5, .int .i64 x6, .int .i64 x7, .bool c])).run Try.prog w = .ok (.bool true) w := by
  simp [go_sem]

theorem layoutSupers_run (B P I J fb fi o m : Int) (cl : Bool) (A : Option Addr) (len cap : Nat) (bs : List UInt8) (w : World) (hl : len ≤ cap) (hc : cap ≤ 140737488351232) (hb : BytesAt w A len bs) :
    Calls Try.prog 4 #[.agg #[.int .i64 B, .int .i64 P, .int .i64 I, .int .i64 J, .int .i64 fb, .int .i64 fi, .int .i64 o, .int .i64 m, .bool cl], .slice A len cap] w fun e w' => e = .returned (.bool true) ∧ Below w.heap.size w w' := by
  obtain ⟨x0, x1, x2, x3, x4, x5, x6, x7, xc, hv⟩ := usV_agg bs
  have heq := super_eq x0 x1 x2 x3 x4 x5 x6 x7 xc
  have HV := Lib.hid hv
  have hbs : (supB B P I J fb fi o m cl == supB B P I J fb fi o m cl) = true := by simp
  have hpl : (supB B P I J fb fi o m cl).length ≤ 4096 := by
    unfold supB
    split
    · rw [sealB_length]; exact packB_lenle _ _ _ (by omega)
    · simp
  generalize hpb : supB B P I J fb fi o m cl = pb at *
  have HPB := Lib.hid hpb
  obtain ⟨W, hW⟩ : ∃ W, w.alloc (.cells #[.int .i64 B, .int .i64 P, .int .i64 I, .int .i64 J, .int .i64 fb, .int .i64 fi, .int .i64 o, .int .i64 m, .bool cl] 39) = W := ⟨_, rfl⟩
  have b0 : Blk W w.heap.size 39 #[.int .i64 B, .int .i64 P, .int .i64 I, .int .i64 J, .int .i64 fb, .int .i64 fi, .int .i64 o, .int .i64 m, .bool cl] := by rw [← hW]; exact Blk.new w _ _
  have B0 := Lib.hid (show Below w.heap.size w W by rw [← hW]; exact (Below.refl w.heap.size w).alloc (Nat.le_refl _) _)
  have HBY := Lib.hid (show BytesAt W A len bs by rw [← hW]; exact hb.alloc _)
  have HW := Lib.hid hW
  have K0 := Lib.hid b0
  have HBS := Lib.hid hbs
  clear hW b0 hv hpb hbs hb
  go_enter Try.func4, Try.ntmps4
  go_wp2_with fail
  rw [HW.out]
  refine (awake_any _).mono ?_
  rintro e w1 ⟨rfl, hb1⟩
  have B1 := Lib.hid (below_all B0.out B0.out.size hb1)
  have s1 := K0.out.belowAll hb1
  have Y1 := Lib.hid (HBY.out.below hb1)
  obtain ⟨q0, q1, q2, q3, q4, q5, q6, q7, q8⟩ := sup_cells s1
  clear hb1
  go_wp2_with fail
  refine (packSuper_any B P I J fb fi o m cl _).mono ?_
  rintro e w2 ⟨v2, rfl, hb2, ho2⟩
  rw [HPB.out] at ho2
  have B2 := Lib.hid (below_all B1.out B1.out.size hb2)
  have s2 := s1.belowAll hb2
  have Y2 := Lib.hid (Y1.out.below hb2)
  obtain ⟨A2, c2, rfl, hr2, _, _, _, _⟩ := own_slice ho2
  have R2 := Lib.hid hr2
  clear hb2 ho2 hr2 q0 q1 q2 q3 q4 q5 q6 q7 q8 s1
  obtain ⟨q0, q1, q2, q3, q4, q5, q6, q7, q8⟩ := sup_cells s2
  go_wp2_with fail
  refine (packSuperR_any B P I J fb fi o m cl _).mono ?_
  rintro e w3 ⟨v3, rfl, hb3, ho3⟩
  rw [HPB.out] at ho3
  have B3 := Lib.hid (below_all B2.out B2.out.size hb3)
  have Y3 := Lib.hid (Y2.out.below hb3)
  have R2' := Lib.hid (R2.out.below hb3)
  obtain ⟨A3, c3, rfl, hr3, _, _, _, _⟩ := own_slice ho3
  have R3 := Lib.hid hr3
  clear hb3 ho3 hr3 q0 q1 q2 q3 q4 q5 q6 q7 q8 s2 R2
  generalize supE B P I J fb fi o m = pe at *
  go_wp2_with fail
  refine (unpackSuper_any A len cap bs _ hl (by omega) Y3.out).mono ?_
  rintro e w4 ⟨rfl, hb4⟩
  rw [HV.out]
  have B4 := Lib.hid (below_all B3.out B3.out.size hb4)
  have Y4 := Lib.hid (Y3.out.below hb4)
  have T2 := Lib.hid (R2'.out.below hb4)
  have T3 := Lib.hid (R3.out.below hb4)
  clear hb4 R2' R3
  obtain ⟨W4, hW4⟩ : ∃ W4, w4.alloc (.cells #[.int .i64 x0, .int .i64 x1, .int .i64 x2, .int .i64 x3, .int .i64 x4, .int .i64 x5, .int .i64 x6, .int .i64 x7, .bool xc] 39) = W4 := ⟨_, rfl⟩
  have s4 : Blk W4 w4.heap.size 39 #[.int .i64 x0, .int .i64 x1, .int .i64 x2, .int .i64 x3, .int .i64 x4, .int .i64 x5, .int .i64 x6, .int .i64 x7, .bool xc] := by rw [← hW4]; exact Blk.new w4 _ _
  have C4 := Lib.hid (show Below w.heap.size w W4 by rw [← hW4]; exact B4.out.alloc B4.out.size _)
  have Y4' := Lib.hid (show BytesAt W4 A len bs by rw [← hW4]; exact Y4.out.alloc _)
  have U2 := Lib.hid (show BytesAt W4 A2 pb.length pb by rw [← hW4]; exact T2.out.alloc _)
  have U3 := Lib.hid (show BytesAt W4 A3 pb.length pb by rw [← hW4]; exact T3.out.alloc _)
  have HW4 := Lib.hid hW4
  clear hW4
  go_wp2_with fail
  rw [HW4.out]
  refine (unpackSuperR_any A len cap bs _ hl (by omega) Y4'.out).mono ?_
  rintro e w5 ⟨rfl, hb5⟩
  rw [HV.out]
  have B5 := Lib.hid (below_all C4.out C4.out.size hb5)
  have s5 := s4.belowAll hb5
  have hz5 := hb5.size
  have hlt4 : w4.heap.size < W4.heap.size := s4.lt
  have V2 := Lib.hid (U2.out.below hb5)
  have V3 := Lib.hid (U3.out.below hb5)
  clear hb5 s4 U2 U3
  obtain ⟨q0, q1, q2, q3, q4, q5, q6, q7, q8⟩ := sup_cells (s5.alloc (.cells #[.int .i64 x0, .int .i64 x1, .int .i64 x2, .int .i64 x3, .int .i64 x4, .int .i64 x5, .int .i64 x6, .int .i64 x7, .bool xc] 39))
  obtain ⟨r0, r1, r2, r3, r4, r5, r6, r7, r8⟩ := sup_cells (Blk.new w5 39 #[.int .i64 x0, .int .i64 x1, .int .i64 x2, .int .i64 x3, .int .i64 x4, .int .i64 x5, .int .i64 x6, .int .i64 x7, .bool xc])
  have X2 := Lib.hid (V2.out.alloc (.cells #[.int .i64 x0, .int .i64 x1, .int .i64 x2, .int .i64 x3, .int .i64 x4, .int .i64 x5, .int .i64 x6, .int .i64 x7, .bool xc] 39))
  have X3 := Lib.hid (V3.out.alloc (.cells #[.int .i64 x0, .int .i64 x1, .int .i64 x2, .int .i64 x3, .int .i64 x4, .int .i64 x5, .int .i64 x6, .int .i64 x7, .bool xc] 39))
  have B6 := Lib.hid (B5.out.alloc B5.out.size (.cells #[.int .i64 x0, .int .i64 x1, .int .i64 x2, .int .i64 x3, .int .i64 x4, .int .i64 x5, .int .i64 x6, .int .i64 x7, .bool xc] 39))
  clear V2 V3 s5
  go_wp2_with fail
  refine (same_any A2 A3 pb.length pb.length c2 c3 pb pb _ (by omega) X2.out X3.out).mono ?_
  rintro e w7 ⟨rfl, nn, rfl⟩
  rw [HBS.out]
  go_wp2_with fail
  go_ret
  exact ⟨rfl, below_drewN B6.out nn⟩

theorem layoutSupers_walk (w : World) (B P I J fb fi o m : Int) (cl : Bool) (a1 : Option Addr) (len1 cap1 : Nat) (z1 : List Int) (w1 : IsRow .u8 w a1 len1 cap1 z1) (e1 : cap1 * 1 ≤ 140737488351232) :
    Calls Try.prog 4 #[.agg #[.int .i64 B, .int .i64 P, .int .i64 I, .int .i64 J, .int .i64 fb, .int .i64 fi, .int .i64 o, .int .i64 m, .bool cl], .slice a1 len1 cap1] w fun e w' => e = .returned (.bool true) ∧ Below w.heap.size w w' := by
  obtain ⟨bs, hb, hl, hA⟩ := row_bytes w1
  exact layoutSupers_run B P I J fb fi o m cl a1 len1 cap1 bs w hl (by omega) hb
end Go.Proofs.Ytafonjnanfekkaa.Lay
