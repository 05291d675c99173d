
/-
  THE WALK of layer 7's law: awake.
-/
import Derived.Test.YtafonjnanfekkaaK8
import Derived.Test.YtafonjnanfekkaaK7
namespace Go.Proofs.Ytafonjnanfekkaa.Log
open Go.RowKit Go.Proofs.Ytafonjnanfekkaa.Wire Go.Proofs.Ytafonjnanfekkaa.Lay
set_option maxHeartbeats 16000000
set_option maxRecDepth 100000
set_option linter.unusedVariables false
set_option linter.unusedSimpArgs false

theorem ex_esc : escIs [73, 82, 89, 72, 7] = true := by decide +kernel
theorem ex_escB : escB [73, 82, 89, 72, 7] = [0, 0, 0, 0, 7] := by decide +kernel
theorem ex_zero : uE (List.replicate 256 0) = 117 := by decide +kernel
theorem ex_bad : rE 2 1 [(0, false)] 0 0 = 22 := by decide +kernel
theorem ex_head : rE 4 9 [] 0 4 = 0 := by decide +kernel
theorem ex_ok : uOk (rB 4 9 [] 0 4) = true := by decide +kernel
theorem ex_k : uf (rB 4 9 [] 0 4) 4 1 = 4 := by decide +kernel
theorem ex_s : uf (rB 4 9 [] 0 4) 5 4 = 9 := by decide +kernel
theorem ex_st : uSt (rB 4 9 [] 0 4) (uP (rB 4 9 [] 0 4)) = 4 := by decide +kernel
theorem ex_n0 : need 0 0 = 1 := by decide +kernel
theorem ex_n1 : need 48 61 = 52 := by decide +kernel
theorem ex_n2 : need 49 0 = 52 := by decide +kernel
theorem ex_zeroV (v : Value) : uV (List.replicate 256 0) v = #[.int .i64 0, .int .i64 0, .slice none 0 0, .int .u32 0, .int .i64 0] := by
  have h : uOk (List.replicate 256 0) = false := by decide +kernel
  simp only [uV, h]; rfl
theorem ex_headV (v : Value) : uV (rB 4 9 [] 0 4) v = #[.int .i64 4, .int .i64 9, v, .int .u32 0, .int .i64 4] := by
  have h : uSum (rB 4 9 [] 0 4) (uP (rB 4 9 [] 0 4)) = 0 := by decide +kernel
  rw [uV, if_pos ex_ok, ex_k, ex_s, ex_st, h]; rfl
theorem ex_headE : uE (rB 4 9 [] 0 4) = 0 := by rw [uE, if_pos ex_ok]
theorem make_256 (w : World) : (Instr.makeSlice 26 (.int .i64 256) (.int .i64 256)).run Try.prog w = .ok (.slice (some ⟨w.heap.size, 0, none⟩) 256 256) (w.alloc (.cells (bvl (List.replicate 256 0)).toArray 5)) :=
  make_bytes 256 (by omega) w
attribute [local irreducible] rB rE uE uV uf need escB escIs uSt uP
theorem logAwake_true (w : World) : Calls Try.prog 32 #[] w fun e w' => e = .returned (.bool true) ∧ Below w.heap.size w w' := by
  have hmk := make_256
  obtain ⟨Z, hZ⟩ : ∃ Z : List UInt8, List.replicate 256 0 = Z := ⟨_, rfl⟩
  have hZl : Z.length = 256 := by rw [← hZ]; exact List.length_replicate
  have hz1 := ex_zero
  have hz2 := ex_zeroV
  rw [hZ] at hmk hz1 hz2
  have HZ1 := Lib.hid hz1
  have HZ2 := Lib.hid hz2
  have HZL := Lib.hid hZl
  clear hz1 hz2 hZ hZl
  go_enter Try.func32, Try.ntmps32
  go_wp2_with fail
  refine (escape_any (some ⟨w.heap.size, 0, none⟩) 5 5 [73, 82, 89, 72, 7] _ (by omega) (by omega) (by omega) (fun e => by cases e) (lit_bytes w [73, 82, 89, 72, 7] 5 rfl (by unfold maxLen; omega))).mono ?_
  rintro e w1 ⟨v1, rfl, hb1, ho1⟩
  rw [ex_escB] at ho1
  rw [ex_esc]
  have B1 := Lib.hid (below_of_new hb1)
  have O1 := Lib.hid ho1
  clear hb1 ho1
  go_wp2_with fail
  refine (logUnpack_any (some ⟨w1.heap.size, 0, none⟩) 256 256 Z _ (by omega) (by omega) (lit_bytes w1 Z 256 HZL.out (by unfold maxLen; omega))).mono ?_
  rintro e w2 ⟨v2, rfl, hb2, _⟩
  rw [HZ1.out, HZ2.out]
  have B2 := Lib.hid (below_all B1.out B1.out.size (below_of_new hb2))
  have O2 := Lib.hid (own_belowN (O1.out.alloc _) hb2)
  clear hb2 O1 B1 hmk
  have B2a := Lib.hid (B2.out.alloc B2.out.size (.cells #[.int .i64 0, .int .i64 0, .slice none 0 0, .int .u32 0, .int .i64 0] 57))
  have O2a := Lib.hid (O2.out.alloc (.cells #[.int .i64 0, .int .i64 0, .slice none 0 0, .int .u32 0, .int .i64 0] 57))
  go_wp2_with fail
  have L2 := Lib.hid (lit_rowN (w2.alloc (.cells #[.int .i64 0, .int .i64 0, .slice none 0 0, .int .u32 0, .int .i64 0] 57)) 111 (ecells [(0, false)]) 2 (w2.heap.size + 1) rfl (by simp))
  have B2b := Lib.hid (B2a.out.alloc B2a.out.size (.cells (ecells [(0, false)]).toArray 111))
  have O2b := Lib.hid (O2a.out.alloc (.cells (ecells [(0, false)]).toArray 111))
  refine (logPack_any 2 1 (some ⟨w2.heap.size + 1, 0, none⟩) 1 1 0 0 [(0, false)] _ (by omega) (by omega) L2.out).mono ?_
  rintro e w3 ⟨v3, rfl, hb3, _⟩
  rw [ex_bad]
  have B3 := Lib.hid (below_all B2b.out B2b.out.size hb3)
  have O3 := Lib.hid (own_belowN O2b.out hb3)
  clear hb3 O2 O2a O2b B2 B2a B2b L2
  go_wp2_with fail
  refine (logPack_any 4 9 none 0 0 0 4 [] _ (by omega) (by omega) (RowAt.nil_ _ _)).mono ?_
  rintro e w4 ⟨v4, rfl, hb4, ho4⟩
  rw [ex_head]
  have B4 := Lib.hid (below_all B3.out B3.out.size hb4)
  have O4 := Lib.hid (own_belowN O3.out hb4)
  obtain ⟨A4, c4, rfl, hy4, h4l, h4c, _, _⟩ := own_slice ho4
  have Y4 := Lib.hid hy4
  clear hb4 O3 B3 ho4 hy4
  go_wp2_with fail
  refine (logUnpack_any A4 _ c4 (rB 4 9 [] 0 4) _ h4l (by unfold maxLen at h4c; omega) Y4.out).mono ?_
  rintro e w5 ⟨v5, rfl, hb5, ho5⟩
  obtain ⟨A5, c5, rfl, _, _, _, _, _⟩ := own_sliceN ho5
  rw [ex_headV, ex_headE]
  have B5 := Lib.hid (below_all B4.out B4.out.size hb5)
  have O5 := Lib.hid (own_belowN O4.out hb5)
  clear hb5 O4 B4 ho5 Y4
  have B6 := Lib.hid (B5.out.alloc B5.out.size (.cells #[.int .i64 4, .int .i64 9, .slice A5 (uXs (rB 4 9 [] 0 4)).length c5, .int .u32 0, .int .i64 4] 57))
  have O6 := Lib.hid (O5.out.alloc (.cells #[.int .i64 4, .int .i64 9, .slice A5 (uXs (rB 4 9 [] 0 4)).length c5, .int .u32 0, .int .i64 4] 57))
  obtain ⟨w6, hw6⟩ : ∃ w6, w5.alloc (.cells #[.int .i64 4, .int .i64 9, .slice A5 (uXs (rB 4 9 [] 0 4)).length c5, .int .u32 0, .int .i64 4] 57) = w6 := ⟨_, rfl⟩
  have R6 := Lib.hid (hw6 ▸ Blk.new w5 57 #[.int .i64 4, .int .i64 9, .slice A5 (uXs (rB 4 9 [] 0 4)).length c5, .int .u32 0, .int .i64 4])
  have HW6 := Lib.hid hw6
  rw [hw6] at B6 O6
  clear hw6
  have hN0 := need_any 0 0 w6 (by omega) (by omega)
  have hN1 := need_any 48 61 w6 (by omega) (by omega)
  have hN2 := need_any 49 0 w6 (by omega) (by omega)
  rw [ex_n0] at hN0
  rw [ex_n1] at hN1
  rw [ex_n2] at hN2
  have HN0 := Lib.hid hN0
  have HN1 := Lib.hid hN1
  have HN2 := Lib.hid hN2
  clear hN0 hN1 hN2
  go_wp2_with fail
  rw [HW6.out]
  refine HN0.out.mono ?_
  rintro e w' ⟨rfl, rfl⟩
  go_wp2_with fail
  refine HN1.out.mono ?_
  rintro e w' ⟨rfl, rfl⟩
  go_wp2_with fail
  refine HN2.out.mono ?_
  rintro e w' ⟨rfl, rfl⟩
  have R7 := R6.out.alloc (.cells (bvl [0, 0, 0, 0, 7]).toArray 5)
  have f0 := R7.cell 0
  have f1 := R7.cell 1
  have f4 := R7.cell 4
  have HL := Lib.hid (lit_bytes w6 [0, 0, 0, 0, 7] 5 rfl (by unfold maxLen; omega))
  have B7 := Lib.hid (B6.out.alloc B6.out.size (.cells (bvl [0, 0, 0, 0, 7]).toArray 5))
  have O7 := O6.out.alloc (.cells (bvl [0, 0, 0, 0, 7]).toArray 5)
  obtain ⟨A7, c7, rfl, hy7, _, _, _, _⟩ := own_slice O7
  have Y7 := Lib.hid hy7
  clear O7 hy7 R7
  go_wp2_with fail
  refine (same_any A7 _ 5 5 c7 5 [0, 0, 0, 0, 7] [0, 0, 0, 0, 7] _ (by omega) Y7.out HL.out).mono ?_
  rintro e w8 ⟨rfl, q, rfl⟩
  rw [show (([0, 0, 0, 0, 7] : List UInt8) == [0, 0, 0, 0, 7]) = true from by decide]
  have g0 : ((w6.alloc (.cells (bvl [0, 0, 0, 0, 7]).toArray 5)).drewN q).cell? ⟨w5.heap.size, 0, none⟩ = _ := f0
  have g1 : ((w6.alloc (.cells (bvl [0, 0, 0, 0, 7]).toArray 5)).drewN q).cell? ⟨w5.heap.size, 1, none⟩ = _ := f1
  have g4 : ((w6.alloc (.cells (bvl [0, 0, 0, 0, 7]).toArray 5)).drewN q).cell? ⟨w5.heap.size, 4, none⟩ = _ := f4
  clear f0 f1 f4
  go_wp2_with fail
  go_ret
  exact ⟨rfl, below_drewN B7.out _⟩
end Go.Proofs.Ytafonjnanfekkaa.Log
