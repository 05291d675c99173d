
/-
  THE WALK of layout.UnpackSuper.
-/
import Derived.Test.YtafonjnanfekkaaLay2
namespace Go.Proofs.Ytafonjnanfekkaa.Lay
open Go.RowKit Go.Proofs.Ytafonjnanfekkaa.Wire
set_option maxHeartbeats 8000000
set_option maxRecDepth 100000
set_option linter.unusedVariables false
set_option linter.unusedSimpArgs false

theorem row11 {w' : World} {base g c : Nat} {x0 x1 x2 x3 x4 x5 x6 x7 x8 x9 x10 : Int} (h : w'.ownsRow base 3 1 (.slice (some ⟨g, 0, none⟩) 11 c) 11 (ints [x0, x1, x2, x3, x4, x5, x6, x7, x8, x9, x10])) : w'.cell? ⟨g, 0, none⟩ = some (.int .i64 x0) ∧ w'.cell? ⟨g, 1, none⟩ = some (.int .i64 x1) ∧ w'.cell? ⟨g, 2, none⟩ = some (.int .i64 x2) ∧ w'.cell? ⟨g, 3, none⟩ = some (.int .i64 x3) ∧ w'.cell? ⟨g, 4, none⟩ = some (.int .i64 x4) ∧ w'.cell? ⟨g, 5, none⟩ = some (.int .i64 x5) ∧ w'.cell? ⟨g, 6, none⟩ = some (.int .i64 x6) ∧ w'.cell? ⟨g, 7, none⟩ = some (.int .i64 x7) ∧ w'.cell? ⟨g, 8, none⟩ = some (.int .i64 x8) ∧ w'.cell? ⟨g, 9, none⟩ = some (.int .i64 x9) ∧ w'.cell? ⟨g, 10, none⟩ = some (.int .i64 x10) :=
  ⟨h.cellAt 0 (by omega), h.cellAt 1 (by omega), h.cellAt 2 (by omega), h.cellAt 3 (by omega), h.cellAt 4 (by omega), h.cellAt 5 (by omega), h.cellAt 6 (by omega), h.cellAt 7 (by omega), h.cellAt 8 (by omega), h.cellAt 9 (by omega), h.cellAt 10 (by omega)⟩

theorem unpackSuper_any (A : Option Addr) (len cap : Nat) (bs : List UInt8) (w : World) (hl : len ≤ cap) (hc : cap ≤ 9223372036854775807) (hb : BytesAt w A len bs) :
    Calls Try.prog 24 #[.slice A len cap] w fun e w' => e = .returned (.tuple #[usV bs, .int .i64 (usE bs)]) ∧ Below w.heap.size w w' := by
  have hrs := recs_super bs
  have hwk : wok superWs = true := by decide
  have hw4 : ∀ z ∈ superWs, z ≤ 4 := by decide
  have HB := Lib.hid hb
  have HRS := Lib.hid hrs
  have b0 := Blk.new w 39 #[.int .i64 0, .int .i64 0, .int .i64 0, .int .i64 0, .int .i64 0, .int .i64 0, .int .i64 0, .int .i64 0, .bool false]
  have B0 := Lib.hid ((Below.refl w.heap.size w).alloc (Nat.le_refl _) (.cells #[.int .i64 0, .int .i64 0, .int .i64 0, .int .i64 0, .int .i64 0, .int .i64 0, .int .i64 0, .int .i64 0, .bool false] 39))
  have K0 := Lib.hid b0
  clear hb hrs b0
  go_enter Try.func24, Try.ntmps24
  go_wp2_with fail
  generalize w.alloc (.cells #[.int .i64 0, .int .i64 0, .int .i64 0, .int .i64 0, .int .i64 0, .int .i64 0, .int .i64 0, .int .i64 0, .bool false] 39) = w0 at *
  refine (widths_any _).mono ?_
  rintro e w1 ⟨v1, rfl, hb1, ho1⟩
  have B1 := Lib.hid (below_all B0.out B0.out.size hb1)
  have K1 := Lib.hid (K0.out.belowAll hb1)
  obtain ⟨A1, c1, rfl, hr1, _, _, _, _⟩ := own_ints ho1
  have R1 := Lib.hid hr1
  clear hb1 ho1 hr1
  go_wp2_with fail
  refine (record_any A1 A 11 c1 len cap superWs bs _ (by omega) hl hc R1.out (HB.out.below B1.out) hwk hw4).mono ?_
  rintro e w2 ⟨v2, rfl, hb2, ho2⟩
  have B2 := Lib.hid (below_all B1.out B1.out.size hb2)
  have K2 := Lib.hid (K1.out.belowAll hb2)
  rw [HRS.out] at ho2
  obtain ⟨g, c2, cs2, rfl, hg2, _, hc2, hm2, _⟩ := own_form ho2 (by omega)
  have O2 := Lib.hid ho2
  have hz2 := B2.out.size
  clear hb2 ho2 hwk hw4 HRS
  have rc := row11 O2.out
  go_wp2_with fail
  refine region_mix [true, true, true, true, true, true, true, true, true, true, true, true, true, true, true, true, true, true, true, true, true, true, true, true, true, true, true, true, true, true, false, false] (S := fun w' => w'.cell? ⟨g, 0, none⟩ = some (.int .i64 (uf bs 0 4)) ∧ w'.cell? ⟨g, 1, none⟩ = some (.int .i64 (uf bs 4 2)) ∧ w'.cell? ⟨g, 2, none⟩ = some (.int .i64 (uf bs 6 4)) ∧ w'.cell? ⟨g, 3, none⟩ = some (.int .i64 (uf bs 10 4)) ∧ w'.cell? ⟨g, 4, none⟩ = some (.int .i64 (uf bs 14 4)) ∧ w'.cell? ⟨g, 5, none⟩ = some (.int .i64 (uf bs 18 4)) ∧ w'.cell? ⟨g, 6, none⟩ = some (.int .i64 (uf bs 22 4)) ∧ w'.cell? ⟨g, 7, none⟩ = some (.int .i64 (uf bs 26 4)) ∧ w'.cell? ⟨g, 8, none⟩ = some (.int .i64 (uf bs 30 4)) ∧ w'.cell? ⟨g, 9, none⟩ = some (.int .i64 (uf bs 34 4)) ∧ w'.cell? ⟨g, 10, none⟩ = some (.int .i64 (uf bs 38 1))) (by kernel_rfl) (by kernel_rfl) (fun _ _ d _ _ h => by cases d <;> exact h) rc ?_
  iterate 30 (refine mix_take (v := ?_) (by kernel_rfl) ?_ (fun K hK => ?_); rotate_left; (· (intro w' hSw; (try dsimp only at hSw); go_simp; with_reducible rfl)); simp only [Act.put, List.setIfInBounds_toArray, List.set_cons_zero, List.set_cons_succ]; refine hK _ ?_; clear hK K)
  refine mix_do (E := False) (fun K hK => ?_) (by kernel_rfl)
  go_simp
  refine hK.out _ _ (row11 (O2.out.drew.alloc _)) ?_
  clear hK K
  try simp only [Act.put, List.setIfInBounds_toArray, List.set_cons_zero, List.set_cons_succ]
  refine mix_do (E := False) (fun K hK => ?_) (by kernel_rfl)
  go_simp
  refine hK.out _ _ (row11 (O2.out.drew.alloc _)) ?_
  clear hK K
  try simp only [Act.put, List.setIfInBounds_toArray, List.set_cons_zero, List.set_cons_succ]
  refine mix_end ?_
  have K3 := Lib.hid (K2.out.alloc (.cells #[.int .i64 (uf bs 6 4), .int .i64 (uf bs 10 4), .int .i64 (uf bs 14 4), .int .i64 (uf bs 18 4), .int .i64 (uf bs 22 4), .int .i64 (uf bs 26 4), .int .i64 (uf bs 30 4), .int .i64 (uf bs 34 4), .bool (uf bs 38 1 == 1)] 39)).drew
  have S3 := Lib.hid (Blk.new w2 39 #[.int .i64 (uf bs 6 4), .int .i64 (uf bs 10 4), .int .i64 (uf bs 14 4), .int .i64 (uf bs 18 4), .int .i64 (uf bs 22 4), .int .i64 (uf bs 26 4), .int .i64 (uf bs 30 4), .int .i64 (uf bs 34 4), .bool (uf bs 38 1 == 1)]).drew
  have B3 := Lib.hid (B2.out.alloc B2.out.size (.cells #[.int .i64 (uf bs 6 4), .int .i64 (uf bs 10 4), .int .i64 (uf bs 14 4), .int .i64 (uf bs 18 4), .int .i64 (uf bs 22 4), .int .i64 (uf bs 26 4), .int .i64 (uf bs 30 4), .int .i64 (uf bs 34 4), .bool (uf bs 38 1 == 1)] 39)).drew
  have HB3 := Lib.hid (HB.out.below B3.out)
  clear rc K2 B2 O2
  go_wp2_with fail
  generalize hW3 : (w2.alloc (.cells #[.int .i64 (uf bs 6 4), .int .i64 (uf bs 10 4), .int .i64 (uf bs 14 4), .int .i64 (uf bs 18 4), .int .i64 (uf bs 22 4), .int .i64 (uf bs 26 4), .int .i64 (uf bs 30 4), .int .i64 (uf bs 34 4), .bool (uf bs 38 1 == 1)] 39)).drew = w3 at *
  have hsz3 : w3.heap.size = w2.heap.size + 1 := by rw [← hW3]; simp
  clear hW3
  refine (packSuper_any (uf bs 6 4) (uf bs 10 4) (uf bs 14 4) (uf bs 18 4) (uf bs 22 4) (uf bs 26 4) (uf bs 30 4) (uf bs 34 4) (uf bs 38 1 == 1) _).mono ?_
  rintro e w4 ⟨v4, rfl, hb4, ho4⟩
  have B4 := Lib.hid (below_all B3.out B3.out.size hb4)
  have k4 := K3.out.belowAll hb4
  have s4 := S3.out.belowAll hb4
  obtain ⟨A4, c4, rfl, hr4, _, _, _, _⟩ := own_slice ho4
  have R4 := Lib.hid hr4
  have HB4 := Lib.hid (HB3.out.below hb4)
  clear hb4 ho4 hr4
  obtain ⟨q0, q1, q2, q3, q4, q5, q6, q7, q8⟩ := sup_cells k4
  obtain ⟨r0, r1, r2, r3, r4, r5, r6, r7, r8⟩ := sup_cells s4
  have F4 := Lib.hid k4
  have z0 : w4.frozen? ⟨w.heap.size, 0, none⟩ = false := k4.frozen 0
  have z1 : w4.frozen? ⟨w.heap.size, 1, none⟩ = false := k4.frozen 1
  have z2 : w4.frozen? ⟨w.heap.size, 2, none⟩ = false := k4.frozen 2
  have z3 : w4.frozen? ⟨w.heap.size, 3, none⟩ = false := k4.frozen 3
  have z4 : w4.frozen? ⟨w.heap.size, 4, none⟩ = false := k4.frozen 4
  have z5 : w4.frozen? ⟨w.heap.size, 5, none⟩ = false := k4.frozen 5
  have z6 : w4.frozen? ⟨w.heap.size, 6, none⟩ = false := k4.frozen 6
  have z7 : w4.frozen? ⟨w.heap.size, 7, none⟩ = false := k4.frozen 7
  have z8 : w4.frozen? ⟨w.heap.size, 8, none⟩ = false := k4.frozen 8
  clear k4 s4
  cases hu : supOk (uf bs 6 4) (uf bs 10 4) (uf bs 14 4) (uf bs 18 4) (uf bs 22 4) (uf bs 26 4) (uf bs 30 4) (uf bs 34 4)
  · have e1 : supE (uf bs 6 4) (uf bs 10 4) (uf bs 14 4) (uf bs 18 4) (uf bs 22 4) (uf bs 26 4) (uf bs 30 4) (uf bs 34 4) = 22 := by simp [supE, hu]
    have huo : usOk bs = false := by simp [usOk, hu]
    have HV := Lib.hid (show usV bs = supV 0 0 0 0 0 0 0 0 false by simp [usV, huo])
    have HE := Lib.hid (show usE bs = 117 by simp [usE, huo])
    rw [e1]
    clear e1 huo hu
    go_wp2_with fail
    refine bodyPost_ret (v := .tuple #[.agg #[.int .i64 0, .int .i64 0, .int .i64 0, .int .i64 0, .int .i64 0, .int .i64 0, .int .i64 0, .int .i64 0, .bool false], .int .i64 117]) (by simp [results, Try.results24, go_sem, q0, q1, q2, q3, q4, q5, q6, q7, q8, z0, z1, z2, z3, z4, z5, z6, z7, z8]) rfl ⟨by rw [HV.out, HE.out]; rfl, ?_⟩
    exact (((((((((B4.out.setCell (p := ⟨w.heap.size, 0, none⟩) (Nat.le_refl _) (.int .i64 0)).setCell (p := ⟨w.heap.size, 1, none⟩) (Nat.le_refl _) (.int .i64 0)).setCell (p := ⟨w.heap.size, 2, none⟩) (Nat.le_refl _) (.int .i64 0)).setCell (p := ⟨w.heap.size, 3, none⟩) (Nat.le_refl _) (.int .i64 0)).setCell (p := ⟨w.heap.size, 4, none⟩) (Nat.le_refl _) (.int .i64 0)).setCell (p := ⟨w.heap.size, 5, none⟩) (Nat.le_refl _) (.int .i64 0)).setCell (p := ⟨w.heap.size, 6, none⟩) (Nat.le_refl _) (.int .i64 0)).setCell (p := ⟨w.heap.size, 7, none⟩) (Nat.le_refl _) (.int .i64 0)).setCell (p := ⟨w.heap.size, 8, none⟩) (Nat.le_refl _) (.bool false))
  · have e1 : supE (uf bs 6 4) (uf bs 10 4) (uf bs 14 4) (uf bs 18 4) (uf bs 22 4) (uf bs 26 4) (uf bs 30 4) (uf bs 34 4) = 0 := by simp [supE, hu]
    rw [e1]
    clear e1
    cases hq : (bs == supB (uf bs 6 4) (uf bs 10 4) (uf bs 14 4) (uf bs 18 4) (uf bs 22 4) (uf bs 26 4) (uf bs 30 4) (uf bs 34 4) (uf bs 38 1 == 1))
    · have huo : usOk bs = false := by simp only [usOk, hu, ucl, hq]; rfl
      have HV := Lib.hid (show usV bs = supV 0 0 0 0 0 0 0 0 false by simp [usV, huo])
      have HE := Lib.hid (show usE bs = 117 by simp [usE, huo])
      have HQ := Lib.hid hq
      clear huo hu hq
      go_wp2_with fail
      refine (equal_any A A4 len _ cap c4 bs _ w4 HB4.out R4.out).mono ?_
      rintro e w' ⟨rfl, rfl⟩
      rw [HQ.out]
      go_wp2_with fail
      refine bodyPost_ret (v := .tuple #[.agg #[.int .i64 0, .int .i64 0, .int .i64 0, .int .i64 0, .int .i64 0, .int .i64 0, .int .i64 0, .int .i64 0, .bool false], .int .i64 117]) (by simp [results, Try.results24, go_sem, q0, q1, q2, q3, q4, q5, q6, q7, q8, z0, z1, z2, z3, z4, z5, z6, z7, z8]) rfl ⟨by rw [HV.out, HE.out]; rfl, ?_⟩
      exact (((((((((B4.out.setCell (p := ⟨w.heap.size, 0, none⟩) (Nat.le_refl _) (.int .i64 0)).setCell (p := ⟨w.heap.size, 1, none⟩) (Nat.le_refl _) (.int .i64 0)).setCell (p := ⟨w.heap.size, 2, none⟩) (Nat.le_refl _) (.int .i64 0)).setCell (p := ⟨w.heap.size, 3, none⟩) (Nat.le_refl _) (.int .i64 0)).setCell (p := ⟨w.heap.size, 4, none⟩) (Nat.le_refl _) (.int .i64 0)).setCell (p := ⟨w.heap.size, 5, none⟩) (Nat.le_refl _) (.int .i64 0)).setCell (p := ⟨w.heap.size, 6, none⟩) (Nat.le_refl _) (.int .i64 0)).setCell (p := ⟨w.heap.size, 7, none⟩) (Nat.le_refl _) (.int .i64 0)).setCell (p := ⟨w.heap.size, 8, none⟩) (Nat.le_refl _) (.bool false))
    · have huo : usOk bs = true := by simp only [usOk, hu, ucl, hq]; rfl
      have HV := Lib.hid (show usV bs = supV (uf bs 6 4) (uf bs 10 4) (uf bs 14 4) (uf bs 18 4) (uf bs 22 4) (uf bs 26 4) (uf bs 30 4) (uf bs 34 4) (uf bs 38 1 == 1) by simp [usV, huo, ucl])
      have HE := Lib.hid (show usE bs = 0 by simp [usE, huo])
      have HQ := Lib.hid hq
      clear huo hu hq
      go_wp2_with fail
      refine (equal_any A A4 len _ cap c4 bs _ w4 HB4.out R4.out).mono ?_
      rintro e w' ⟨rfl, rfl⟩
      rw [HQ.out]
      go_wp2_with fail
      refine bodyPost_ret (v := .tuple #[.agg #[.int .i64 (uf bs 6 4), .int .i64 (uf bs 10 4), .int .i64 (uf bs 14 4), .int .i64 (uf bs 18 4), .int .i64 (uf bs 22 4), .int .i64 (uf bs 26 4), .int .i64 (uf bs 30 4), .int .i64 (uf bs 34 4), .bool (uf bs 38 1 == 1)], .int .i64 0]) (by simp [results, Try.results24, go_sem, q0, q1, q2, q3, q4, q5, q6, q7, q8, z0, z1, z2, z3, z4, z5, z6, z7, z8]) rfl ⟨by rw [HV.out, HE.out]; rfl, ?_⟩
      exact (((((((((B4.out.setCell (p := ⟨w.heap.size, 0, none⟩) (Nat.le_refl _) (.int .i64 (uf bs 6 4))).setCell (p := ⟨w.heap.size, 1, none⟩) (Nat.le_refl _) (.int .i64 (uf bs 10 4))).setCell (p := ⟨w.heap.size, 2, none⟩) (Nat.le_refl _) (.int .i64 (uf bs 14 4))).setCell (p := ⟨w.heap.size, 3, none⟩) (Nat.le_refl _) (.int .i64 (uf bs 18 4))).setCell (p := ⟨w.heap.size, 4, none⟩) (Nat.le_refl _) (.int .i64 (uf bs 22 4))).setCell (p := ⟨w.heap.size, 5, none⟩) (Nat.le_refl _) (.int .i64 (uf bs 26 4))).setCell (p := ⟨w.heap.size, 6, none⟩) (Nat.le_refl _) (.int .i64 (uf bs 30 4))).setCell (p := ⟨w.heap.size, 7, none⟩) (Nat.le_refl _) (.int .i64 (uf bs 34 4))).setCell (p := ⟨w.heap.size, 8, none⟩) (Nat.le_refl _) (.bool (uf bs 38 1 == 1)))
end Go.Proofs.Ytafonjnanfekkaa.Lay
