
/-
  THE WALK of the document's UnpackSuper.
-/
import Derived.Test.YtafonjnanfekkaaLay4
import Derived.Test.YtafonjnanfekkaaRef1
import Derived.Test.YtafonjnanfekkaaSupN
namespace Go.Proofs.Ytafonjnanfekkaa.Lay
open Go.RowKit Go.Proofs.Ytafonjnanfekkaa.Wire
set_option maxHeartbeats 8000000
set_option maxRecDepth 100000
set_option linter.unusedVariables false
set_option linter.unusedSimpArgs false

theorem unpackSuperR_no (A : Option Addr) (len cap : Nat) (bs : List UInt8) (w : World) (hb : BytesAt w A len bs) (hc : len ≤ 9223372036854775807) (hne : len ≠ 256) :
    Calls Try.prog 25 #[.slice A len cap] w fun e w' => e = .returned (.tuple #[usV bs, .int .i64 (usE bs)]) ∧ Below w.heap.size w w' := by
  have huo : usOk bs = false := by
    cases h : usOk bs
    · rfl
    · have := usOk_len h; have := hb.len; omega
  have HV := Lib.hid (show usV bs = supV 0 0 0 0 0 0 0 0 false by simp [usV, huo])
  have HE := Lib.hid (show usE bs = 117 by simp [usE, huo])
  have hd : ((len : Int) != 256) = true := by simp; omega
  have HB := Lib.hid ((Below.refl w.heap.size w).alloc (Nat.le_refl _) (.cells #[.int .i64 0, .int .i64 0, .int .i64 0, .int .i64 0, .int .i64 0, .int .i64 0, .int .i64 0, .int .i64 0, .bool false] 39))
  clear huo hne hb
  go_enter Try.func25, Try.ntmps25
  go_wp2_with fail
  refine bodyPost_ret (v := .tuple #[.agg #[.int .i64 0, .int .i64 0, .int .i64 0, .int .i64 0, .int .i64 0, .int .i64 0, .int .i64 0, .int .i64 0, .bool false], .int .i64 117]) (by simp [results, Try.results25, go_sem]) rfl ⟨by rw [HV.out, HE.out]; rfl, HB.out⟩

theorem unpackSuperR_yes (a : Addr) (cap : Nat) (bs : List UInt8) (w : World) (hl : 256 ≤ cap) (hc : cap ≤ 9223372036854775807) (hb : BytesAt w (some a) 256 bs) :
    Calls Try.prog 25 #[.slice (some a) 256 cap] w fun e w' => e = .returned (.tuple #[usV bs, .int .i64 (usE bs)]) ∧ Below w.heap.size w w' := by
  have hbl := hb.len
  obtain ⟨c38, hc38⟩ : ∃ c, bs[38]? = some c := ⟨_, List.getElem?_eq_getElem (by omega)⟩
  have hu38 := uf_byte (p := 38) hc38
  have hcell : ∀ w', BytesAt w' (some a) 256 bs → w'.cell? ⟨a.block, a.off + 38, none⟩ = some (.int .u8 (uf bs 38 1)) := fun w' h => by
    obtain ⟨a', e, h'⟩ := h.2 (by omega)
    obtain rfl : a = a' := by simpa using e
    have h8 := h' 38 c38 hc38
    have h0 := h' 0 _ (List.getElem?_eq_getElem (by omega))
    rw [show a.add 0 = a by unfold Addr.add; simp] at h0
    have hsa := World.cell?_spot h0
    rw [add_spot hsa] at h8
    rw [h8]
    exact congrArg (fun x => some (Value.int .u8 x)) hu38.symm
  have HC := Lib.hid hcell
  have k0 := Blk.new w 39 #[.int .i64 0, .int .i64 0, .int .i64 0, .int .i64 0, .int .i64 0, .int .i64 0, .int .i64 0, .int .i64 0, .bool false]
  have hB0 := (Below.refl w.heap.size w).alloc (Nat.le_refl _) (.cells #[.int .i64 0, .int .i64 0, .int .i64 0, .int .i64 0, .int .i64 0, .int .i64 0, .int .i64 0, .int .i64 0, .bool false] 39)
  have hb0 := hb.alloc (.cells #[.int .i64 0, .int .i64 0, .int .i64 0, .int .i64 0, .int .i64 0, .int .i64 0, .int .i64 0, .int .i64 0, .bool false] 39)
  obtain ⟨W, hW⟩ : ∃ W, w.alloc (.cells #[.int .i64 0, .int .i64 0, .int .i64 0, .int .i64 0, .int .i64 0, .int .i64 0, .int .i64 0, .int .i64 0, .bool false] 39) = W := ⟨_, rfl⟩
  rw [hW] at k0 hB0 hb0
  have HW := Lib.hid hW
  have K0 := Lib.hid k0
  have B0 := Lib.hid hB0
  have HB := Lib.hid hb0
  clear hW hb hbl hc38 hu38 hcell k0 hB0 hb0
  go_enter Try.func25, Try.ntmps25
  go_wp2_with fail
  rw [HW.out]
  refine region_mix [true, true, true, true, true, true, true, true, true, true, true, true, true, true, true, true, true, true, true, true, true, true, false, false] (S := fun w' => BytesAt w' (some a) 256 bs ∧ w'.cell? ⟨a.block, a.off + 38, none⟩ = some (.int .u8 (uf bs 38 1))) (by kernel_rfl) (by kernel_rfl) (fun _ _ d _ _ h => by cases d <;> exact h) ⟨HB.out, HC.out _ HB.out⟩ ?_
  iterate 1 (refine mix_take (v := ?_) (by kernel_rfl) ?_ (fun K hK => ?_); rotate_left; (· (intro w' hSw; (try dsimp only at hSw); go_simp; with_reducible rfl)); simp only [Act.put, List.setIfInBounds_toArray, List.set_cons_zero, List.set_cons_succ]; refine hK _ ?_; clear hK K)
  refine mix_call (v := ?_) (f := ?_) (args := ?_) (by kernel_rfl) ?_ ?_ (fun K hK => ?_)
  rotate_left 3
  · intro w' hSw; (try dsimp only at hSw); go_simp; constructor <;> rfl
  · intro w' hSw; exact number_ref (some a) 256 cap 6 4 bs w' hl hc hSw.1 (by omega)
  simp only [Act.put, List.setIfInBounds_toArray, List.set_cons_zero, List.set_cons_succ]
  refine hK _ ?_
  clear hK K
  iterate 1 (refine mix_take (v := ?_) (by kernel_rfl) ?_ (fun K hK => ?_); rotate_left; (· (intro w' hSw; (try dsimp only at hSw); go_simp; with_reducible rfl)); simp only [Act.put, List.setIfInBounds_toArray, List.set_cons_zero, List.set_cons_succ]; refine hK _ ?_; clear hK K)
  refine mix_call (v := ?_) (f := ?_) (args := ?_) (by kernel_rfl) ?_ ?_ (fun K hK => ?_)
  rotate_left 3
  · intro w' hSw; (try dsimp only at hSw); go_simp; constructor <;> rfl
  · intro w' hSw; exact number_ref (some a) 256 cap 10 4 bs w' hl hc hSw.1 (by omega)
  simp only [Act.put, List.setIfInBounds_toArray, List.set_cons_zero, List.set_cons_succ]
  refine hK _ ?_
  clear hK K
  iterate 1 (refine mix_take (v := ?_) (by kernel_rfl) ?_ (fun K hK => ?_); rotate_left; (· (intro w' hSw; (try dsimp only at hSw); go_simp; with_reducible rfl)); simp only [Act.put, List.setIfInBounds_toArray, List.set_cons_zero, List.set_cons_succ]; refine hK _ ?_; clear hK K)
  refine mix_call (v := ?_) (f := ?_) (args := ?_) (by kernel_rfl) ?_ ?_ (fun K hK => ?_)
  rotate_left 3
  · intro w' hSw; (try dsimp only at hSw); go_simp; constructor <;> rfl
  · intro w' hSw; exact number_ref (some a) 256 cap 14 4 bs w' hl hc hSw.1 (by omega)
  simp only [Act.put, List.setIfInBounds_toArray, List.set_cons_zero, List.set_cons_succ]
  refine hK _ ?_
  clear hK K
  iterate 1 (refine mix_take (v := ?_) (by kernel_rfl) ?_ (fun K hK => ?_); rotate_left; (· (intro w' hSw; (try dsimp only at hSw); go_simp; with_reducible rfl)); simp only [Act.put, List.setIfInBounds_toArray, List.set_cons_zero, List.set_cons_succ]; refine hK _ ?_; clear hK K)
  refine mix_call (v := ?_) (f := ?_) (args := ?_) (by kernel_rfl) ?_ ?_ (fun K hK => ?_)
  rotate_left 3
  · intro w' hSw; (try dsimp only at hSw); go_simp; constructor <;> rfl
  · intro w' hSw; exact number_ref (some a) 256 cap 18 4 bs w' hl hc hSw.1 (by omega)
  simp only [Act.put, List.setIfInBounds_toArray, List.set_cons_zero, List.set_cons_succ]
  refine hK _ ?_
  clear hK K
  iterate 1 (refine mix_take (v := ?_) (by kernel_rfl) ?_ (fun K hK => ?_); rotate_left; (· (intro w' hSw; (try dsimp only at hSw); go_simp; with_reducible rfl)); simp only [Act.put, List.setIfInBounds_toArray, List.set_cons_zero, List.set_cons_succ]; refine hK _ ?_; clear hK K)
  iterate 1 (refine mix_take (v := ?_) (by kernel_rfl) ?_ (fun K hK => ?_); rotate_left; (· (intro w' hSw; (try dsimp only at hSw); go_simp; with_reducible rfl)); simp only [Act.put, List.setIfInBounds_toArray, List.set_cons_zero, List.set_cons_succ]; refine hK _ ?_; clear hK K)
  refine mix_call (v := ?_) (f := ?_) (args := ?_) (by kernel_rfl) ?_ ?_ (fun K hK => ?_)
  rotate_left 3
  · intro w' hSw; (try dsimp only at hSw); go_simp; constructor <;> rfl
  · intro w' hSw; exact number_ref (some a) 256 cap 22 4 bs w' hl hc hSw.1 (by omega)
  simp only [Act.put, List.setIfInBounds_toArray, List.set_cons_zero, List.set_cons_succ]
  refine hK _ ?_
  clear hK K
  iterate 1 (refine mix_take (v := ?_) (by kernel_rfl) ?_ (fun K hK => ?_); rotate_left; (· (intro w' hSw; (try dsimp only at hSw); go_simp; with_reducible rfl)); simp only [Act.put, List.setIfInBounds_toArray, List.set_cons_zero, List.set_cons_succ]; refine hK _ ?_; clear hK K)
  refine mix_call (v := ?_) (f := ?_) (args := ?_) (by kernel_rfl) ?_ ?_ (fun K hK => ?_)
  rotate_left 3
  · intro w' hSw; (try dsimp only at hSw); go_simp; constructor <;> rfl
  · intro w' hSw; exact number_ref (some a) 256 cap 26 4 bs w' hl hc hSw.1 (by omega)
  simp only [Act.put, List.setIfInBounds_toArray, List.set_cons_zero, List.set_cons_succ]
  refine hK _ ?_
  clear hK K
  iterate 1 (refine mix_take (v := ?_) (by kernel_rfl) ?_ (fun K hK => ?_); rotate_left; (· (intro w' hSw; (try dsimp only at hSw); go_simp; with_reducible rfl)); simp only [Act.put, List.setIfInBounds_toArray, List.set_cons_zero, List.set_cons_succ]; refine hK _ ?_; clear hK K)
  refine mix_call (v := ?_) (f := ?_) (args := ?_) (by kernel_rfl) ?_ ?_ (fun K hK => ?_)
  rotate_left 3
  · intro w' hSw; (try dsimp only at hSw); go_simp; constructor <;> rfl
  · intro w' hSw; exact number_ref (some a) 256 cap 30 4 bs w' hl hc hSw.1 (by omega)
  simp only [Act.put, List.setIfInBounds_toArray, List.set_cons_zero, List.set_cons_succ]
  refine hK _ ?_
  clear hK K
  iterate 1 (refine mix_take (v := ?_) (by kernel_rfl) ?_ (fun K hK => ?_); rotate_left; (· (intro w' hSw; (try dsimp only at hSw); go_simp; with_reducible rfl)); simp only [Act.put, List.setIfInBounds_toArray, List.set_cons_zero, List.set_cons_succ]; refine hK _ ?_; clear hK K)
  refine mix_call (v := ?_) (f := ?_) (args := ?_) (by kernel_rfl) ?_ ?_ (fun K hK => ?_)
  rotate_left 3
  · intro w' hSw; (try dsimp only at hSw); go_simp; constructor <;> rfl
  · intro w' hSw; exact number_ref (some a) 256 cap 34 4 bs w' hl hc hSw.1 (by omega)
  simp only [Act.put, List.setIfInBounds_toArray, List.set_cons_zero, List.set_cons_succ]
  refine hK _ ?_
  clear hK K
  iterate 5 (refine mix_take (v := ?_) (by kernel_rfl) ?_ (fun K hK => ?_); rotate_left; (· (intro w' hSw; (try dsimp only at hSw); go_simp; with_reducible rfl)); simp only [Act.put, List.setIfInBounds_toArray, List.set_cons_zero, List.set_cons_succ]; refine hK _ ?_; clear hK K)
  refine mix_do (E := False) (fun K hK => ?_) (by kernel_rfl)
  go_simp
  refine hK.out _ _ (⟨HB.out.drew.alloc _, HC.out _ (HB.out.drew.alloc _)⟩) ?_
  clear hK K
  try simp only [Act.put, List.setIfInBounds_toArray, List.set_cons_zero, List.set_cons_succ]
  refine mix_do (E := False) (fun K hK => ?_) (by kernel_rfl)
  go_simp
  refine hK.out _ _ (⟨HB.out.drew.alloc _, HC.out _ (HB.out.drew.alloc _)⟩) ?_
  clear hK K
  try simp only [Act.put, List.setIfInBounds_toArray, List.set_cons_zero, List.set_cons_succ]
  refine mix_end ?_
  have K3 := Lib.hid (K0.out.alloc (.cells #[.int .i64 (uf bs 6 4), .int .i64 (uf bs 10 4), .int .i64 (uf bs 14 4), .int .i64 (uf bs 18 4), .int .i64 (uf bs 22 4), .int .i64 (uf bs 26 4), .int .i64 (uf bs 30 4), .int .i64 (uf bs 34 4), .bool (uf bs 38 1 == 1)] 39)).drew
  have S3 := Lib.hid (Blk.new W 39 #[.int .i64 (uf bs 6 4), .int .i64 (uf bs 10 4), .int .i64 (uf bs 14 4), .int .i64 (uf bs 18 4), .int .i64 (uf bs 22 4), .int .i64 (uf bs 26 4), .int .i64 (uf bs 30 4), .int .i64 (uf bs 34 4), .bool (uf bs 38 1 == 1)]).drew
  have B3 := Lib.hid (B0.out.alloc B0.out.size (.cells #[.int .i64 (uf bs 6 4), .int .i64 (uf bs 10 4), .int .i64 (uf bs 14 4), .int .i64 (uf bs 18 4), .int .i64 (uf bs 22 4), .int .i64 (uf bs 26 4), .int .i64 (uf bs 30 4), .int .i64 (uf bs 34 4), .bool (uf bs 38 1 == 1)] 39)).drew
  have HB3 := Lib.hid (HB.out.alloc (.cells #[.int .i64 (uf bs 6 4), .int .i64 (uf bs 10 4), .int .i64 (uf bs 14 4), .int .i64 (uf bs 18 4), .int .i64 (uf bs 22 4), .int .i64 (uf bs 26 4), .int .i64 (uf bs 30 4), .int .i64 (uf bs 34 4), .bool (uf bs 38 1 == 1)] 39)).drew
  clear K0 B0 HB
  go_wp2_with fail
  generalize hW3 : (W.alloc (.cells #[.int .i64 (uf bs 6 4), .int .i64 (uf bs 10 4), .int .i64 (uf bs 14 4), .int .i64 (uf bs 18 4), .int .i64 (uf bs 22 4), .int .i64 (uf bs 26 4), .int .i64 (uf bs 30 4), .int .i64 (uf bs 34 4), .bool (uf bs 38 1 == 1)] 39)).drew = w3 at *
  clear hW3
  refine (packSuperR_any (uf bs 6 4) (uf bs 10 4) (uf bs 14 4) (uf bs 18 4) (uf bs 22 4) (uf bs 26 4) (uf bs 30 4) (uf bs 34 4) (uf bs 38 1 == 1) _).mono ?_
  rintro e w4 ⟨v4, rfl, hb4, ho4⟩
  have B4 := Lib.hid (below_all B3.out B3.out.size hb4)
  have k4 := K3.out.belowAll hb4
  have s4 := S3.out.belowAll hb4
  obtain ⟨A4, c4, rfl, hr4, _, _, _, _⟩ := own_slice ho4
  have R4 := Lib.hid hr4
  have HB4 := Lib.hid (HB3.out.below hb4)
  clear hb4 ho4 hr4
  obtain ⟨q0, q1, q2, q3, q4, q5, q6, q7, q8⟩ := sup_cells k4
  obtain ⟨r0, r1, r2, r3, r4, r5, r6, r7, r8⟩ := sup_cells s4
  have z0 : w4.frozen? ⟨w.heap.size, 0, none⟩ = false := k4.frozen 0
  have z1 : w4.frozen? ⟨w.heap.size, 1, none⟩ = false := k4.frozen 1
  have z2 : w4.frozen? ⟨w.heap.size, 2, none⟩ = false := k4.frozen 2
  have z3 : w4.frozen? ⟨w.heap.size, 3, none⟩ = false := k4.frozen 3
  have z4 : w4.frozen? ⟨w.heap.size, 4, none⟩ = false := k4.frozen 4
  have z5 : w4.frozen? ⟨w.heap.size, 5, none⟩ = false := k4.frozen 5
  have z6 : w4.frozen? ⟨w.heap.size, 6, none⟩ = false := k4.frozen 6
  have z7 : w4.frozen? ⟨w.heap.size, 7, none⟩ = false := k4.frozen 7
  have z8 : w4.frozen? ⟨w.heap.size, 8, none⟩ = false := k4.frozen 8
  clear k4 s4
  cases hu : supOk (uf bs 6 4) (uf bs 10 4) (uf bs 14 4) (uf bs 18 4) (uf bs 22 4) (uf bs 26 4) (uf bs 30 4) (uf bs 34 4)
  · have e1 : supE (uf bs 6 4) (uf bs 10 4) (uf bs 14 4) (uf bs 18 4) (uf bs 22 4) (uf bs 26 4) (uf bs 30 4) (uf bs 34 4) = 22 := by simp [supE, hu]
    have huo : usOk bs = false := by simp [usOk, hu]
    have HV := Lib.hid (show usV bs = supV 0 0 0 0 0 0 0 0 false by simp [usV, huo])
    have HE := Lib.hid (show usE bs = 117 by simp [usE, huo])
    rw [e1]
    clear e1 huo hu
    go_wp2_with fail
    refine bodyPost_ret (v := .tuple #[.agg #[.int .i64 0, .int .i64 0, .int .i64 0, .int .i64 0, .int .i64 0, .int .i64 0, .int .i64 0, .int .i64 0, .bool false], .int .i64 117]) (by simp [results, Try.results25, go_sem, q0, q1, q2, q3, q4, q5, q6, q7, q8, z0, z1, z2, z3, z4, z5, z6, z7, z8]) rfl ⟨by rw [HV.out, HE.out]; rfl, ?_⟩
    exact (((((((((B4.out.setCell (p := ⟨w.heap.size, 0, none⟩) (Nat.le_refl _) (.int .i64 0)).setCell (p := ⟨w.heap.size, 1, none⟩) (Nat.le_refl _) (.int .i64 0)).setCell (p := ⟨w.heap.size, 2, none⟩) (Nat.le_refl _) (.int .i64 0)).setCell (p := ⟨w.heap.size, 3, none⟩) (Nat.le_refl _) (.int .i64 0)).setCell (p := ⟨w.heap.size, 4, none⟩) (Nat.le_refl _) (.int .i64 0)).setCell (p := ⟨w.heap.size, 5, none⟩) (Nat.le_refl _) (.int .i64 0)).setCell (p := ⟨w.heap.size, 6, none⟩) (Nat.le_refl _) (.int .i64 0)).setCell (p := ⟨w.heap.size, 7, none⟩) (Nat.le_refl _) (.int .i64 0)).setCell (p := ⟨w.heap.size, 8, none⟩) (Nat.le_refl _) (.bool false))
  · have e1 : supE (uf bs 6 4) (uf bs 10 4) (uf bs 14 4) (uf bs 18 4) (uf bs 22 4) (uf bs 26 4) (uf bs 30 4) (uf bs 34 4) = 0 := by simp [supE, hu]
    have hlen := supB_len (cl := (uf bs 38 1 == 1)) hu
    rw [e1]
    clear e1
    cases hq : (bs == supB (uf bs 6 4) (uf bs 10 4) (uf bs 14 4) (uf bs 18 4) (uf bs 22 4) (uf bs 26 4) (uf bs 30 4) (uf bs 34 4) (uf bs 38 1 == 1))
    · have huo : usOk bs = false := by simp only [usOk, hu, ucl, hq]; rfl
      have HV := Lib.hid (show usV bs = supV 0 0 0 0 0 0 0 0 false by simp [usV, huo])
      have HE := Lib.hid (show usE bs = 117 by simp [usE, huo])
      have HQ := Lib.hid hq
      have HLN := Lib.hid hlen
      clear huo hu hq hlen
      go_wp2_with fail
      refine (same_any (some a) A4 256 _ cap c4 bs _ w4 (by omega) HB4.out R4.out).mono ?_
      rintro e w' ⟨rfl, nn, rfl⟩
      rw [HQ.out]
      go_wp2_with fail
      refine bodyPost_ret (v := .tuple #[.agg #[.int .i64 0, .int .i64 0, .int .i64 0, .int .i64 0, .int .i64 0, .int .i64 0, .int .i64 0, .int .i64 0, .bool false], .int .i64 117]) (by simp [results, Try.results25, go_sem, q0, q1, q2, q3, q4, q5, q6, q7, q8, z0, z1, z2, z3, z4, z5, z6, z7, z8]) rfl ⟨by rw [HV.out, HE.out]; rfl, ?_⟩
      exact ((((((((((below_drewN B4.out nn).setCell (p := ⟨w.heap.size, 0, none⟩) (Nat.le_refl _) (.int .i64 0)).setCell (p := ⟨w.heap.size, 1, none⟩) (Nat.le_refl _) (.int .i64 0)).setCell (p := ⟨w.heap.size, 2, none⟩) (Nat.le_refl _) (.int .i64 0)).setCell (p := ⟨w.heap.size, 3, none⟩) (Nat.le_refl _) (.int .i64 0)).setCell (p := ⟨w.heap.size, 4, none⟩) (Nat.le_refl _) (.int .i64 0)).setCell (p := ⟨w.heap.size, 5, none⟩) (Nat.le_refl _) (.int .i64 0)).setCell (p := ⟨w.heap.size, 6, none⟩) (Nat.le_refl _) (.int .i64 0)).setCell (p := ⟨w.heap.size, 7, none⟩) (Nat.le_refl _) (.int .i64 0)).setCell (p := ⟨w.heap.size, 8, none⟩) (Nat.le_refl _) (.bool false))
    · have huo : usOk bs = true := by simp only [usOk, hu, ucl, hq]; rfl
      have HV := Lib.hid (show usV bs = supV (uf bs 6 4) (uf bs 10 4) (uf bs 14 4) (uf bs 18 4) (uf bs 22 4) (uf bs 26 4) (uf bs 30 4) (uf bs 34 4) (uf bs 38 1 == 1) by simp [usV, huo, ucl])
      have HE := Lib.hid (show usE bs = 0 by simp [usE, huo])
      have HQ := Lib.hid hq
      have HLN := Lib.hid hlen
      clear huo hu hq hlen
      go_wp2_with fail
      refine (same_any (some a) A4 256 _ cap c4 bs _ w4 (by omega) HB4.out R4.out).mono ?_
      rintro e w' ⟨rfl, nn, rfl⟩
      rw [HQ.out]
      go_wp2_with fail
      refine bodyPost_ret (v := .tuple #[.agg #[.int .i64 (uf bs 6 4), .int .i64 (uf bs 10 4), .int .i64 (uf bs 14 4), .int .i64 (uf bs 18 4), .int .i64 (uf bs 22 4), .int .i64 (uf bs 26 4), .int .i64 (uf bs 30 4), .int .i64 (uf bs 34 4), .bool (uf bs 38 1 == 1)], .int .i64 0]) (by simp [results, Try.results25, go_sem, q0, q1, q2, q3, q4, q5, q6, q7, q8, z0, z1, z2, z3, z4, z5, z6, z7, z8]) rfl ⟨by rw [HV.out, HE.out]; rfl, ?_⟩
      exact ((((((((((below_drewN B4.out nn).setCell (p := ⟨w.heap.size, 0, none⟩) (Nat.le_refl _) (.int .i64 (uf bs 6 4))).setCell (p := ⟨w.heap.size, 1, none⟩) (Nat.le_refl _) (.int .i64 (uf bs 10 4))).setCell (p := ⟨w.heap.size, 2, none⟩) (Nat.le_refl _) (.int .i64 (uf bs 14 4))).setCell (p := ⟨w.heap.size, 3, none⟩) (Nat.le_refl _) (.int .i64 (uf bs 18 4))).setCell (p := ⟨w.heap.size, 4, none⟩) (Nat.le_refl _) (.int .i64 (uf bs 22 4))).setCell (p := ⟨w.heap.size, 5, none⟩) (Nat.le_refl _) (.int .i64 (uf bs 26 4))).setCell (p := ⟨w.heap.size, 6, none⟩) (Nat.le_refl _) (.int .i64 (uf bs 30 4))).setCell (p := ⟨w.heap.size, 7, none⟩) (Nat.le_refl _) (.int .i64 (uf bs 34 4))).setCell (p := ⟨w.heap.size, 8, none⟩) (Nat.le_refl _) (.bool (uf bs 38 1 == 1)))

theorem unpackSuperR_any (A : Option Addr) (len cap : Nat) (bs : List UInt8) (w : World) (hl : len ≤ cap) (hc : cap ≤ 9223372036854775807) (hb : BytesAt w A len bs) :
    Calls Try.prog 25 #[.slice A len cap] w fun e w' => e = .returned (.tuple #[usV bs, .int .i64 (usE bs)]) ∧ Below w.heap.size w w' := by
  by_cases h : len = 256
  · subst h
    obtain ⟨a, c, rfl, _, _⟩ := hb.at_ (k := 0) (by omega)
    exact unpackSuperR_yes a cap bs w hl hc hb
  · exact unpackSuperR_no A len cap bs w hb (by omega) h
end Go.Proofs.Ytafonjnanfekkaa.Lay
