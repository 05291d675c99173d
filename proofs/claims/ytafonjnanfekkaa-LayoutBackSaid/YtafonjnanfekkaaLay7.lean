
/-
  THE WALK of layout.UnpackGroups.
-/
import Derived.Test.YtafonjnanfekkaaLay6
namespace Go.Proofs.Ytafonjnanfekkaa.Lay
open Go.RowKit Go.Proofs.Ytafonjnanfekkaa.Wire
set_option maxHeartbeats 8000000
set_option maxRecDepth 100000
set_option linter.unusedVariables false
set_option linter.unusedSimpArgs false

theorem infoGrp : (Try.prog.info? 108).map (fun i => (i.zero, i.size, i.bytes)) = some (some (.agg #[.int .i64 0, .int .i64 0, .int .i64 0]), 3, 24) := by kernel_rfl

theorem unpackGroups_no (A : Option Addr) (len cap : Nat) (n : Int) (w : World) (hr : rg n 1 14 = false) :
    Calls Try.prog 29 #[.slice A len cap, .int .i64 n] w fun e w' => e = .returned (.tuple #[.slice none 0 0, .int .i64 22]) ∧ Below w.heap.size w w' := by
  have HR := Lib.hid hr
  clear hr
  go_enter Try.func29, Try.ntmps29
  go_wp2_with fail
  refine (ranged_any _ _ _ _).mono ?_
  rintro e w' ⟨rfl, rfl⟩
  rw [HR.out]
  go_wp2_with fail
  go_ret2
  exact ⟨rfl, Below.refl _ _⟩

theorem unpackGroups_in (A : Option Addr) (len cap : Nat) (m : Nat) (bs : List UInt8) (w : World) (hl : len ≤ cap) (hc : cap ≤ 9223372036854775807) (hb : BytesAt w A len bs) (hg : rg (m : Int) 1 14 = true) :
    Calls Try.prog 29 #[.slice A len cap, .int .i64 (m : Int)] w fun e w' => ∃ v, e = .returned (.tuple #[v, .int .i64 (ugE bs m)]) ∧ Below w.heap.size w w' ∧ w'.ownsRow w.heap.size 108 3 v (ugX bs m).length (gcells (ugX bs m)) := by
  obtain ⟨n1, n2⟩ := rg_true hg
  have HG := Lib.hid hg
  have HB := Lib.hid hb
  clear hg hb
  go_enter Try.func29, Try.ntmps29
  go_wp2_with fail
  refine (ranged_any _ _ _ _).mono ?_
  rintro e w' ⟨rfl, rfl⟩
  rw [HG.out]
  go_wp2_with fail
  refine (gwidths_any m _ (by omega)).mono ?_
  rintro e w1 ⟨v1, rfl, hb1, ho1⟩
  have B1 := Lib.hid hb1
  obtain ⟨A1, c1, rfl, hr1, _, _, _, _⟩ := own_ints ho1
  have R1 := Lib.hid hr1
  clear hb1 ho1 hr1
  go_wp2_with fail
  refine (record_any A1 A (3 * m) c1 len cap (gWs m) bs _ (by omega) hl hc R1.out (HB.out.below B1.out) (gWs_wok m) (gWs_four m)).mono ?_
  rintro e w2 ⟨v2, rfl, hb2, ho2⟩
  have B2 := Lib.hid (below_all B1.out B1.out.size hb2)
  obtain ⟨g, c2, cs2, rfl, hg2, _, hc2, hm2, _⟩ := own_form ho2 (by omega)
  have O2 := Lib.hid ho2
  have hz1 := B1.out.size
  have hz2 := B2.out.size
  have hgl : g < w2.heap.size := (ho2.lt g rfl).2
  clear hb2 ho2
  go_wp2_with fail
  go_loopw [6, 8, 19] (fun v _ i wr => ∃ (k : Nat), k ≤ m ∧ i = .int .i64 k ∧ wr.ownsRow w2.heap.size 108 3 v k (gcells ((ugs bs m).take k)) ∧ Below w2.heap.size w2 wr) (fun _ _ i _ => m - (intOf i).toNat)
  case atStart => exact ⟨0, by omega, rfl, World.ownsRow_nil _ _ _ _, Below.refl _ _⟩
  case round =>
    obtain ⟨k, hk, rfl, hown, hbel⟩ := hrel
    have hsz := hbel.size
    have X5 := Lib.hid hown
    have X6 := Lib.hid hbel
    clear hown hbel
    by_cases hlt : k < m
    · have hrow := fun (W' : World) (hW : Below w2.heap.size w2 W') (j : Nat) (hj : j < 3 * m) => show W'.cell? ⟨g, j, none⟩ = some (.int .i64 (uf bs (4 * (j : Int)) 4)) from by
        rw [hW.cell (p := ⟨g, j, none⟩) hgl, O2.out.cellAt j (by omega), ints, List.getElem?_map, gWs, recs_four bs _ _ hj]; rfl
      have hat := ugs_at (bs := bs) hlt
      obtain ⟨x0, h0⟩ : ∃ x, uf bs (12 * (k : Int)) 4 = x := ⟨_, rfl⟩
      obtain ⟨x1, h1⟩ : ∃ x, uf bs (12 * (k : Int) + 4) 4 = x := ⟨_, rfl⟩
      obtain ⟨x2, h2⟩ : ∃ x, uf bs (12 * (k : Int) + 8) 4 = x := ⟨_, rfl⟩
      rw [h0, h1, h2] at hat
      have hsk : ∀ W', Below w2.heap.size w2 W' → W'.cell? ⟨g, 3 * k, none⟩ = some (.int .i64 x0) ∧ W'.cell? ⟨g, 3 * k + 1, none⟩ = some (.int .i64 x1) ∧ W'.cell? ⟨g, 3 * k + 2, none⟩ = some (.int .i64 x2) := fun W' hW => by
        have f0 := hrow W' hW (3 * k) (by omega)
        have f1 := hrow W' hW (3 * k + 1) (by omega)
        have f2 := hrow W' hW (3 * k + 2) (by omega)
        rw [show 4 * ((3 * k : Nat) : Int) = 12 * (k : Int) by omega, h0] at f0
        rw [show 4 * ((3 * k + 1 : Nat) : Int) = 12 * (k : Int) + 4 by omega, h1] at f1
        rw [show 4 * ((3 * k + 2 : Nat) : Int) = 12 * (k : Int) + 8 by omega, h2] at f2
        exact ⟨f0, f1, f2⟩
      have SK := Lib.hid hsk
      have HTK := Lib.hid (show (ugs bs m).take (k + 1) = (ugs bs m).take k ++ [(x0, x1, x2)] by rw [List.take_add_one, hat]; rfl)
      obtain ⟨f0, f1, f2⟩ := hsk wr X6.out
      clear hrow hat h0 h1 h2 hsk
      have e0 : IntKind.i64.wrap (3 * (k : Int)) = 3 * (k : Int) := by rw [IntKind.wrap_i64]; omega
      have e1 : IntKind.i64.wrap (3 * (k : Int) + 1) = 3 * (k : Int) + 1 := by rw [IntKind.wrap_i64]; omega
      have e2 : IntKind.i64.wrap (3 * (k : Int) + 2) = 3 * (k : Int) + 2 := by rw [IntKind.wrap_i64]; omega
      have b0 : (0 : Int) ≤ 3 * (k : Int) := by omega
      have b1 : (0 : Int) ≤ 3 * (k : Int) + 1 := by omega
      have b2 : (0 : Int) ≤ 3 * (k : Int) + 2 := by omega
      have b4 : 3 * (k : Int) + 1 < 3 * (m : Int) := by omega
      have b5 : 3 * (k : Int) + 2 < 3 * (m : Int) := by omega
      have t0 : (3 * (k : Int)).toNat = 3 * k := by omega
      have t1 : (3 * (k : Int) + 1).toNat = 3 * k + 1 := by omega
      have t2 : (3 * (k : Int) + 2).toNat = 3 * k + 2 := by omega
      go_wp2_with fail
      refine region_mix [true, true, true, true, true, true, true, true, true, true, true, true, true, true, true, true, true, true, true, false, false] (S := fun W' => W'.cell? ⟨g, 3 * k, none⟩ = some (.int .i64 x0) ∧ W'.cell? ⟨g, 3 * k + 1, none⟩ = some (.int .i64 x1) ∧ W'.cell? ⟨g, 3 * k + 2, none⟩ = some (.int .i64 x2)) (by kernel_rfl) (by kernel_rfl) (fun _ _ d _ _ h => by cases d <;> exact h) ⟨f0, f1, f2⟩ ?_
      iterate 19 (refine mix_take (v := ?_) (by kernel_rfl) ?_ (fun K hK => ?_); rotate_left; (· (intro w' hSw; (try dsimp only at hSw); go_simp; with_reducible rfl)); simp only [Act.put, List.setIfInBounds_toArray, List.set_cons_zero, List.set_cons_succ]; refine hK _ ?_; clear hK K)
      refine mix_do (E := False) (fun K hK => ?_) (by kernel_rfl)
      go_simp
      have B7 := Lib.hid (X6.out.alloc hsz (.cells #[.int .i64 x0, .int .i64 x1, .int .i64 x2] 108)).drew
      have O7 := Lib.hid (show (wr.alloc (.cells #[.int .i64 x0, .int .i64 x1, .int .i64 x2] 108)).drew.ownsRow w2.heap.size 108 3 u6 k (gcells ((ugs bs m).take k)) from X5.out.alloc _)
      have L7 := Lib.hid (show RowAt (wr.alloc (.cells #[.int .i64 x0, .int .i64 x1, .int .i64 x2] 108)).drew (some ⟨wr.heap.size, 0, none⟩) (1 * 3) (gcells [(x0, x1, x2)]) from lit_rowN wr 108 (gcells [(x0, x1, x2)]) 3 wr.heap.size rfl rfl)
      refine hK.out _ _ (SK.out _ B7.out) ?_
      clear hK K
      try simp only [Act.put, List.setIfInBounds_toArray, List.set_cons_zero, List.set_cons_succ]
      refine mix_do (E := False) (fun K hK => ?_) (by kernel_rfl)
      refine step_app_gen _ 45 108 (.agg #[.int .i64 0, .int .i64 0, .int .i64 0]) 3 24 Try.underlying45 infoGrp rfl (by decide) rfl (.tmp 22) (.tmp 41) rfl w2.heap.size u6 k (gcells ((ugs bs m).take k)) rfl O7.out ⟨wr.heap.size, 0, none⟩ 1 1 (gcells [(x0, x1, x2)]) rfl L7.out (one_gcells _) (by unfold maxLen; omega) (by omega) (by simp; omega) ?_
      intro v' w4 hown4 hg4
      have B8 := Lib.hid (below_row B7.out hg4 (fun g e => (O7.out.lt g e).1) (by simp; omega))
      have own4 := Lib.hid hown4
      clear hown4 hg4 f0 f1 f2
      refine hK.out _ _ (SK.out _ B8.out) ?_
      clear hK K
      try simp only [Act.put, List.setIfInBounds_toArray, List.set_cons_zero, List.set_cons_succ]
      refine mix_still ?_
      iterate 1 (refine still_take (v := ?_) (by kernel_rfl) ?_ (fun K hK => ?_); rotate_left; (· (go_simp; with_reducible rfl)); simp only [Act.put, List.setIfInBounds_toArray, List.set_cons_zero, List.set_cons_succ]; refine hK _ ?_; clear hK K)
      refine still_end ?_
      go_wp2_with fail
      go_roundw
      case rel => exact ⟨k + 1, by omega, by go_num, by rw [HTK.out, gcells_snoc]; exact own4.out, B8.out⟩
      case measure => simp [intOf]; omega
    · obtain rfl : k = m := by omega
      have htk : (ugs bs k).take k = ugs bs k := List.take_of_length_le (by rw [ugs_length]; exact Nat.le_refl _)
      have hown := X5.out
      rw [htk] at hown
      have OW := Lib.hid hown
      obtain ⟨A4, c4, rfl, hr4, _, hm4, _, _⟩ := own_sliceN hown
      have R4 := Lib.hid hr4
      have B9 := Lib.hid (below_all B2.out B2.out.size X6.out)
      have HB9 := Lib.hid (HB.out.below B9.out)
      clear htk hown hr4
      have hP := packGroups_any A4 k c4 (ugs bs k) wr (by omega) R4.out
      have HP := Lib.hid hP
      clear hP
      cases hu : gsOk (ugs bs k)
      · have e1 : gE (ugs bs k) = 22 := by simp [gE, hu]
        have huo : ugOk bs k = false := by simp [ugOk, hu]
        have E1 := Lib.hid e1
        have HE := Lib.hid (show ugE bs k = 117 by simp [ugE, huo, HG.out])
        have HX := Lib.hid (show ugX bs k = [] by simp [ugX, huo])
        clear e1 huo hu
        go_wp2_with fail
        refine HP.out.mono ?_
        rintro e w5 ⟨v5, rfl, hb5, ho5⟩
        rw [E1.out]
        have B10 := Lib.hid (below_all B9.out B9.out.size hb5)
        clear hb5 ho5
        go_wp2_with fail
        go_ret2
        refine ⟨_, by rw [HE.out]; rfl, B10.out, ?_⟩
        rw [HX.out]
        exact World.ownsRow_nil _ _ _ _
      · have e1 : gE (ugs bs k) = 0 := by simp [gE, hu]
        have E1 := Lib.hid e1
        clear e1
        cases hq : (bs == gB (ugs bs k))
        · have huo : ugOk bs k = false := by simp only [ugOk, Int.toNat_natCast, hu, hq, Bool.and_false]
          have HE := Lib.hid (show ugE bs k = 117 by simp [ugE, huo, HG.out])
          have HX := Lib.hid (show ugX bs k = [] by simp [ugX, huo])
          have HQ := Lib.hid hq
          clear huo hu hq
          go_wp2_with fail
          refine HP.out.mono ?_
          rintro e w5 ⟨v5, rfl, hb5, ho5⟩
          rw [E1.out]
          have B10 := Lib.hid (below_all B9.out B9.out.size hb5)
          obtain ⟨A6, c6, rfl, hr6, _, _, _, _⟩ := own_slice ho5
          have R6 := Lib.hid hr6
          have HB10 := Lib.hid (HB9.out.below hb5)
          clear hb5 ho5 hr6
          go_wp2_with fail
          refine (equal_any A A6 len _ cap c6 bs _ w5 HB10.out R6.out).mono ?_
          rintro e w' ⟨rfl, rfl⟩
          rw [HQ.out]
          go_wp2_with fail
          go_ret2
          refine ⟨_, by rw [HE.out]; rfl, B10.out, ?_⟩
          rw [HX.out]
          exact World.ownsRow_nil _ _ _ _
        · have huo : ugOk bs k = true := by simp only [ugOk, Int.toNat_natCast, hu, hq, HG.out]; rfl
          have HE := Lib.hid (show ugE bs k = 0 by simp [ugE, huo, HG.out])
          have HX := Lib.hid (show ugX bs k = ugs bs k by simp [ugX, huo])
          have HQ := Lib.hid hq
          clear huo hu hq
          go_wp2_with fail
          refine HP.out.mono ?_
          rintro e w5 ⟨v5, rfl, hb5, ho5⟩
          rw [E1.out]
          have B10 := Lib.hid (below_all B9.out B9.out.size hb5)
          have OW5 := Lib.hid (own_mono (own_belowN OW.out hb5) B2.out.size)
          obtain ⟨A6, c6, rfl, hr6, _, _, _, _⟩ := own_slice ho5
          have R6 := Lib.hid hr6
          have HB10 := Lib.hid (HB9.out.below hb5)
          clear hb5 ho5 hr6
          go_wp2_with fail
          refine (equal_any A A6 len _ cap c6 bs _ w5 HB10.out R6.out).mono ?_
          rintro e w' ⟨rfl, rfl⟩
          rw [HQ.out]
          go_wp2_with fail
          go_ret2
          refine ⟨_, by rw [HE.out]; rfl, B10.out, ?_⟩
          rw [HX.out, ugs_length]
          exact OW5.out

theorem unpackGroups_any (A : Option Addr) (len cap : Nat) (n : Int) (bs : List UInt8) (w : World) (hl : len ≤ cap) (hc : cap ≤ 9223372036854775807) (hb : BytesAt w A len bs) :
    Calls Try.prog 29 #[.slice A len cap, .int .i64 n] w fun e w' => ∃ v, e = .returned (.tuple #[v, .int .i64 (ugE bs n)]) ∧ Below w.heap.size w w' ∧ w'.ownsRow w.heap.size 108 3 v (ugX bs n).length (gcells (ugX bs n)) := by
  cases hg : rg n 1 14
  · have e1 : ugE bs n = 22 := by simp [ugE, hg]
    have e2 : ugX bs n = [] := by simp [ugX, ugOk, hg]
    rw [e1, e2]
    exact (unpackGroups_no A len cap n w hg).mono fun e w' ⟨he, hb⟩ => ⟨_, he, hb, World.ownsRow_nil _ _ _ _⟩
  · obtain ⟨m, rfl⟩ := Int.eq_ofNat_of_zero_le (show 0 ≤ n by have := rg_true hg; omega)
    exact unpackGroups_in A len cap m bs w hl hc hb hg
end Go.Proofs.Ytafonjnanfekkaa.Lay
