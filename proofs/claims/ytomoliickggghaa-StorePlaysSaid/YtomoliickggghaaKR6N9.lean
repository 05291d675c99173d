
/-
  layer 2 (disk): copied, copies, Pending.
  layer 6's laws: a row of Booleans that is set; what is brought home.
-/
import Derived.Test.YtomoliickggghaaKR6N8
namespace Go.Proofs.Ytomoliickggghaa.Mem
open Go.RowKit Go.Proofs.Ytomoliickggghaa Go.Proofs.Ytomoliickggghaa.Wire
set_option maxHeartbeats 8000000
set_option maxRecDepth 100000
set_option linter.unusedVariables false
set_option linter.unusedSimpArgs false

theorem copied_any (w : World) (n : Int) (g cap : Nat) (bs : Bytes) (hy : BytesAt w (some ⟨g, 0, none⟩) 256 bs) :
    Calls Try.prog 51 #[.agg #[.int .i64 n, .slice (some ⟨g, 0, none⟩) 256 cap]] w fun e w' => ∃ g' cap', e = .returned (.agg #[.int .i64 n, .slice (some ⟨g', 0, none⟩) 256 cap']) ∧ Below w.heap.size w w' ∧ w'.ownsRow w.heap.size 5 1 (.slice (some ⟨g', 0, none⟩) 256 cap') 256 (bvl bs) := by
  have HY := Lib.hid hy
  obtain ⟨w1, hw1⟩ : ∃ w1, (w.alloc (.cells #[.int .i64 n, .slice (some ⟨g, 0, none⟩) 256 cap] 51)).alloc (.cells #[.int .i64 0, .slice none 0 0] 51) = w1 := ⟨_, rfl⟩
  have HW1 := Lib.hid hw1
  have K0 := Lib.hid (show Blk w1 w.heap.size 51 #[.int .i64 n, .slice (some ⟨g, 0, none⟩) 256 cap] by rw [← hw1]; exact (Blk.new w _ _).alloc _)
  have K1 := Lib.hid (show Blk w1 (w.heap.size + 1) 51 #[.int .i64 0, .slice none 0 0] by
    rw [← hw1]
    have := Blk.new (w.alloc (.cells #[.int .i64 n, .slice (some ⟨g, 0, none⟩) 256 cap] 51)) 51 #[.int .i64 0, .slice none 0 0]
    simpa using this)
  have B1 := Lib.hid (show Below w.heap.size w w1 by rw [← hw1]; exact (((Below.refl w.heap.size w).alloc (Nat.le_refl _) _).alloc (by simp) _))
  clear hy hw1
  go_enter Try.func51, Try.ntmps51
  go_wp2_with (first | rw [HW1.out] | fail)
  obtain ⟨s1, hs1⟩ : ∃ s1, w.heap.size + 1 = s1 := ⟨_, rfl⟩
  rw [hs1] at K1
  rw [hs1]
  have hs1' : w.heap.size < s1 := by omega
  clear hs1
  refine region_mix [true, true, true, true, false, true, false] (S := fun w' => w'.cell? ⟨w.heap.size, 0, none⟩ = some (.int .i64 n) ∧ w'.cell? ⟨w.heap.size, 1, none⟩ = some (.slice (some ⟨g, 0, none⟩) 256 cap)) (by kernel_rfl) (by kernel_rfl) (fun _ _ d _ _ h => by cases d <;> exact h) ⟨K0.out.cell 0, K0.out.cell 1⟩ ?_
  iterate 4 (refine mix_take (v := ?_) (by kernel_rfl) ?_ (fun K hK => ?_); rotate_left; (· (intro w' hSw; (try dsimp only at hSw); go_simp; with_reducible rfl)); simp only [Act.put, List.setIfInBounds_toArray, List.set_cons_zero, List.set_cons_succ]; refine hK _ ?_; clear hK K)
  refine mix_do (E := False) (fun K hK => ?_) (by kernel_rfl)
  go_simp
  refine (Bits.clone_any (some ⟨g, 0, none⟩) 256 cap bs _ (by omega) (fun e => by cases e) ((HY.out.below B1.out).drew)).mono ?_
  rintro e w2 ⟨v2, rfl, b2, o2⟩
  obtain ⟨g2, c2, _, rfl, hg2, _⟩ := own_form o2 (by omega)
  have K02 := Lib.hid (K0.out.drew.belowAll b2)
  have K12 := Lib.hid (K1.out.drew.belowAll b2)
  have B2 := Lib.hid (below_all (B1.out) B1.out.size (show Below w1.heap.size w1 w2 from ⟨b2.os, b2.tape, b2.output, b2.size, b2.block⟩))
  have O2 := Lib.hid o2
  have hlt1 : s1 < w1.heap.size := K1.out.lt
  clear b2 o2
  refine hK.out _ _ (⟨K02.out.cell 0, K02.out.cell 1⟩) ?_
  clear hK K
  try simp only [Act.put, List.setIfInBounds_toArray, List.set_cons_zero, List.set_cons_succ]
  iterate 1 (refine mix_take (v := ?_) (by kernel_rfl) ?_ (fun K hK => ?_); rotate_left; (· (intro w' hSw; (try dsimp only at hSw); go_simp; with_reducible rfl)); simp only [Act.put, List.setIfInBounds_toArray, List.set_cons_zero, List.set_cons_succ]; refine hK _ ?_; clear hK K)
  have d0 : w2.cell? ⟨s1, 0, none⟩ = some (.int .i64 0) := K12.out.cell 0
  have d1 : w2.cell? ⟨s1, 1, none⟩ = some (.slice none 0 0) := K12.out.cell 1
  have f0 : w2.frozen? ⟨s1, 0, none⟩ = false := K12.out.frozen 0
  have f1 : w2.frozen? ⟨s1, 1, none⟩ = false := K12.out.frozen 1
  refine mix_do (E := False) (fun K hK => ?_) (by kernel_rfl)
  go_simp
  have K13 := Lib.hid ((K12.out.set_ 0 (.int .i64 n)).set_ 1 (.slice (some ⟨g2, 0, none⟩) 256 c2))
  have K03 := Lib.hid ((K02.out.far (p := ⟨s1, 0, none⟩) (by show w.heap.size ≠ s1; omega) (.int .i64 n)).far (p := ⟨s1, 1, none⟩) (by show w.heap.size ≠ s1; omega) (.slice (some ⟨g2, 0, none⟩) 256 c2))
  have B3 := Lib.hid ((B2.out.setCell (p := ⟨s1, 0, none⟩) (Nat.le_of_lt hs1') (.int .i64 n)).setCell (p := ⟨s1, 1, none⟩) (Nat.le_of_lt hs1') (.slice (some ⟨g2, 0, none⟩) 256 c2))
  have hg3 : w1.drew.heap.size = w1.heap.size := rfl
  have hne : (Value.slice (some ⟨g2, 0, none⟩) 256 c2).ownBlock ≠ some s1 := fun e => by
    have e2 : g2 = s1 := by injection e
    omega
  have O3 := Lib.hid (own_mono (own_grown O2.out (only_setCell (only_setCell (World.grownBy.refl w2 (some s1)) (p := ⟨s1, 0, none⟩) (.inl rfl) (.int .i64 n)) (p := ⟨s1, 1, none⟩) (.inl rfl) (.slice (some ⟨g2, 0, none⟩) 256 c2)) hne) (show w.heap.size ≤ w1.drew.heap.size by rw [hg3]; exact B1.out.size))
  refine hK.out _ _ (⟨K03.out.cell 0, K03.out.cell 1⟩) ?_
  clear hK K
  try simp only [Act.put, List.setIfInBounds_toArray, List.set_cons_zero, List.set_cons_succ]
  refine mix_end ?_
  generalize (w2.setCell ⟨s1, 0, none⟩ (.int .i64 n)).setCell ⟨s1, 1, none⟩ (.slice (some ⟨g2, 0, none⟩) 256 c2) = wf at *
  go_wp2_with fail
  refine bodyPost_ret (results_cell_row (P := Try.prog) (fn := Try.f51) (p := 2) (ty := 51) rfl _ wf s1 51 #[.int .i64 n, .slice (some ⟨g2, 0, none⟩) 256 c2] (0, 0) _ rfl K13.out Try.underlying51 rfl (by kernel_rfl)) rfl ?_
  exact ⟨g2, c2, rfl, B3.out, O3.out⟩
theorem Wr.at_ {w : World} {col : Col} {B r i cap : Nat} {A : Option Addr} {l : List (Int × Bytes)} {n : Int} {bs : Bytes} (h : Wr w col B r (.slice A l.length cap) l) (hi : l[i]? = some (n, bs)) :
    ∃ g g2 c2, A = some ⟨g, 0, none⟩ ∧ w.cell? ⟨g, i * 2, none⟩ = some (.int .i64 n) ∧ w.cell? ⟨g, i * 2 + 1, none⟩ = some (.slice (some ⟨g2, 0, none⟩) 256 c2) ∧ BytesAt w (some ⟨g2, 0, none⟩) 256 bs := by
  obtain ⟨vs, h1, h2, h3⟩ := h.ex
  have hlt := (List.getElem?_eq_some_iff.1 hi).1
  have hl : vs.length = l.length := by have := congrArg List.length h2; simpa using this
  obtain ⟨x, hx⟩ : ∃ x, vs[i]? = some x := ⟨_, List.getElem?_eq_getElem (by omega)⟩
  have hxn : x.1 = n := by
    have e1 : (vs.map (·.1))[i]? = some x.1 := by rw [List.getElem?_map, hx]; rfl
    rw [h2, List.getElem?_map, hi] at e1
    injection e1 with e1
    exact e1.symm
  obtain ⟨k0, k1⟩ := wcells_at vs i x hx
  have hr := h3 i x _ hx hi
  obtain ⟨A', cap', hv, _, _, _, hA'⟩ := row_len h1
  injection hv with hv1 _ hv3
  obtain ⟨g, hg, hc, _⟩ := hA' (by omega)
  subst hv1
  subst hg
  obtain ⟨g2, c2, hxv, hby, _⟩ := hr.form
  rw [hxv] at k1
  refine ⟨g, g2, c2, rfl, ?_, ?_, hby⟩
  · rw [← hxn, h1.own.cellAt _ (by omega)]; exact k0
  · rw [h1.own.cellAt _ (by omega)]; exact k1
theorem Wr.form {w : World} {col : Col} {B r : Nat} {v : Value} {l : List (Int × Bytes)} (h : Wr w col B r v l) : ∃ A cap, v = .slice A l.length cap ∧ l.length ≤ cap ∧ cap ≤ 9223372036854775807 := by
  obtain ⟨vs, h1, _⟩ := h.ex
  obtain ⟨A, cap, hv, _, h3, h4, _⟩ := row_len h1
  exact ⟨A, cap, hv, h3, h4⟩
theorem copies_any (w : World) (col : Col) (B r : Nat) (v : Value) (l : List (Int × Bytes)) (h : Wr w col B r v l) (hr : 16 ≤ r) (hl0 : l.length ≤ 1000000000) (ht0 : ∀ b, w.heap.size ≤ b → col b = 0) :
    Calls Try.prog 50 #[v, .func (.func 51) #[] #[]] w fun e w' => ∃ v col', e = .returned v ∧ Tch 16 16 col col' w w' ∧ WrO w' col' w.heap.size v l := by
  obtain ⟨A, cap, rfl, hlc, hcm⟩ := h.form
  have HR := Lib.hid h
  obtain ⟨len, hlen⟩ : ∃ len, l.length = len := ⟨_, rfl⟩
  have HL := Lib.hid hlen
  rw [hlen] at hlc hl0
  clear h
  rw [hlen]
  clear hlen
  go_enter Try.func50, Try.ntmps50
  go_wp2_with fail
  go_loopw [5, 7, 10] (fun oo _ ii wr => ∃ (j : Nat) (vs : List (Int × Value)) (colr : Col) (vo : Value), vo = oo ∧ j ≤ len ∧ ii = .int .i64 j ∧ Row wr colr w.heap.size 2 51 2 vo j (wcells vs) ∧ vs.map (·.1) = (l.take j).map (·.1) ∧ (∀ (i : Nat) (p : Int × Value) (q : Int × Bytes), vs[i]? = some p → l[i]? = some q → Row wr colr w.heap.size 3 5 1 p.2 256 (bvl q.2)) ∧ Tch 2 4 col colr w wr ∧ Below w.heap.size w wr ∧ (∀ g, g < w.heap.size → colr g = col g)) (fun _ _ ii _ => len - (intOf ii).toNat)
  case atStart => exact ⟨0, [], col, _, rfl, by omega, rfl, Row.nil _ _ _ _ _ _, rfl, (fun i p q h => by cases h), Tch.refl _ _ _ _, Below.refl _ _, (fun _ _ => rfl)⟩
  case round =>
    obtain ⟨j, vs, colr, vo, rfl, hj, rfl, h1, h2, h3, h4, h5, h6⟩ := hrel
    have R1 := Lib.hid h1
    have R2 := Lib.hid h2
    have R3 := Lib.hid h3
    have T4 := Lib.hid h4
    have B4 := Lib.hid h5
    have C4 := Lib.hid h6
    have VL := Lib.hid (show vs.length = j by have := h1.own.1; rw [wcells_length] at this; omega)
    clear h1 h2 h3 h4 h5 h6
    have TF := Lib.hid (T4.out.fresh (by omega) B4.out C4.out)
    by_cases hlt : j < len
    · have HRJ := HR.out.keep TF.out (by omega) (by omega)
      obtain ⟨⟨k, bs⟩, hk⟩ : ∃ x, l[j]? = some x := ⟨_, List.getElem?_eq_getElem (by rw [HL.out]; exact hlt)⟩
      obtain ⟨gl, g, c, rfl, k0, k1, hby⟩ := HRJ.at_ hk
      have HK := Lib.hid hk
      obtain ⟨wa, hwa⟩ : ∃ wa, wr.alloc (.cells #[.int .i64 k, .slice (some ⟨g, 0, none⟩) 256 c] 51) = wa := ⟨_, rfl⟩
      have BA := Lib.hid (show Below wr.heap.size wr wa from hwa ▸ (Below.refl wr.heap.size wr).alloc (Nat.le_refl _) _)
      have a0 : wa.cell? ⟨wr.heap.size, 0, none⟩ = some (.int .i64 k) := by rw [← hwa]; exact (Blk.new wr _ _).cell 0
      have a1 : wa.cell? ⟨wr.heap.size, 1, none⟩ = some (.slice (some ⟨g, 0, none⟩) 256 c) := by rw [← hwa]; exact (Blk.new wr _ _).cell 1
      have HWA := Lib.hid hwa
      have HC := Lib.hid (copied_any wa k g c bs (hby.below BA.out))
      have hji : (j : Int) < (len : Int) := by omega
      clear hk HRJ hwa hby
      go_wp2_with (first | rw [HWA.out] | fail)
      refine HC.out.mono ?_
      rintro e w5 ⟨g5, cap5, rfl, b5', o5⟩
      have b5 := below_all BA.out BA.out.size b5'
      have hg5 : wa.heap.size ≤ g5 ∧ g5 < w5.heap.size := o5.lt g5 rfl
      have hg5' : wr.heap.size ≤ g5 := Nat.le_trans BA.out.size hg5.1
      obtain ⟨col5, hcol5⟩ : ∃ col5, col5 = paint colr g5 3 := ⟨_, rfl⟩
      have t5 : Tch 16 16 colr col5 wr w5 := by rw [hcol5]; exact (Tch.of_below b5).paint hg5' hg5.2 (by omega)
      have hws : w.heap.size ≤ wr.heap.size := T4.out.size
      have c5 : ∀ g, g < w.heap.size → col5 g = colr g := fun g hg => by rw [hcol5, paint_other (by omega)]
      have D5 := Lib.hid (show Row w5 col5 w.heap.size 3 5 1 (.slice (some ⟨g5, 0, none⟩) 256 cap5) 256 (bvl bs) from ⟨own_mono o5 (Nat.le_trans hws BA.out.size), fun g e => by injection e with e; subst e; rw [hcol5, paint_self]⟩)
      obtain ⟨w6, hw6⟩ : ∃ w6, w5.alloc (.cells #[.int .i64 k, .slice (some ⟨g5, 0, none⟩) 256 cap5] 51) = w6 := ⟨_, rfl⟩
      have t6 : Tch 16 16 col5 col5 w5 w6 := by rw [← hw6]; exact (Tch.refl _ _ _ _).alloc _
      have X6 := Lib.hid (show RowAt w6 (some ⟨w5.heap.size, 0, none⟩) (1 * 2) [.int .i64 k, .slice (some ⟨g5, 0, none⟩) 256 cap5] by rw [← hw6]; exact lit_rowN w5 51 [.int .i64 k, .slice (some ⟨g5, 0, none⟩) 256 cap5] (1 * 2) w5.heap.size rfl rfl)
      have t56 := t5.trans t6
      have T56 := Lib.hid t56
      have B6 := Lib.hid (show Below w.heap.size wr w6 from ⟨t56.os, t56.tape, t56.output, t56.size, fun i hi => t56.block i (by omega) (by omega)⟩)
      have O6 := Lib.hid (R1.out.keep t56 (by omega))
      have D6 := Lib.hid (D5.out.keep t6 (by omega))
      have C5 := Lib.hid c5
      have HW6 := Lib.hid hw6
      have hB6 : w.heap.size ≤ w6.heap.size := Nat.le_trans hws t56.size
      clear t5 t6 t56 hw6 b5 b5' o5 hcol5 HC c5
      go_wp2_with (first
        | (at_builtin
           rw [HW6.out]
           refine app_row_by _ 37 51 (.agg #[.int .i64 0, .slice none 0 0]) 2 32 Try.underlying37 infoWrite rfl (by decide) rfl (.tmp 14) (.tmp 18) rfl col5 w.heap.size 2 2 3 vo j (wcells vs) rfl O6.out ⟨by omega, by omega⟩ ⟨w5.heap.size, 0, none⟩ 1 1 [.int .i64 k, .slice (some ⟨g5, 0, none⟩) 256 cap5] rfl X6.out (by intro u hu; simp at hu; rcases hu with rfl | rfl <;> rfl) (by unfold maxLen; omega) (by omega) hB6 ?_
           intro v7 w7 col7 r7 t7 b7 c7
           obtain ⟨g7, cap7, cur7, rfl, _⟩ := own_formN r7.own (by omega)
           have e7 : wcells vs ++ [.int .i64 k, .slice (some ⟨g5, 0, none⟩) 256 cap5] = wcells (vs ++ [(k, Value.slice (some ⟨g5, 0, none⟩) 256 cap5)]) := by rw [wcells_append]; rfl
           rw [e7] at r7
           have F1 := Lib.hid r7
           have F2 := Lib.hid (show (vs ++ [(k, Value.slice (some ⟨g5, 0, none⟩) 256 cap5)]).map (·.1) = (l.take (j + 1)).map (·.1) by rw [List.map_append, R2.out, List.take_add_one, HK.out, List.map_append]; rfl)
           have F3 := Lib.hid (show ∀ (i : Nat) (p : Int × Value) (q : Int × Bytes), (vs ++ [(k, Value.slice (some ⟨g5, 0, none⟩) 256 cap5)])[i]? = some p → l[i]? = some q → Row w7 col7 w.heap.size 3 5 1 p.2 256 (bvl q.2) from fun i p q hp hq => by
             rcases Nat.lt_or_ge i vs.length with hi | hi
             · rw [List.getElem?_append_left hi] at hp
               exact ((R3.out i p q hp hq).keep T56.out (by omega)).keep t7 (by omega)
             · rw [List.getElem?_append_right hi] at hp
               have hz : i - vs.length = 0 := by
                 have := (List.getElem?_eq_some_iff.1 hp).1
                 simp at this; omega
               rw [hz] at hp
               injection hp with hp
               subst hp
               obtain rfl : i = j := by have := VL.out; omega
               rw [HK.out] at hq
               injection hq with hq
               subst hq
               exact D6.out.keep t7 (by omega))
           have F4 := Lib.hid ((T4.out.trans (T56.out.any (Nat.le_refl _))).trans (t7.mono (by omega) (by omega)))
           have F5 := Lib.hid ((B4.out.trans B6.out).trans b7)
           have F6 := Lib.hid (show ∀ g, g < w.heap.size → col7 g = col g from fun g hg => by rw [c7 g hg, C5.out g hg, C4.out g hg])
           clear r7 t7 b7 c7 e7)
        | fail)
      go_roundw
      case rel => exact ⟨j + 1, _, col7, _, rfl, by omega, by go_num, F1.out, F2.out, F3.out, F4.out, F5.out, F6.out⟩
      case measure => simp [intOf]; omega
    · obtain rfl : j = len := by omega
      have FIN := Lib.hid (show WrO wr colr w.heap.size vo l from by
        refine ⟨vs, by rw [HL.out]; exact R1.out, by rw [R2.out, List.take_of_length_le (by rw [HL.out]; exact Nat.le_refl _)], R3.out⟩)
      go_wp2_with fail
      go_ret
      exact ⟨_, colr, rfl, TF.out, FIN.out⟩
def DPending (w : World) (col : Col) (l : List (Int × Bytes)) (e : Ending) (w' : World) : Prop := ∃ v col', e = .returned v ∧ Tch 16 16 col col' w w' ∧ WrO w' col' w.heap.size v l
theorem dpending_any (w : World) (col : Col) (B c p : Nat) (S : DS) (h : DiskAt w col B c p S) (ht0 : ∀ b, w.heap.size ≤ b → col b = 0) :
    Calls Try.prog 25 #[ptr p] w fun e w' => DPending w col S.pend e w' := by
  have HB := Lib.hid (blocks_any w col B c p S h)
  have hN : (((S.N : Nat) : Int) == 0) = false := by have := h.n; simp; omega
  obtain ⟨bd, bn, vp, h1, _, _, h4⟩ := h.ex
  have c2 : w.cell? ⟨p, 2, none⟩ = some vp := h1.blk.cell 2
  have c0 : w.cell? ⟨p, 0, none⟩ = some (.int .i64 S.N) := h1.blk.cell 0
  have HC := Lib.hid (copies_any w col B (c + 3) vp S.pend h4 (by have := h.lo; omega) (by have := h.room; omega) ht0)
  obtain ⟨A, cap, rfl, _⟩ := h4.form
  generalize S.N = N at *
  clear h h1 h4
  unfold ptr at *
  go_enter Try.func25, Try.ntmps25
  go_wp2_with fail
  refine HB.out.mono ?_
  rintro e w' ⟨rfl, rfl⟩
  go_wp2_with fail
  refine HC.out.mono ?_
  rintro e w2 ⟨v, col2, rfl, ht, hw⟩
  obtain ⟨A2, c2', rfl, _⟩ := hw.form
  go_wp2_with fail
  go_ret
  exact ⟨_, col2, rfl, ht, hw⟩
end Go.Proofs.Ytomoliickggghaa.Mem

namespace Go.Proofs.Ytomoliickggghaa.Mem
open Go.RowKit Go.Proofs.Ytomoliickggghaa Go.Proofs.Ytomoliickggghaa.Wire
set_option maxHeartbeats 8000000
set_option maxRecDepth 100000
set_option linter.unusedVariables false
set_option linter.unusedSimpArgs false

def falses (n : Nat) : Array Value := (List.replicate n (Value.bool false)).toArray
theorem made_falses (n : Nat) : madeCells (Value.bool false).cells n = falses n := by
  apply Array.ext
  · rw [size_madeCells]; simp [falses]
  · intro i h1 h2
    simp [madeCells, falses, Value.cells, Nat.mod_one]
theorem make_falses (N : Nat) (hN : N ≤ 1048576) (w : World) :
    (Instr.makeSlice 45 (.int .i64 (N : Int)) (.int .i64 (N : Int))).run Try.prog w = .ok (.slice (some ⟨w.heap.size, 0, none⟩) N N) (w.alloc (.cells (falses N) 4)) := by
  obtain ⟨i0, hi, hz0, hz1, hz2⟩ := info_parts info_bool
  have := run_make (P := Try.prog) w 45 4 i0 (.bool false) Try.underlying45 hi hz0 .i64 .i64 N N (by omega) (by omega) (by rw [hz2]; omega) (by omega)
  rw [hz1, Nat.mul_one, Int.toNat_natCast, made_falses] at this
  exact this
theorem bools_false (n : Nat) : bools (fun _ => false) n = List.replicate n (Value.bool false) := by
  unfold bools
  apply List.ext_getElem?
  intro i
  rw [List.getElem?_map, List.getElem?_replicate]
  by_cases h : i < n
  · rw [List.getElem?_range h, if_pos h]; rfl
  · rw [if_neg h, List.getElem?_eq_none (by simpa using h)]; rfl
theorem bools_set (f : Nat → Bool) (n k : Nat) (b : Bool) : (bools f n).set k (.bool b) = bools (fun i => if i = k then b else f i) n := by
  apply List.ext_getElem?
  intro i
  rw [List.getElem?_set, bools_len]
  by_cases h : k = i
  · subst h
    rw [if_pos rfl]
    split
    · rename_i hk; rw [bools_at _ hk, if_pos rfl]
    · rename_i hk; rw [List.getElem?_eq_none (by rw [bools_len]; omega)]
  · rw [if_neg h]
    rcases Nat.lt_or_ge i n with hi | hi
    · rw [bools_at _ hi, bools_at _ hi, if_neg (fun e => h e.symm)]
    · rw [List.getElem?_eq_none (by rw [bools_len]; omega), List.getElem?_eq_none (by rw [bools_len]; omega)]
/-- A law's own row of Booleans, made. -/
theorem bools_new {w : World} {col : Col} {B : Nat} (n : Nat) (hB : B ≤ w.heap.size) (hn : n ≤ 1048576) (w' : World) (hw : w.alloc (.cells (falses n) 4) = w') :
    ∃ col', Tch 16 16 col col' w w' ∧ Row w' col' B 6 4 1 (.slice (some ⟨w.heap.size, 0, none⟩) n n) n (bools (fun _ => false) n) := by
  refine ⟨paint col w.heap.size 6, ?_, ?_, fun g hg => ?_⟩
  · rw [← hw]
    exact ((Tch.refl _ _ _ _).alloc _).paint (Nat.le_refl _) (by simp) (by omega)
  · have := World.ownsRow_lit (base := B) (e := 4) (size := 1) w (falses n) n hB (by unfold maxLen; omega) (by simp [falses])
    rw [← hw, bools_false]
    exact this
  · injection hg with hg; subst hg; exact paint_self _ _ _
theorem bools_put {w : World} {a : Col} {B g n k : Nat} {f : Nat → Bool} (h : Row w a B 6 4 1 (.slice (some ⟨g, 0, none⟩) n n) n (bools f n)) (b : Bool) :
    Row (w.setCell ⟨g, k, none⟩ (.bool b)) a B 6 4 1 (.slice (some ⟨g, 0, none⟩) n n) n (bools (fun i => if i = k then b else f i) n) ∧ Tch 6 7 a a w (w.setCell ⟨g, k, none⟩ (.bool b)) := by
  have h1 := h.stored k (.bool b)
  rw [bools_set] at h1
  exact ⟨h1, (Tch.refl _ _ _ _).setCell (p := ⟨g, k, none⟩) (by have := h.c g rfl; show 6 ≤ a g ∧ a g < 7; omega) _⟩

/-! ### what is brought home -/
/-- A store from which the first i of some waiting blocks were brought home. -/
structure Homed (S0 S : SS) (i : Nat) : Prop where
  chg : ∀ k, S.chg k = none
  wait : ∀ k, S.wait k = if k ∈ (keysOf 128 S0.wait).take i then none else S0.wait k
  n : S.d.N = S0.d.N
  pend : S.d.pend.length = S0.d.pend.length + i
  ops : S.d.ops = S0.d.ops + i
  cnt : S.cnt = S0.cnt
  at_ : S.d.at_ = S0.d.at_
theorem Homed.start {S0 : SS} (h : ∀ k, S0.chg k = none) : Homed S0 S0 0 := ⟨h, fun k => by simp, rfl, rfl, rfl, rfl, rfl⟩
theorem keysOf_nodup {α : Type} (N : Nat) (f : Int → Option α) : (keysOf N f).Nodup := (keysOf_lt N f).imp fun h => by omega
theorem Homed.next {S0 S : SS} {i : Nat} {n : Int} (h : Homed S0 S i) (hn : (keysOf 128 S0.wait)[i]? = some n) (hN : S0.d.N = 128) : S.homeE n = 0 ∧ Homed S0 (S.home n) (i + 1) := by
  have hm := List.mem_of_getElem? hn
  obtain ⟨hr, hs⟩ := keysOf_mem.1 hm
  have hnot : n ∉ (keysOf 128 S0.wait).take i := fun hin => by
    obtain ⟨j, hj⟩ := List.getElem?_of_mem hin
    rw [List.getElem?_take] at hj
    split at hj
    · rename_i hji
      have hl := (List.getElem?_eq_some_iff.1 hn).1
      have hlj := (List.getElem?_eq_some_iff.1 hj).1
      have e1 := (List.getElem?_eq_some_iff.1 hn).2
      have e2 := (List.getElem?_eq_some_iff.1 hj).2
      have := List.pairwise_iff_getElem.1 (keysOf_lt 128 S0.wait) j i hlj hl hji
      rw [e1, e2] at this
      omega
    · cases hj
  have hw : S.wait n = S0.wait n := by rw [h.wait, if_neg hnot]
  have hhas : S.has n = true := by unfold SS.has; rw [h.n, hN]; exact decide_eq_true hr
  obtain ⟨b, hb⟩ := Option.isSome_iff_exists.1 hs
  have hbw : S.wait n = some b := by rw [hw]; exact hb
  refine ⟨by unfold SS.homeE; rw [if_pos ⟨hhas, by rw [hbw]; rfl⟩], ?_⟩
  have e : S.home n = (S.sent n b).use n b := by
    unfold SS.home
    rw [if_pos hhas, hbw]
    simp only [h.chg n]
  rw [e]
  refine ⟨h.chg, fun k => ?_, h.n, ?_, ?_, h.cnt, h.at_⟩
  · show (if k = n then none else S.wait k) = _
    rw [List.take_add_one, hn, h.wait]
    by_cases e2 : k = n
    · subst e2; simp
    · rw [if_neg e2]
      simp only [Option.toList, List.mem_append, List.mem_singleton, e2, or_false]
  · show (S.d.pend ++ [_]).length = _
    rw [List.length_append, h.pend]; simp; omega
  · show S.d.ops + 1 = _
    rw [h.ops]; omega
theorem Homed.done {S0 S : SS} (h : Homed S0 S (keysOf 128 S0.wait).length) (k : Nat) (hk : k < 128) : S.wait k = none := by
  rw [h.wait, List.take_length]
  split
  · rfl
  · rename_i hno
    cases hw : S0.wait (k : Int) with
    | none => rfl
    | some b => exact absurd (keysOf_mem.2 ⟨by omega, by rw [hw]; rfl⟩) hno
theorem Homed.val {S0 S : SS} (h : Homed S0 S (keysOf 128 S0.wait).length) (k : Nat) (hk : k < 128) : S.val k = S.d.get k := by
  unfold SS.val
  rw [h.chg, h.done k hk]
theorem Homed.none {S0 S : SS} (h : Homed S0 S (keysOf 128 S0.wait).length) : wsOf 128 S.wait = [] := by
  unfold wsOf
  have e : keysOf 128 S.wait = [] := List.filter_eq_nil_iff.2 fun x hx => by
    obtain ⟨k, hk, rfl⟩ := List.mem_map.1 hx
    rw [show S.wait (Int.ofNat k) = Option.none from h.done k (List.mem_range.1 hk)]
    simp
  rw [e]; rfl
/-- What is changed or waits was touched. -/
def Tchd (S : SS) (f : Nat → Bool) : Prop := ∀ k : Nat, k < 128 → ((S.chg k).isSome = true ∨ (S.wait k).isSome = true) → f k = true
theorem Tchd.write {S : SS} {f : Nat → Bool} (h : Tchd S f) (n : Nat) (bs : Bytes) : Tchd (S.write n bs) (fun i => if i = n then true else f i) := fun k hk hh => by
  by_cases e : k = n
  · simp [e]
  · simp only [if_neg e]
    refine h k hk ?_
    rcases hh with hh | hh
    · left
      have : (S.write n bs).chg (k : Int) = S.chg k := by
        rw [(write_parts S n bs).2.1]
        show (if (k : Int) = (n : Int) then _ else _) = _
        rw [if_neg (by omega)]
      rw [this] at hh; exact hh
    · right; exact hh
theorem Tchd.commit {S : SS} {f : Nat → Bool} (h : Tchd S f) : Tchd S.commit f := fun k hk hh => by
  refine h k hk ?_
  rcases hh with hh | hh
  · exact absurd hh (by simp [SS.commit])
  · have hh2 : (over S.chg S.wait k).isSome = true := hh
    unfold over at hh2
    cases hc : S.chg k with
    | some b => left; rfl
    | none => rw [hc] at hh2; right; exact hh2
end Go.Proofs.Ytomoliickggghaa.Mem
