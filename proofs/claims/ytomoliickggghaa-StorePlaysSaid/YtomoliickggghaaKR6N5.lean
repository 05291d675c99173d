
/-
  layer 6 (store): Hold.
  layer 6 (store): Home, Release.
  layer 6 (store): New.
  slices.Sorted(maps.Keys(m)) of a map[int][]byte laid at the seat r6 (printed: gen/laysort.py).
  slices.Sorted(maps.Keys(m)) at a map[int][]byte: what it hands back, as plain contracts.
  layer 6 (store): Changed, writes.
  layer 6 (store): Waiting; a new store's shards.
  layer 6 (store): New.
-/
import Derived.Test.YtomoliickggghaaKR6N4
import Derived.Shelf.SlIterI.Nil
import Derived.Shelf.SortM.Plain
import Derived.Shelf.SortM.SortNone
import Derived.Ground.GgzProg
import Derived.Ground.SlgmProg
import Derived.Test.YtomoliickggghaaProg
import Derived.Test.YtomoliickggghaaKR6N3
namespace Go.Proofs.Ytomoliickggghaa.Mem
open Go.RowKit Go.Proofs.Ytomoliickggghaa Go.Proofs.Ytomoliickggghaa.Wire
set_option maxHeartbeats 8000000
set_option maxRecDepth 100000
set_option linter.unusedVariables false
set_option linter.unusedSimpArgs false

def SS.hold (S : SS) (n : Int) : SS := { S with undo := S.undo ++ [.h n true (S.held n)], held := fun j => if j = n then true else S.held j }
/-- One box, painted. -/
theorem one_box (w : World) (col : Col) (B : Nat) (n : Int) (hB : B ≤ w.heap.size) : ∃ w1 col1, w.alloc (.cells #[.int .i64 n] 3) = w1 ∧ Tch 16 16 col col1 w w1 ∧ Bk w1 col1 B 1 w.heap.size 3 #[.int .i64 n] := by
  have b1 := Blk.new w 3 #[.int .i64 n]
  exact ⟨_, paint col w.heap.size 1, rfl, ((Tch.refl 16 16 col w).alloc _).paint (Nat.le_refl _) (by simp) (by omega), ⟨b1, paint_self _ _ _, hB⟩⟩
theorem shold_no (w : World) (col : Col) (B c p : Nat) (S : SS) (n : Int) (h : StoreAt w col B c p S) (hn : S.has n = false) (hB : B ≤ w.heap.size) :
    Calls Try.prog 14 #[ptr p, .int .i64 n] w fun e w' => SWrote w col B c p S 22 e w' := by
  obtain ⟨L, h⟩ := h
  have hcl := h.lo
  obtain ⟨w1, col1, hw1, t1, k3⟩ := one_box w col B n hB
  have H1 := Lib.hid (h.keep t1 (by omega) (by omega))
  have HH := Lib.hid (shas_any w1 col1 B c p S L n H1.out)
  rw [hn] at HH
  have T1 := Lib.hid t1
  have c3 : w1.cell? ⟨w.heap.size, 0, none⟩ = some (.int .i64 n) := k3.blk.cell 0
  have HW1 := Lib.hid hw1
  clear h hn t1 k3 hw1
  unfold ptr at *
  go_enter Try.func14, Try.ntmps14
  go_wp2_with (rw [HW1.out])
  refine HH.out.mono ?_
  rintro e w' ⟨rfl, rfl⟩
  go_wp2_with fail
  go_ret
  exact ⟨col1, rfl, T1.out.any (Nat.le_refl _), L, H1.out⟩
/-- Two boxes laid and filled: what was held. -/
theorem hold_boxes (w : World) (col : Col) (B x y bh : Nat) (hv : Int) (h : (x = w.heap.size ∧ y = w.heap.size + 1) ∨ (y = w.heap.size ∧ x = w.heap.size + 1)) (w' : World) (hB : B ≤ w.heap.size)
    (hb : Below w.heap.size w w') (hx : Blk w' x 56 #[.map (some bh)]) (hy : Blk w' y 3 #[.int .i64 hv]) :
    ∃ col', Tch 16 16 col col' w w' ∧ Bk w' col' B 1 x 56 #[.map (some bh)] ∧ Bk w' col' B 1 y 3 #[.int .i64 hv] := by
  have hlx : x < w'.heap.size := (Array.getElem?_eq_some_iff.1 hx).1
  have hly : y < w'.heap.size := (Array.getElem?_eq_some_iff.1 hy).1
  refine ⟨paint (paint col x 1) y 1, ((Tch.of_below hb).paint (by omega) hlx (by omega)).paint (by omega) hly (by omega), ⟨hx, ?_, by omega⟩, ⟨hy, paint_self _ _ _, by omega⟩⟩
  rw [paint_other (by omega), paint_self]
theorem shold_yes (w : World) (col : Col) (B c p : Nat) (S : SS) (n : Int) (h : StoreAt w col B c p S) (hn : S.has n = true) (hB : B ≤ w.heap.size) (few : S.undo.length + S.found + S.asked + 1 ≤ 1000000000) :
    Calls Try.prog 14 #[ptr p, .int .i64 n] w fun e w' => SWrote w col B c p (S.hold n) 0 e w' := by
  obtain ⟨L, h⟩ := h
  have hcl := h.lo
  have hN := h.d.n
  have hn2 : 0 ≤ n ∧ n < (S.d.N : Int) := of_decide_eq_true hn
  have hkb : KB n := ⟨by omega, by omega⟩
  obtain ⟨w1, col1, hw1, t1, k3⟩ := one_box w col B n hB
  have h1 := h.keep t1 (by omega) (by omega)
  have HH := Lib.hid (shas_any w1 col1 B c p S L n h1)
  rw [hn] at HH
  have c3 : w1.cell? ⟨w.heap.size, 0, none⟩ = some (.int .i64 n) := k3.blk.cell 0
  have HW1 := Lib.hid hw1
  obtain ⟨w2, hw2⟩ : ∃ w2, w1.drew = w2 := ⟨_, rfl⟩
  have t2 : Tch 16 16 col1 col1 w1 w2 := by rw [← hw2]; exact (Tch.refl _ _ _ _).drew
  have H2 := Lib.hid (h1.keep t2 (by omega) (by omega))
  have K2 := Lib.hid (k3.keep t2 (by omega))
  have T2 := Lib.hid (t1.trans t2)
  have hB2 : B ≤ w2.heap.size := Nat.le_trans hB T2.out.size
  obtain ⟨hv, hhv⟩ : ∃ hv : Int, (if S.held n = true then (1 : Int) else 0) = hv := ⟨_, rfl⟩
  have HHV := Lib.hid hhv
  have SK := Lib.hid (show ∀ W : World, Below w2.heap.size w2 W → W.cell? ⟨p, 4, none⟩ = some (.map (some L.bh)) ∧ W.cell? ⟨w.heap.size, 0, none⟩ = some (.int .i64 n) ∧ (Instr.lookup 56 (.map (some L.bh)) (.int .i64 n) false).run Try.prog W = .ok (.int .i64 hv) W from fun W hb => by
    have ht : Tch 16 16 col1 col1 w2 W := Tch.of_below hb
    have := held_look (H2.out.held.keep ht (by omega)) hkb
    rw [hhv] at this
    exact ⟨(H2.out.s.keep ht (by omega)).blk.cell 4, (K2.out.keep ht (by omega)).blk.cell 0, this⟩)
  have HW2 := Lib.hid hw2
  clear h hn t1 k3 hw1 h1 hw2 t2 hhv
  unfold ptr at *
  go_enter Try.func14, Try.ntmps14
  go_wp2_with (rw [HW1.out])
  refine HH.out.mono ?_
  rintro e w' ⟨rfl, rfl⟩
  go_wp2_with fail
  have hNS := SK.out w2 (Below.refl _ _)
  have ba1 := (Below.refl w2.heap.size w2).alloc (Nat.le_refl _) (.cells #[.map none] 56)
  have bb1 := (Below.refl w2.heap.size w2).alloc (Nat.le_refl _) (.cells #[.int .i64 0] 3)
  refine region_need_at (v := w2) (fun W => W.cell? ⟨p, 4, none⟩ = some (.map (some L.bh)) ∧ W.cell? ⟨w.heap.size, 0, none⟩ = some (.int .i64 n) ∧ (Instr.lookup 56 (.map (some L.bh)) (.int .i64 n) false).run Try.prog W = .ok (.int .i64 hv) W) (fun i => i != 13) HW2.out (by kernel_rfl) ?_
  refine nw_take (i := 0) (v := ?_) rfl (by kernel_rfl) (by kernel_rfl) (fun _ _ d _ _ h => by cases d <;> exact h) (by exact hNS) (by kernel_rfl) ?_ (fun K hK => ?_); rotate_left; (· (intro w' hSw; (try dsimp only at hSw); go_simp; with_reducible rfl)); simp only [Act.put, List.setIfInBounds_toArray, List.set_cons_zero, List.set_cons_succ]; refine hK _ ?_; clear hK K
  refine nw_take (i := 1) (v := ?_) rfl (by kernel_rfl) (by kernel_rfl) (fun _ _ d _ _ h => by cases d <;> exact h) (by exact hNS) (by kernel_rfl) ?_ (fun K hK => ?_); rotate_left; (· (intro w' hSw; (try dsimp only at hSw); go_simp; with_reducible rfl)); simp only [Act.put, List.setIfInBounds_toArray, List.set_cons_zero, List.set_cons_succ]; refine hK _ ?_; clear hK K
  refine nw_take (i := 2) (v := ?_) rfl (by kernel_rfl) (by kernel_rfl) (fun _ _ d _ _ h => by cases d <;> exact h) (by exact hNS) (by kernel_rfl) ?_ (fun K hK => ?_); rotate_left; (· (intro w' hSw; (try dsimp only at hSw); go_simp; with_reducible rfl)); simp only [Act.put, List.setIfInBounds_toArray, List.set_cons_zero, List.set_cons_succ]; refine hK _ ?_; clear hK K
  refine nw_take (i := 3) (v := ?_) rfl (by kernel_rfl) (by kernel_rfl) (fun _ _ d _ _ h => by cases d <;> exact h) (by exact hNS) (by kernel_rfl) ?_ (fun K hK => ?_); rotate_left; (· (intro w' hSw; (try dsimp only at hSw); go_simp; with_reducible rfl)); simp only [Act.put, List.setIfInBounds_toArray, List.set_cons_zero, List.set_cons_succ]; refine hK _ ?_; clear hK K
  refine nw_take (i := 4) (v := ?_) rfl (by kernel_rfl) (by kernel_rfl) (fun _ _ d _ _ h => by cases d <;> exact h) (by exact hNS) (by kernel_rfl) ?_ (fun K hK => ?_); rotate_left; (· (intro w' hSw; (try dsimp only at hSw); go_simp; with_reducible rfl)); simp only [Act.put, List.setIfInBounds_toArray, List.set_cons_zero, List.set_cons_succ]; refine hK _ ?_; clear hK K
  refine nw_take (i := 5) (v := ?_) rfl (by kernel_rfl) (by kernel_rfl) (fun _ _ d _ _ h => by cases d <;> exact h) (by exact hNS) (by kernel_rfl) ?_ (fun K hK => ?_); rotate_left; (· (intro w' hSw; (try dsimp only at hSw); go_simp; with_reducible rfl)); simp only [Act.put, List.setIfInBounds_toArray, List.set_cons_zero, List.set_cons_succ]; refine hK _ ?_; clear hK K
  refine nw_take (i := 6) (v := ?_) rfl (by kernel_rfl) (by kernel_rfl) (fun _ _ d _ _ h => by cases d <;> exact h) (by exact hNS) (by kernel_rfl) ?_ (fun K hK => ?_); rotate_left; (· (intro w' hSw; (try dsimp only at hSw); go_simp; with_reducible rfl)); simp only [Act.put, List.setIfInBounds_toArray, List.set_cons_zero, List.set_cons_succ]; refine hK _ ?_; clear hK K
  refine nw_take (i := 7) (v := ?_) rfl (by kernel_rfl) (by kernel_rfl) (fun _ _ d _ _ h => by cases d <;> exact h) (by exact hNS) (by kernel_rfl) ?_ (fun K hK => ?_); rotate_left; (· (intro w' hSw; (try dsimp only at hSw); go_simp; with_reducible rfl)); simp only [Act.put, List.setIfInBounds_toArray, List.set_cons_zero, List.set_cons_succ]; refine hK _ ?_; clear hK K
  refine nw_take (i := 8) (v := ?_) rfl (by kernel_rfl) (by kernel_rfl) (fun _ _ d _ _ h => by cases d <;> exact h) (by exact hNS) (by kernel_rfl) ?_ (fun K hK => ?_); rotate_left; (· (intro w' hSw; (try dsimp only at hSw); go_simp; with_reducible rfl)); simp only [Act.put, List.setIfInBounds_toArray, List.set_cons_zero, List.set_cons_succ]; refine hK _ ?_; clear hK K
  refine nw_take (i := 9) (v := ?_) rfl (by kernel_rfl) (by kernel_rfl) (fun _ _ d _ _ h => by cases d <;> exact h) (by exact hNS) (by kernel_rfl) ?_ (fun K hK => ?_); rotate_left; (· (intro w' hSw; (try dsimp only at hSw); go_simp; with_reducible rfl)); simp only [Act.put, List.setIfInBounds_toArray, List.set_cons_zero, List.set_cons_succ]; refine hK _ ?_; clear hK K
  clear hNS
  refine nw_two (i := 10) (j := 11) (E := False) (E' := False) rfl rfl (by kernel_rfl) (by kernel_rfl) (by kernel_rfl) (fun K hK => ?_) (fun K hK => ?_)
  · go_simp
    refine hK.out _ _ ((fun _ => SK.out _ ba1)) ?_
    clear hK K
    try simp only [Act.put, List.setIfInBounds_toArray, List.set_cons_zero, List.set_cons_succ]
    have e1 : (w2.alloc (.cells #[.map (some L.bh)] 56)).heap.size = w2.heap.size + 1 := by simp
    have ba2 := ba1.alloc (by simp) (.cells #[.int .i64 0] 3)
    have ba3 := ((Below.refl w2.heap.size w2).alloc (Nat.le_refl _) (.cells #[.map (some L.bh)] 56)).alloc (by simp) (.cells #[.int .i64 0] 3)
    have ba4 := ((Below.refl w2.heap.size w2).alloc (Nat.le_refl _) (.cells #[.map (some L.bh)] 56)).alloc (by simp) (.cells #[.int .i64 hv] 3)
    refine nw_one (i := 11) (E := False) rfl (by kernel_rfl) (fun K hK => ?_) (by kernel_rfl)
    go_simp
    refine hK.out _ _ ((fun _ => SK.out _ ba2)) ?_
    clear hK K
    try simp only [Act.put, List.setIfInBounds_toArray, List.set_cons_zero, List.set_cons_succ]
    refine nw_one (i := 12) (E := False) rfl (by kernel_rfl) (fun K hK => ?_) (by kernel_rfl)
    go_simp
    refine hK.out _ _ ((fun _ => SK.out _ ba3)) ?_
    clear hK K
    try simp only [Act.put, List.setIfInBounds_toArray, List.set_cons_zero, List.set_cons_succ]
    refine nw_one (i := 13) (E := False) rfl (by kernel_rfl) (fun K hK => ?_) (by kernel_rfl)
    go_simp
    refine hK.out _ _ ((fun h => absurd h (by decide))) ?_
    clear hK K
    try simp only [Act.put, List.setIfInBounds_toArray, List.set_cons_zero, List.set_cons_succ]
    refine nw_end (by kernel_rfl) ?_
    have kx := (Blk.new w2 56 #[.map (some L.bh)]).alloc (.cells #[.int .i64 hv] 3)
    have ky := Blk.new (w2.alloc (.cells #[.map (some L.bh)] 56)) 3 #[.int .i64 hv]
    rw [e1] at ky
    obtain ⟨w6, hw6⟩ : ∃ w6, (w2.alloc (.cells #[.map (some L.bh)] 56)).alloc (.cells #[.int .i64 hv] 3) = w6 := ⟨_, rfl⟩
    rw [hw6] at kx ky ba4 ⊢
    obtain ⟨y, hy⟩ : ∃ y, w2.heap.size + 1 = y := ⟨_, rfl⟩
    rw [hy] at ky ⊢
    obtain ⟨x, hx⟩ : ∃ x, w2.heap.size = x := ⟨_, rfl⟩
    rw [hx] at kx ⊢
    have hxy : (x = w2.heap.size ∧ y = w2.heap.size + 1) ∨ (y = w2.heap.size ∧ x = w2.heap.size + 1) := .inl ⟨hx.symm, hy.symm⟩
    have KX := Lib.hid kx
    have KY := Lib.hid ky
    have HXY := Lib.hid hxy
    have B6 := Lib.hid ba4
    clear hx hy hxy kx ky ba4 hw6 ba3 ba2 e1 ba1 bb1
    obtain ⟨col6, t6, kx, ky⟩ := hold_boxes w2 col1 B x y L.bh hv HXY.out w6 hB2 B6.out KX.out KY.out
    have H6 := Lib.hid (H2.out.keep t6 (by omega) (by omega))
    have K6 := Lib.hid (K2.out.keep t6 (by omega))
    have T6 := Lib.hid (T2.out.trans t6)
    have c5 : w6.cell? ⟨p, 5, none⟩ = some L.vu := H6.out.s.blk.cell 5
    have hB6 : B ≤ w6.heap.size := Nat.le_trans hB T6.out.size
    obtain ⟨fv, hfv⟩ : ∃ fv, fv = Value.func (.func 43) #[] #[.pointer (some ⟨y, 0, none⟩), .pointer (some ⟨x, 0, none⟩), .pointer (some ⟨w.heap.size, 0, none⟩)] := ⟨_, rfl⟩
    obtain ⟨w7, hw7⟩ : ∃ w7, w6.alloc (.cells #[fv] 1) = w7 := ⟨_, rfl⟩
    have t7 : Tch 16 16 col6 col6 w6 w7 := by rw [← hw7]; exact (Tch.refl _ _ _ _).alloc _
    have X7 := Lib.hid (show RowAt w7 (some ⟨w6.heap.size, 0, none⟩) (1 * 1) [fv] by rw [← hw7]; exact lit_rowN w6 1 [fv] (1 * 1) w6.heap.size rfl rfl)
    have H7 := Lib.hid (H6.out.keep t7 (by omega) (by omega))
    have K7 := Lib.hid (K6.out.keep t7 (by omega))
    have T7 := Lib.hid (T6.out.trans t7)
    have hB7 : B ≤ w7.heap.size := Nat.le_trans hB T7.out.size
    have UA := Lib.hid (show UndAt w7 col6 B c p L.bh S.d.N (.h n true (S.held n)) fv from ⟨_, _, _, L.bh, hfv, by rw [HHV.out]; exact ky.keep t7 (by omega), kx.keep t7 (by omega), by rw [if_pos rfl], K7.out, hn2⟩)
    have HW7 := Lib.hid hw7
    have HFV := Lib.hid hfv
    clear t6 kx ky hfv hw7 t7 H6 K6 T6 H2 K2 T2 KX KY HXY B6 SK HH
    go_wp2_with (first
      | (at_builtin
         rw [← HFV.out, HW7.out]
         refine app_row _ 57 1 .nilFunc 1 8 Try.underlying57 infoFunc rfl (by decide) rfl (.tmp 25) (.tmp 27) rfl col6 B (c + 4) (c + 4) (c + 5) L.vu S.undo.length L.us rfl H7.out.undo ⟨by omega, by omega⟩ (some ⟨w6.heap.size, 0, none⟩) 1 1 [fv] rfl (fun e => by cases e) X7.out (by intro u hu; simp at hu; subst hu; rw [HFV.out]; rfl) (by unfold maxLen; omega) (by omega) hB7 ?_
         intro v8 w8 col8 r8 t8 _
         obtain ⟨g8, cap8, cur8, rfl, _⟩ := own_form r8.own (by omega)
         obtain ⟨h9, t9⟩ := H7.out.push t8 r8 (UA.out.keep t8 (by omega) (by omega)) (by omega)
         have H9 := Lib.hid h9
         have k8 := H7.out.s.keep t8 (by omega)
         have d5 : w8.cell? ⟨p, 5, none⟩ = some L.vu := k8.blk.cell 5
         have z5 : w8.frozen? ⟨p, 5, none⟩ = false := k8.blk.frozen 5
         have T9 := Lib.hid (((T7.out.any (lo' := c) (hi' := c + 64) (Nat.le_refl _)).trans (t8.mono (by omega) (by omega))).trans (t9.mono (by omega) (by omega)))
         have K9 := Lib.hid ((K7.out.keep t8 (by omega)).keep t9 (by omega))
         clear h9 k8 r8 t8 t9)
      | fail)
    obtain ⟨w9, hw9⟩ : ∃ w9, w8.setCell ⟨p, 5, none⟩ (.slice (some ⟨g8, 0, none⟩) (S.undo.length + 1) cap8) = w9 := ⟨_, rfl⟩
    rw [hw9] at H9 T9 K9 ⊢
    clear hw9
    have d4 : w9.drew.cell? ⟨p, 4, none⟩ = some (.map (some L.bh)) := H9.out.s.blk.cell 4
    have d3 : w9.drew.cell? ⟨w.heap.size, 0, none⟩ = some (.int .i64 n) := K9.out.blk.cell 0
    refine region_mix [true, true, true, true, true, false] (S := fun w' => w'.cell? ⟨p, 4, none⟩ = some (.map (some L.bh)) ∧ w'.cell? ⟨w.heap.size, 0, none⟩ = some (.int .i64 n)) (by kernel_rfl) (by kernel_rfl) (fun _ _ d _ _ h => by cases d <;> exact h) ⟨d4, d3⟩ ?_
    iterate 5 (refine mix_take (v := ?_) (by kernel_rfl) ?_ (fun K hK => ?_); rotate_left; (· (intro w' hSw; (try dsimp only at hSw); go_simp; with_reducible rfl)); simp only [Act.put, List.setIfInBounds_toArray, List.set_cons_zero, List.set_cons_succ]; refine hK _ ?_; clear hK K)
    refine mix_do (E := False) (fun K hK => ?_) (by kernel_rfl)
    refine step_map_put _ rfl (.tmp 34) (.tmp 35) (.const (.int .i64 1)) 56 rfl 3 Try.underlying56 col8 B (c + 7) L.bh S.d.N (heldF S.held) rfl (H9.out.held.keep ((Tch.refl 16 16 col8 w9).drew) (by omega)) n rfl hn2 (.int .i64 1) rfl ?_
    intro w10 m10 t10
    have t10' : Tch (c + 7) (c + 8) col8 col8 w9 w10 := ((Tch.refl _ _ _ _).drew).trans t10
    have h10 := H9.out.heldSet t10' (g := fun j => if j = n then true else S.held j) (m10.ext fun k => by unfold heldF; by_cases e : k = n <;> simp [e])
    have H10 := Lib.hid h10
    have T10 := Lib.hid (T9.out.trans (t10'.mono (by omega) (by omega)))
    have s3 := (K9.out.keep t10' (by omega)).blk.cell 0
    have s4 := h10.s.blk.cell 4
    clear m10 t10 t10' h10
    refine hK.out _ _ (⟨s4, s3⟩) ?_
    clear hK K
    try simp only [Act.put, List.setIfInBounds_toArray, List.set_cons_zero, List.set_cons_succ]
    refine mix_end ?_
    go_wp2_with fail
    go_ret
    exact ⟨col8, rfl, T10.out, _, H10.out⟩
  · go_simp
    refine hK.out _ _ ((fun _ => SK.out _ bb1)) ?_
    clear hK K
    try simp only [Act.put, List.setIfInBounds_toArray, List.set_cons_zero, List.set_cons_succ]
    have e1 : (w2.alloc (.cells #[.int .i64 hv] 3)).heap.size = w2.heap.size + 1 := by simp
    have ba2 := bb1.alloc (by simp) (.cells #[.map none] 56)
    have ba3 := ((Below.refl w2.heap.size w2).alloc (Nat.le_refl _) (.cells #[.int .i64 0] 3)).alloc (by simp) (.cells #[.map (some L.bh)] 56)
    have ba4 := ((Below.refl w2.heap.size w2).alloc (Nat.le_refl _) (.cells #[.int .i64 hv] 3)).alloc (by simp) (.cells #[.map (some L.bh)] 56)
    refine nw_one (i := 10) (E := False) rfl (by kernel_rfl) (fun K hK => ?_) (by kernel_rfl)
    go_simp
    refine hK.out _ _ ((fun _ => SK.out _ ba2)) ?_
    clear hK K
    try simp only [Act.put, List.setIfInBounds_toArray, List.set_cons_zero, List.set_cons_succ]
    refine nw_one (i := 12) (E := False) rfl (by kernel_rfl) (fun K hK => ?_) (by kernel_rfl)
    go_simp
    refine hK.out _ _ ((fun _ => SK.out _ ba3)) ?_
    clear hK K
    try simp only [Act.put, List.setIfInBounds_toArray, List.set_cons_zero, List.set_cons_succ]
    refine nw_one (i := 13) (E := False) rfl (by kernel_rfl) (fun K hK => ?_) (by kernel_rfl)
    go_simp
    refine hK.out _ _ ((fun h => absurd h (by decide))) ?_
    clear hK K
    try simp only [Act.put, List.setIfInBounds_toArray, List.set_cons_zero, List.set_cons_succ]
    refine nw_end (by kernel_rfl) ?_
    have ky := (Blk.new w2 3 #[.int .i64 hv]).alloc (.cells #[.map (some L.bh)] 56)
    have kx := Blk.new (w2.alloc (.cells #[.int .i64 hv] 3)) 56 #[.map (some L.bh)]
    rw [e1] at kx
    obtain ⟨w6, hw6⟩ : ∃ w6, (w2.alloc (.cells #[.int .i64 hv] 3)).alloc (.cells #[.map (some L.bh)] 56) = w6 := ⟨_, rfl⟩
    rw [hw6] at kx ky ba4 ⊢
    obtain ⟨x, hx⟩ : ∃ x, w2.heap.size + 1 = x := ⟨_, rfl⟩
    rw [hx] at kx ⊢
    obtain ⟨y, hy⟩ : ∃ y, w2.heap.size = y := ⟨_, rfl⟩
    rw [hy] at ky ⊢
    have hxy : (x = w2.heap.size ∧ y = w2.heap.size + 1) ∨ (y = w2.heap.size ∧ x = w2.heap.size + 1) := .inr ⟨hy.symm, hx.symm⟩
    have KX := Lib.hid kx
    have KY := Lib.hid ky
    have HXY := Lib.hid hxy
    have B6 := Lib.hid ba4
    clear hx hy hxy kx ky ba4 hw6 ba3 ba2 e1 ba1 bb1
    obtain ⟨col6, t6, kx, ky⟩ := hold_boxes w2 col1 B x y L.bh hv HXY.out w6 hB2 B6.out KX.out KY.out
    have H6 := Lib.hid (H2.out.keep t6 (by omega) (by omega))
    have K6 := Lib.hid (K2.out.keep t6 (by omega))
    have T6 := Lib.hid (T2.out.trans t6)
    have c5 : w6.cell? ⟨p, 5, none⟩ = some L.vu := H6.out.s.blk.cell 5
    have hB6 : B ≤ w6.heap.size := Nat.le_trans hB T6.out.size
    obtain ⟨fv, hfv⟩ : ∃ fv, fv = Value.func (.func 43) #[] #[.pointer (some ⟨y, 0, none⟩), .pointer (some ⟨x, 0, none⟩), .pointer (some ⟨w.heap.size, 0, none⟩)] := ⟨_, rfl⟩
    obtain ⟨w7, hw7⟩ : ∃ w7, w6.alloc (.cells #[fv] 1) = w7 := ⟨_, rfl⟩
    have t7 : Tch 16 16 col6 col6 w6 w7 := by rw [← hw7]; exact (Tch.refl _ _ _ _).alloc _
    have X7 := Lib.hid (show RowAt w7 (some ⟨w6.heap.size, 0, none⟩) (1 * 1) [fv] by rw [← hw7]; exact lit_rowN w6 1 [fv] (1 * 1) w6.heap.size rfl rfl)
    have H7 := Lib.hid (H6.out.keep t7 (by omega) (by omega))
    have K7 := Lib.hid (K6.out.keep t7 (by omega))
    have T7 := Lib.hid (T6.out.trans t7)
    have hB7 : B ≤ w7.heap.size := Nat.le_trans hB T7.out.size
    have UA := Lib.hid (show UndAt w7 col6 B c p L.bh S.d.N (.h n true (S.held n)) fv from ⟨_, _, _, L.bh, hfv, by rw [HHV.out]; exact ky.keep t7 (by omega), kx.keep t7 (by omega), by rw [if_pos rfl], K7.out, hn2⟩)
    have HW7 := Lib.hid hw7
    have HFV := Lib.hid hfv
    clear t6 kx ky hfv hw7 t7 H6 K6 T6 H2 K2 T2 KX KY HXY B6 SK HH
    go_wp2_with (first
      | (at_builtin
         rw [← HFV.out, HW7.out]
         refine app_row _ 57 1 .nilFunc 1 8 Try.underlying57 infoFunc rfl (by decide) rfl (.tmp 25) (.tmp 27) rfl col6 B (c + 4) (c + 4) (c + 5) L.vu S.undo.length L.us rfl H7.out.undo ⟨by omega, by omega⟩ (some ⟨w6.heap.size, 0, none⟩) 1 1 [fv] rfl (fun e => by cases e) X7.out (by intro u hu; simp at hu; subst hu; rw [HFV.out]; rfl) (by unfold maxLen; omega) (by omega) hB7 ?_
         intro v8 w8 col8 r8 t8 _
         obtain ⟨g8, cap8, cur8, rfl, _⟩ := own_form r8.own (by omega)
         obtain ⟨h9, t9⟩ := H7.out.push t8 r8 (UA.out.keep t8 (by omega) (by omega)) (by omega)
         have H9 := Lib.hid h9
         have k8 := H7.out.s.keep t8 (by omega)
         have d5 : w8.cell? ⟨p, 5, none⟩ = some L.vu := k8.blk.cell 5
         have z5 : w8.frozen? ⟨p, 5, none⟩ = false := k8.blk.frozen 5
         have T9 := Lib.hid (((T7.out.any (lo' := c) (hi' := c + 64) (Nat.le_refl _)).trans (t8.mono (by omega) (by omega))).trans (t9.mono (by omega) (by omega)))
         have K9 := Lib.hid ((K7.out.keep t8 (by omega)).keep t9 (by omega))
         clear h9 k8 r8 t8 t9)
      | fail)
    obtain ⟨w9, hw9⟩ : ∃ w9, w8.setCell ⟨p, 5, none⟩ (.slice (some ⟨g8, 0, none⟩) (S.undo.length + 1) cap8) = w9 := ⟨_, rfl⟩
    rw [hw9] at H9 T9 K9 ⊢
    clear hw9
    have d4 : w9.drew.cell? ⟨p, 4, none⟩ = some (.map (some L.bh)) := H9.out.s.blk.cell 4
    have d3 : w9.drew.cell? ⟨w.heap.size, 0, none⟩ = some (.int .i64 n) := K9.out.blk.cell 0
    refine region_mix [true, true, true, true, true, false] (S := fun w' => w'.cell? ⟨p, 4, none⟩ = some (.map (some L.bh)) ∧ w'.cell? ⟨w.heap.size, 0, none⟩ = some (.int .i64 n)) (by kernel_rfl) (by kernel_rfl) (fun _ _ d _ _ h => by cases d <;> exact h) ⟨d4, d3⟩ ?_
    iterate 5 (refine mix_take (v := ?_) (by kernel_rfl) ?_ (fun K hK => ?_); rotate_left; (· (intro w' hSw; (try dsimp only at hSw); go_simp; with_reducible rfl)); simp only [Act.put, List.setIfInBounds_toArray, List.set_cons_zero, List.set_cons_succ]; refine hK _ ?_; clear hK K)
    refine mix_do (E := False) (fun K hK => ?_) (by kernel_rfl)
    refine step_map_put _ rfl (.tmp 34) (.tmp 35) (.const (.int .i64 1)) 56 rfl 3 Try.underlying56 col8 B (c + 7) L.bh S.d.N (heldF S.held) rfl (H9.out.held.keep ((Tch.refl 16 16 col8 w9).drew) (by omega)) n rfl hn2 (.int .i64 1) rfl ?_
    intro w10 m10 t10
    have t10' : Tch (c + 7) (c + 8) col8 col8 w9 w10 := ((Tch.refl _ _ _ _).drew).trans t10
    have h10 := H9.out.heldSet t10' (g := fun j => if j = n then true else S.held j) (m10.ext fun k => by unfold heldF; by_cases e : k = n <;> simp [e])
    have H10 := Lib.hid h10
    have T10 := Lib.hid (T9.out.trans (t10'.mono (by omega) (by omega)))
    have s3 := (K9.out.keep t10' (by omega)).blk.cell 0
    have s4 := h10.s.blk.cell 4
    clear m10 t10 t10' h10
    refine hK.out _ _ (⟨s4, s3⟩) ?_
    clear hK K
    try simp only [Act.put, List.setIfInBounds_toArray, List.set_cons_zero, List.set_cons_succ]
    refine mix_end ?_
    go_wp2_with fail
    go_ret
    exact ⟨col8, rfl, T10.out, _, H10.out⟩
end Go.Proofs.Ytomoliickggghaa.Mem

namespace Go.Proofs.Ytomoliickggghaa.Mem
open Go.RowKit Go.Proofs.Ytomoliickggghaa Go.Proofs.Ytomoliickggghaa.Wire
set_option maxHeartbeats 8000000
set_option maxRecDepth 100000
set_option linter.unusedVariables false
set_option linter.unusedSimpArgs false

section
variable {w w' : World} {col col' : Col} {B c p : Nat} {S : SS} {L : SL}
theorem StoreL.disk (h : StoreL w col B c p S L) (ht : Tch (c + 8) (c + 8 + 4) col col' w w') {d : DS} (hd : DiskAt w' col' B (c + 8) L.dp d) (hN : d.N = S.d.N) : StoreL w' col' B c p { S with d := d } L := by
  have hn := h.shn
  have hcl := h.lo
  refine ⟨h.s.keep ht (by omega), ?_, ?_, ?_, h.undo.keep ht (by omega), fun i u v h1 h2 => ?_, h.shs.keep ht (by omega), h.shl, fun i x y h1 h2 => ?_,
    hd, ?_, h.lo, h.shn, h.rm, h.few, ht.tidy h.tidy⟩
  · show MapB w' col' B (c + 1) L.bc d.N S.chg
    rw [hN]; exact h.chg.keep ht (by omega) (by omega)
  · show MapB w' col' B (c + 2) L.bw d.N S.wait
    rw [hN]; exact h.wait.keep ht (by omega) (by omega)
  · show MapR w' col' B (c + 7) L.bh d.N _
    rw [hN]; exact h.held.keep ht (by omega)
  · show UndAt w' col' B c p L.bh d.N u v
    rw [hN]; exact (h.us i u v h1 h2).keep ht (by omega) (by omega)
  · have hi := (List.getElem?_eq_some_iff.1 h2).1
    show ShAt w' col' B c d.N i x y
    rw [hN]; exact (h.sh i x y h1 h2).keep ht (by omega) (by omega) (by omega)
  · show ∀ b, b < w'.heap.size → col' b = c + 6 → ∃ f, MapR w' col' B (c + 6) b d.N f
    rw [hN]; exact old_keep h.old h.tidy h.lo ht (by omega)
theorem StoreL.waitSet (h : StoreL w col B c p S L) (ht : Tch (c + 2) (c + 3) col col w w') {g : Int → Option Bytes} (hm : MapB w' col B (c + 2) L.bw S.d.N g) : StoreL w' col B c p { S with wait := g } L := by
  have hn := h.shn
  have hcl := h.lo
  refine ⟨h.s.keep ht (by omega), h.chg.keep ht (by omega) (by omega), hm, h.held.keep ht (by omega), h.undo.keep ht (by omega), fun i u v h1 h2 => (h.us i u v h1 h2).keep ht (by omega) (by omega), h.shs.keep ht (by omega), h.shl, fun i x y h1 h2 => ?_,
    h.d.keep ht (by omega) (by omega), old_keep h.old h.tidy h.lo ht (by omega), h.lo, h.shn, h.rm, h.few, ht.tidy h.tidy⟩
  have hi := (List.getElem?_eq_some_iff.1 h2).1
  exact (h.sh i x y h1 h2).keep ht (by omega) (by omega) (by omega)
end
def SS.homeE (S : SS) (n : Int) : Int := if S.has n = true ∧ (S.wait n).isSome = true then 0 else 22
def SS.sent (S : SS) (n : Int) (b : Bytes) : SS := { S with d := S.d.write n b, wait := fun j => if j = n then none else S.wait j }
def SS.home (S : SS) (n : Int) : SS := if S.has n = true then (match S.wait n with
  | some b => (match S.chg n with
    | some _ => S.sent n b
    | none => (S.sent n b).use n b)
  | none => S) else S
theorem shome_no (w : World) (col : Col) (B c p : Nat) (S : SS) (L : SL) (n : Int) (h : StoreL w col B c p S L) (hn : ¬ (S.has n = true ∧ (S.wait n).isSome = true)) :
    Calls Try.prog 16 #[ptr p, .int .i64 n] w fun e w' => e = .returned (.int .i64 22) ∧ w = w' := by
  have HH := Lib.hid (shas_any w col B c p S L n h)
  cases hh : S.has n with
  | false =>
    rw [hh] at HH
    clear h hn hh
    go_enter Try.func16, Try.ntmps16
    go_wp2_with fail
    refine HH.out.mono ?_
    rintro e w' ⟨rfl, rfl⟩
    go_wp2_with fail
    go_ret
    exact ⟨rfl, rfl⟩
  | true =>
    rw [hh] at HH
    have hn2 : 0 ≤ n ∧ n < (S.d.N : Int) := of_decide_eq_true hh
    have hN := h.d.n
    have c3 : w.cell? ⟨p, 3, none⟩ = some (.map (some L.bw)) := h.s.blk.cell 3
    obtain ⟨f, hf, hp⟩ := h.wait.ex
    have lk := look_map hf (k := n) ⟨by omega, by omega⟩
    rcases hp n with ⟨e1, e2⟩ | ⟨v, bs, e1, e2, hd⟩
    · rw [e1] at lk
      dsimp only [Option.getD] at lk
      have heq := fun w => Lib.run_eql_slice_nil (P := Try.prog) w 34 5 none 0 0 0 0 Try.underlying34
      clear h hn hh hf hp e1 e2
      unfold ptr at *
      go_enter Try.func16, Try.ntmps16
      go_wp2_with fail
      refine HH.out.mono ?_
      rintro e w' ⟨rfl, rfl⟩
      go_wp2_with fail
      go_ret
      exact ⟨rfl, rfl⟩
    · exact absurd ⟨hh, by rw [e2]; rfl⟩ hn
theorem shome_yes (w : World) (col : Col) (B c p : Nat) (S : SS) (n : Int) (bs : Bytes) (h : StoreAt w col B c p S) (hn : S.has n = true) (hw : S.wait n = some bs) (hB : B ≤ w.heap.size) (hroom : S.d.pend.length + S.d.ops + 2 ≤ 1000000000) :
    Calls Try.prog 16 #[ptr p, .int .i64 n] w fun e w' => SWrote w col B c p (S.home n) 0 e w' := by
  obtain ⟨L, h⟩ := h
  have hcl := h.lo
  have hN := h.d.n
  have hn2 : 0 ≤ n ∧ n < (S.d.N : Int) := of_decide_eq_true hn
  have hkb : KB n := ⟨by omega, by omega⟩
  have HN := Lib.hid hn
  have HH := Lib.hid (shas_any w col B c p S L n h)
  rw [hn] at HH
  have c0 : w.cell? ⟨p, 0, none⟩ = some (ptr L.dp) := h.s.blk.cell 0
  have c3 : w.cell? ⟨p, 3, none⟩ = some (.map (some L.bw)) := h.s.blk.cell 3
  obtain ⟨f, hf, hp⟩ := h.wait.ex
  have lk := look_map hf hkb
  rcases hp n with ⟨e1, e2⟩ | ⟨v, bs', e1, e2, hd⟩
  · rw [hw] at e2; cases e2
  rw [hw] at e2
  injection e2 with e2
  subst e2
  rw [e1] at lk
  dsimp only [Option.getD] at lk
  obtain ⟨g, cap, rfl, hby, _⟩ := hd.form
  have heq := fun w => Lib.run_eql_slice_nil (P := Try.prog) w 34 5 (some ⟨g, 0, none⟩) 256 cap 0 0 Try.underlying34
  have HD := Lib.hid (dwrite_any w col B (c + 8) L.dp S.d n (some ⟨g, 0, none⟩) cap bs h.d hn hby hB hroom)
  have D0 := Lib.hid hd
  have H0 := Lib.hid h
  have HHM := Lib.hid (show S.home n = match S.chg n with | some _ => S.sent n bs | none => (S.sent n bs).use n bs by rw [SS.home, if_pos hn, hw])
  have F0 := Lib.hid hf
  have P0 := Lib.hid hp
  obtain ⟨fc, hfc, hpc⟩ := h.chg.ex
  have C0 := Lib.hid hfc
  have e3 := hpc n
  clear h hn hw hf hp e1 hby hd hfc hpc
  unfold ptr at *
  rcases e3 with ⟨e1, e2⟩ | ⟨v, b4, e1, e2, hd⟩
  · have e1' : fc n = none := e1
    have e2' : S.chg n = none := e2
    have HM := Lib.hid (show S.home n = (S.sent n bs).use n bs by rw [HHM.out, e2'])
    have heq0 := fun w => Lib.run_eql_slice_nil (P := Try.prog) w 34 5 none 0 0 0 0 Try.underlying34
    have EQ := Lib.hid (show (fc n).getD (.slice none 0 0) = .slice none 0 0 by rw [e1']; rfl)
    clear e1 e2 e1' e2'
    go_enter Try.func16, Try.ntmps16
    go_wp2_with fail
    refine HH.out.mono ?_
    rintro e w' ⟨rfl, rfl⟩
    go_wp2_with fail
    refine HD.out.mono ?_
    rintro e w2 ⟨col2, rfl, t2, d2⟩
    have h2 := H0.out.disk t2 d2 rfl
    have H2 := Lib.hid h2
    have T2 := Lib.hid t2
    have F2 := Lib.hid (F0.out.keep t2 (by omega))
    have P2 := Lib.hid (P0.out.keep t2 (by omega))
    have D2 := Lib.hid (D0.out.keep t2 (by omega))
    have C2 := Lib.hid (C0.out.keep t2 (by omega))
    have d3 : w2.cell? ⟨p, 3, none⟩ = some (.map (some L.bw)) := h2.s.blk.cell 3
    clear t2 d2 h2 H0 F0 P0 D0 C0 HH HD c0 c3 lk
    have FIN := Lib.hid (show ∀ w3, MapR w3 col2 B (c + 2) L.bw S.d.N (fun j => if j = n then none else f j) → Tch (c + 2) (c + 3) col2 col2 w2 w3 → StoreL w3 col2 B c p (S.sent n bs) L from fun w3 m3 t3 =>
      H2.out.waitSet t3 ⟨_, m3, (P2.out.keep t3 (by omega)).del n⟩)
    go_wp2_with (first
      | (refine map_drop _ rfl (.tmp 39) (.tmp 40) 55 rfl 34 Try.underlying55 col2 B (c + 2) L.bw S.d.N f rfl F2.out n rfl hkb ?_
         intro w3 m3 t3
         have H3 := Lib.hid (FIN.out w3 m3 t3)
         have T3 := Lib.hid ((T2.out.mono (lo' := c) (hi' := c + 64) (by omega) (by omega)).trans (t3.mono (by omega) (by omega)))
         have D3 := Lib.hid (D2.out.keep t3 (by omega))
         have d2 : w3.cell? ⟨p, 2, none⟩ = some (.map (some L.bc)) := H3.out.s.blk.cell 2
         have lk := look_map (C2.out.keep t3 (by omega)) hkb
         rw [EQ.out] at lk
         clear m3 t3)
      | fail)
    have HU := Lib.hid (use_any w3 col2 B c p _ L n _ bs H3.out HN.out D3.out (Nat.le_trans hB T3.out.size))
    unfold ptr at *
    refine HU.out.mono ?_
    rintro e w7 ⟨rfl, col7, t7, s7⟩
    have T7 := Lib.hid (T3.out.trans (t7.mono (by omega) (by omega)))
    have S7 := Lib.hid s7
    clear t7 s7
    go_wp2_with fail
    go_ret
    exact ⟨col7, rfl, T7.out, by rw [HM.out]; exact S7.out⟩
  · have e1' : fc n = some v := e1
    have e2' : S.chg n = some b4 := e2
    have HM := Lib.hid (show S.home n = S.sent n bs by rw [HHM.out, e2'])
    obtain ⟨g4, cap4, rfl, _⟩ := hd.form
    have heq4 := fun w => Lib.run_eql_slice_nil (P := Try.prog) w 34 5 (some ⟨g4, 0, none⟩) 256 cap4 0 0 Try.underlying34
    have EQ := Lib.hid (show (fc n).getD (.slice none 0 0) = .slice (some ⟨g4, 0, none⟩) 256 cap4 by rw [e1']; rfl)
    clear e1 e2 e1' e2' hd
    go_enter Try.func16, Try.ntmps16
    go_wp2_with fail
    refine HH.out.mono ?_
    rintro e w' ⟨rfl, rfl⟩
    go_wp2_with fail
    refine HD.out.mono ?_
    rintro e w2 ⟨col2, rfl, t2, d2⟩
    have h2 := H0.out.disk t2 d2 rfl
    have H2 := Lib.hid h2
    have T2 := Lib.hid t2
    have F2 := Lib.hid (F0.out.keep t2 (by omega))
    have P2 := Lib.hid (P0.out.keep t2 (by omega))
    have D2 := Lib.hid (D0.out.keep t2 (by omega))
    have C2 := Lib.hid (C0.out.keep t2 (by omega))
    have d3 : w2.cell? ⟨p, 3, none⟩ = some (.map (some L.bw)) := h2.s.blk.cell 3
    clear t2 d2 h2 H0 F0 P0 D0 C0 HH HD c0 c3 lk
    have FIN := Lib.hid (show ∀ w3, MapR w3 col2 B (c + 2) L.bw S.d.N (fun j => if j = n then none else f j) → Tch (c + 2) (c + 3) col2 col2 w2 w3 → StoreL w3 col2 B c p (S.sent n bs) L from fun w3 m3 t3 =>
      H2.out.waitSet t3 ⟨_, m3, (P2.out.keep t3 (by omega)).del n⟩)
    go_wp2_with (first
      | (refine map_drop _ rfl (.tmp 39) (.tmp 40) 55 rfl 34 Try.underlying55 col2 B (c + 2) L.bw S.d.N f rfl F2.out n rfl hkb ?_
         intro w3 m3 t3
         have H3 := Lib.hid (FIN.out w3 m3 t3)
         have T3 := Lib.hid ((T2.out.mono (lo' := c) (hi' := c + 64) (by omega) (by omega)).trans (t3.mono (by omega) (by omega)))
         have D3 := Lib.hid (D2.out.keep t3 (by omega))
         have d2 : w3.cell? ⟨p, 2, none⟩ = some (.map (some L.bc)) := H3.out.s.blk.cell 2
         have lk := look_map (C2.out.keep t3 (by omega)) hkb
         rw [EQ.out] at lk
         clear m3 t3)
      | fail)
    go_ret
    exact ⟨col2, rfl, T3.out, by rw [HM.out]; exact ⟨_, H3.out⟩⟩
/-- What is undone later knows no map that the store has still. -/
def Und.free : Und → Und
  | .w n old => .w n old
  | .h n _ was => .h n false was
def SS.release (S : SS) : SS := { S with held := fun _ => false, undo := S.undo.map Und.free }
theorem MapR.move {w w' : World} {col col' : Col} {B r r' b N : Nat} {f : Int → Option Value} (h : MapR w col B r b N f) (hb : w'.heap[b]? = w.heap[b]?) (hc : col' b = r') : MapR w' col' B r' b N f := by
  obtain ⟨n, D, ⟨es, clock, hb', hm⟩, hh⟩ := h.own
  exact ⟨⟨n, D, ⟨es, clock, hb.trans hb', hm⟩, hh⟩, hc, h.base, h.sup, h.small⟩
theorem StoreL.free {w : World} {col : Col} {B c p : Nat} {S : SS} {L : SL} (h : StoreL w col B c p S L) (hB : B ≤ w.heap.size) :
    ∃ col', Tch c (c + 64) col col' w ((w.alloc (.map #[] 0)).setCell ⟨p, 4, none⟩ (.map (some w.heap.size))) ∧ StoreL ((w.alloc (.map #[] 0)).setCell ⟨p, 4, none⟩ (.map (some w.heap.size))) col' B c p S.release { L with bh := w.heap.size } := by
  have hn := h.shn
  have hcl := h.lo
  have hN := h.d.n
  have hbl : L.bh < w.heap.size := h.held.lt
  have hbc : col L.bh = c + 7 := h.held.c
  obtain ⟨w1, hw1⟩ : ∃ w1, w.alloc (.map #[] 0) = w1 := ⟨_, rfl⟩
  obtain ⟨s, hs⟩ : ∃ s, w.heap.size = s := ⟨_, rfl⟩
  have hs1 : w1.heap.size = s + 1 := by rw [← hw1, ← hs]; simp
  obtain ⟨col', hcol'⟩ : ∃ col', col' = paint (paint col s (c + 7)) L.bh (c + 6) := ⟨_, rfl⟩
  have q1 : col' L.bh = c + 6 := by rw [hcol', paint_self]
  have q2 : col' s = c + 7 := by rw [hcol', paint_other (by omega), paint_self]
  have q3 : ∀ g, g ≠ L.bh → g ≠ s → col' g = col g := fun g h1 h2 => by rw [hcol', paint_other h1, paint_other h2]
  have t1 : Tch (c + 6) (c + 8) col col' w w1 := by
    rw [hcol', ← hw1]
    refine (((Tch.refl _ _ _ _).alloc _).paint (by omega) (by rw [hw1]; omega) (by omega)).repaint (by rw [paint_other (by omega), hbc]; omega) (by omega) (by rw [hw1]; omega)
  have hsk := h.s.keep t1 (by omega)
  have t2 : Tch c (c + 1) col' col' w1 (w1.setCell ⟨p, 4, none⟩ (.map (some s))) := (Tch.refl _ _ _ _).setCell (p := ⟨p, 4, none⟩) (by rw [hsk.c]; omega) _
  rw [hs, hw1]
  have hul : (S.undo.map Und.free).length = S.undo.length := List.length_map _
  refine ⟨col', (t1.mono (by omega) (by omega)).trans (t2.mono (by omega) (by omega)), hsk.set 4 _, (h.chg.keep t1 (by omega) (by omega)).keep t2 (by omega) (by omega), (h.wait.keep t1 (by omega) (by omega)).keep t2 (by omega) (by omega), ?_, ?_, fun i u v k1 k2 => ?_, (h.shs.keep t1 (by omega)).keep t2 (by omega), h.shl, fun i x y k1 k2 => ?_,
    (h.d.keep t1 (by omega) (by omega)).keep t2 (by omega) (by omega), ?_, h.lo, h.shn, h.rm, ?_, t2.tidy (t1.tidy h.tidy)⟩
  · have k := MapR.made w col' B (c + 7) S.d.N hB (by omega) (by rw [hs]; exact q2)
    rw [hs, hw1] at k
    exact (k.keep t2 (by omega)).ext fun k => rfl
  · show Row _ _ _ _ _ _ _ (S.undo.map Und.free).length _
    rw [hul]; exact (h.undo.keep t1 (by omega)).keep t2 (by omega)
  · have k1' : (S.undo.map Und.free)[i]? = some u := k1
    rw [List.getElem?_map] at k1'
    cases hu0 : S.undo[i]? with
    | none => rw [hu0] at k1'; cases k1'
    | some u0 =>
      rw [hu0] at k1'
      have e : u0.free = u := by injection k1'
      have k := h.us i u0 v hu0 k2
      subst e
      cases u0 with
      | w n old =>
        obtain ⟨b7, b3, b4, vo, k⟩ := k
        exact ⟨b7, b3, b4, vo, k.val, (k.o.keep t1 (by omega)).keep t2 (by omega), (k.od.keep t1 (by omega)).keep t2 (by omega), (k.s.keep t1 (by omega)).keep t2 (by omega), (k.nb.keep t1 (by omega)).keep t2 (by omega), k.has⟩
      | h n cur was =>
        obtain ⟨b6, b5, b3, bm, k⟩ := k
        refine ⟨b6, b5, b3, bm, k.val, (k.was.keep t1 (by omega)).keep t2 (by omega), (k.m.keep t1 (by omega)).keep t2 (by omega), ?_, (k.nb.keep t1 (by omega)).keep t2 (by omega), k.has⟩
        rw [if_neg (by simp)]
        have hm := k.mc
        have hz : w1.heap.size ≤ (w1.setCell ⟨p, 4, none⟩ (.map (some s))).heap.size := t2.size
        split at hm
        · rw [hm]; exact ⟨q1, by omega⟩
        · refine ⟨by rw [q3 bm (by intro e; rw [e] at hm; omega) (by omega)]; exact hm.1, by omega⟩
  · have hi := (List.getElem?_eq_some_iff.1 k2).1
    exact ((h.sh i x y k1 k2).keep t1 (by omega) (by omega) (by omega)).keep t2 (by omega) (by omega) (by omega)
  · refine old_keep (w := w1) (a := col') (fun b hb hcb => ?_) (t1.tidy h.tidy) h.lo t2 (by omega)
    by_cases e : b = L.bh
    · subst e
      exact ⟨_, h.held.move (by rw [← hw1]; exact Below.heap_alloc w _ _ hbl) hcb⟩
    · by_cases e2 : b = s
      · rw [e2, q2] at hcb; omega
      · have hbs : b < w.heap.size := by omega
        obtain ⟨f, k⟩ := h.old b hbs (by rw [← q3 b e e2]; exact hcb)
        exact ⟨f, k.move (by rw [← hw1]; exact Below.heap_alloc w _ _ hbs) hcb⟩
  · show (S.undo.map Und.free).length + S.found + S.asked ≤ _
    rw [hul]; exact h.few
theorem srelease_any (w : World) (col : Col) (B c p : Nat) (S : SS) (h : StoreAt w col B c p S) (hB : B ≤ w.heap.size) :
    Calls Try.prog 26 #[ptr p] w fun e w' => e = .returned (.tuple #[]) ∧ ∃ col', Tch c (c + 64) col col' w w' ∧ StoreAt w' col' B c p S.release := by
  obtain ⟨L, h⟩ := h
  have hmm := @run_makeMap Try.prog
  have HB := Lib.hid (sblocks_any w col B c p S L h)
  have hN : (0 : Int) < (S.d.N : Int) := by have := h.d.n; omega
  have h1 := h.keep ((Tch.refl 16 16 col w).alloc (.map #[] 0)) (by omega) (by have := h.lo; omega)
  have c4 : (w.alloc (.map #[] 0)).cell? ⟨p, 4, none⟩ = some (.map (some L.bh)) := h1.s.blk.cell 4
  have z4 : (w.alloc (.map #[] 0)).frozen? ⟨p, 4, none⟩ = false := h1.s.blk.frozen 4
  have FIN := Lib.hid (h.free hB)
  clear h h1
  generalize S.d.N = N at *
  unfold ptr at *
  go_enter Try.func26, Try.ntmps26
  go_wp2_with fail
  refine HB.out.mono ?_
  rintro e w' ⟨rfl, rfl⟩
  go_wp2_with fail
  go_end0
  obtain ⟨col', h1, h2⟩ := FIN.out
  exact ⟨rfl, col', h1, _, h2⟩
end Go.Proofs.Ytomoliickggghaa.Mem

namespace Go.Proofs.Ytomoliickggghaa.Mem
open Go.RowKit Go.Proofs.Ytomoliickggghaa Go.Proofs.Ytomoliickggghaa.Wire
set_option maxHeartbeats 8000000
set_option maxRecDepth 100000
set_option linter.unusedVariables false
set_option linter.unusedSimpArgs false

def SS.fresh (d : DS) (shards room : Nat) : SS := { room := room, chg := fun _ => none, wait := fun _ => none, held := fun _ => false, undo := [], sh := List.replicate shards ([], fun _ => none), found := 0, asked := 0, d := d }
/-- A store that is being made: j shards stand. -/
structure StoreN (w : World) (col : Col) (B c p : Nat) (d : DS) (room j : Nat) (L : SL) : Prop where
  s : Bk w col B c p 60 #[ptr L.dp, .int .i64 room, .map (some L.bc), .map (some L.bw), .map (some L.bh), .slice none 0 0, L.vs, .int .i64 0, .int .i64 0]
  chg : MapB w col B (c + 1) L.bc d.N (fun _ => none)
  wait : MapB w col B (c + 2) L.bw d.N (fun _ => none)
  held : MapR w col B (c + 7) L.bh d.N (heldF fun _ => false)
  shs : Row w col B (c + 5) 80 2 L.vs j (scells L.sh)
  shl : L.sh.length = j
  sh : ∀ (i : Nat) (x : Value × Nat), L.sh[i]? = some x → ShAt w col B c d.N i x ([], fun _ => none)
  d : DiskAt w col B (c + 8) L.dp d
  old : ∀ b, b < w.heap.size → col b ≠ c + 6
  tidy : ∀ b, w.heap.size ≤ b → col b = 0
theorem replicate_get {α : Type} {n i : Nat} {a x : α} (h : (List.replicate n a)[i]? = some x) : i < n ∧ x = a := by
  obtain ⟨h1, h2⟩ := List.getElem?_eq_some_iff.1 h
  rw [List.length_replicate] at h1
  rw [List.getElem_replicate] at h2
  exact ⟨h1, h2.symm⟩
theorem StoreN.done {w : World} {col : Col} {B c p room j : Nat} {d : DS} {L : SL} (h : StoreN w col B c p d room j L) (hc : 16 ≤ c) (hj : 1 ≤ j ∧ j ≤ 16) (hr : 1 ≤ room ∧ room ≤ 256) : StoreL w col B c p (SS.fresh d j room) { L with vu := .slice none 0 0, us := [] } := by
  have hl : (SS.fresh d j room).sh.length = j := List.length_replicate
  refine ⟨h.s, h.chg, h.wait, h.held, Row.nil _ _ _ _ _ _, fun i u v h1 h2 => (by cases h1), by rw [hl]; exact h.shs, by rw [hl]; exact h.shl, fun i x y h1 h2 => ?_, h.d, fun b hb hcb => absurd hcb (h.old b hb), hc, by rw [hl]; exact hj, hr, by simp [SS.fresh], h.tidy⟩
  obtain ⟨_, rfl⟩ := replicate_get h2
  exact h.sh i x h1
theorem StoreN.keep {w w' : World} {a b : Col} {B c p room j lo hi : Nat} {d : DS} {L : SL} (h : StoreN w a B c p d room j L) (ht : Tch lo hi a b w w') (hc : 16 ≤ c) (hlo : 2 ≤ lo ∨ hi ≤ 1) (hj : j ≤ 16) (hr : (c + 16 + 2 * j ≤ lo ∧ hi ≤ c + 64) ∨ hi ≤ c) : StoreN w' b B c p d room j L := by
  refine ⟨h.s.keep ht (by omega), h.chg.keep ht hlo (by omega), h.wait.keep ht hlo (by omega), h.held.keep ht (by omega), h.shs.keep ht (by omega), h.shl, fun i x h1 => ?_, h.d.keep ht hlo (by omega), fun g hg he => ?_, ht.tidy h.tidy⟩
  · have hi := (List.getElem?_eq_some_iff.1 h1).1
    have := h.shl
    exact (h.sh i x h1).keep ht hlo (by omega) (by omega)
  · rcases Nat.lt_or_ge g w.heap.size with h1 | h1
    · by_cases e : lo ≤ a g ∧ a g < hi
      · have := ht.stay g h1 e; omega
      · rw [ht.hue g h1 e] at he; exact h.old g h1 he
    · rcases ht.neu g h1 with e | e | e
      · omega
      · omega
      · rw [h.tidy g h1] at e; omega
theorem infoShard : (Try.prog.info? 80).map (fun i => (i.zero, i.size, i.bytes)) = some (some (.agg #[.slice none 0 0, .map none]), 2, 32) := by kernel_rfl
theorem snew_no (w : World) (col : Col) (B c p : Nat) (d : DS) (sh rm : Int) (h : DiskAt w col B c p d) (hb : sh < 1 ∨ 16 < sh ∨ rm < 1 ∨ 256 < rm) :
    Calls Try.prog 11 #[ptr p, .int .i64 sh, .int .i64 rm] w fun e w' => e = .returned (.tuple #[.pointer none, .int .i64 22]) ∧ w = w' := by
  have HB := Lib.hid (blocks_any w col B c p d h)
  have hN : (((d.N : Nat) : Int) == 0) = false := by have := h.n; simp; omega
  clear h
  generalize d.N = N at *
  unfold ptr at *
  by_cases h1 : sh < 1
  · clear hb
    go_enter Try.func11, Try.ntmps11
    go_wp2_with fail
    refine HB.out.mono ?_
    rintro e w' ⟨rfl, rfl⟩
    go_wp2_with fail
    go_ret2
    exact ⟨rfl, rfl⟩
  by_cases h2 : 16 < sh
  · clear hb
    go_enter Try.func11, Try.ntmps11
    go_wp2_with fail
    refine HB.out.mono ?_
    rintro e w' ⟨rfl, rfl⟩
    go_wp2_with fail
    go_ret2
    exact ⟨rfl, rfl⟩
  by_cases h3 : rm < 1
  · clear hb
    go_enter Try.func11, Try.ntmps11
    go_wp2_with fail
    refine HB.out.mono ?_
    rintro e w' ⟨rfl, rfl⟩
    go_wp2_with fail
    go_ret2
    exact ⟨rfl, rfl⟩
  have h4 : 256 < rm := by omega
  clear hb
  go_enter Try.func11, Try.ntmps11
  go_wp2_with fail
  refine HB.out.mono ?_
  rintro e w' ⟨rfl, rfl⟩
  go_wp2_with fail
  go_ret2
  exact ⟨rfl, rfl⟩
/-- The world of a new store without shards. -/
theorem snew_start (w : World) (col : Col) (B c dp room : Nat) (d : DS) (h : DiskAt w col B (c + 8) dp d) (hc : 16 ≤ c) (hB : B ≤ w.heap.size) (ht : ∀ b, w.heap.size ≤ b → col b = 0) (ho : ∀ b, b < w.heap.size → col b ≠ c + 6) (w' : World)
    (hw : (((w.alloc (.map #[] 0)).alloc (.map #[] 0)).alloc (.map #[] 0)).alloc (.cells #[ptr dp, .int .i64 room, .map (some w.heap.size), .map (some (w.heap.size + 1)), .map (some (w.heap.size + 2)), .slice none 0 0, .slice none 0 0, .int .i64 0, .int .i64 0] 60) = w') :
    ∃ col' L, Tch c (c + 8) col col' w w' ∧ StoreN w' col' B c (w.heap.size + 3) d room 0 L ∧ L.vs = .slice none 0 0 := by
  obtain ⟨s, hs⟩ : ∃ s, w.heap.size = s := ⟨_, rfl⟩
  obtain ⟨w1, hw1⟩ : ∃ w1, w.alloc (.map #[] 0) = w1 := ⟨_, rfl⟩
  obtain ⟨w2, hw2⟩ : ∃ w2, w1.alloc (.map #[] 0) = w2 := ⟨_, rfl⟩
  obtain ⟨w3, hw3⟩ : ∃ w3, w2.alloc (.map #[] 0) = w3 := ⟨_, rfl⟩
  rw [hw1, hw2, hw3, hs] at hw
  have s1 : w1.heap.size = s + 1 := by rw [← hw1, ← hs]; simp
  have s2 : w2.heap.size = s + 2 := by rw [← hw2]; simp [s1]
  have s3 : w3.heap.size = s + 3 := by rw [← hw3]; simp [s2]
  have s4 : w'.heap.size = s + 4 := by rw [← hw]; simp [s3]
  obtain ⟨col', hcol⟩ : ∃ col', col' = paint (paint (paint (paint col s (c + 1)) (s + 1) (c + 2)) (s + 2) (c + 7)) (s + 3) c := ⟨_, rfl⟩
  have q0 : col' s = c + 1 := by rw [hcol, paint_other (by omega), paint_other (by omega), paint_other (by omega), paint_self]
  have q1 : col' (s + 1) = c + 2 := by rw [hcol, paint_other (by omega), paint_other (by omega), paint_self]
  have q2 : col' (s + 2) = c + 7 := by rw [hcol, paint_other (by omega), paint_self]
  have q3 : col' (s + 3) = c := by rw [hcol, paint_self]
  have q : ∀ g, g ≠ s → g ≠ s + 1 → g ≠ s + 2 → g ≠ s + 3 → col' g = col g := fun g a b c d => by rw [hcol, paint_other d, paint_other c, paint_other b, paint_other a]
  have t : Tch 16 16 col col w w' := by rw [← hw, ← hw3, ← hw2, ← hw1]; exact ((((Tch.refl _ _ _ _).alloc _).alloc _).alloc _).alloc _
  have t' : Tch c (c + 8) col col' w w' := by
    rw [hcol]
    exact ((((t.any (lo' := c) (hi' := c + 8) (Nat.le_refl _)).paint (by omega) (by omega) (by omega)).paint (by omega) (by omega) (by omega)).paint (by omega) (by omega) (by omega)).paint (by omega) (by omega) (by omega)
  have r1 : Tch 16 16 col' col' w1 w' := by rw [← hw, ← hw3, ← hw2]; exact (((Tch.refl _ _ _ _).alloc _).alloc _).alloc _
  have r2 : Tch 16 16 col' col' w2 w' := by rw [← hw, ← hw3]; exact ((Tch.refl _ _ _ _).alloc _).alloc _
  have r3 : Tch 16 16 col' col' w3 w' := by rw [← hw]; exact (Tch.refl _ _ _ _).alloc _
  have hN := h.n
  have m1 := MapB.made w col' B (c + 1) d.N hB (by omega) (by rw [hs]; exact q0)
  have m2 := MapB.made w1 col' B (c + 2) d.N (by omega) (by omega) (by rw [s1]; exact q1)
  have m3 := MapR.made w2 col' B (c + 7) d.N (by omega) (by omega) (by rw [s2]; exact q2)
  rw [hs, hw1] at m1
  rw [s1, hw2] at m2
  rw [s2, hw3] at m3
  have b4 := Blk.new w3 60 #[ptr dp, .int .i64 room, .map (some s), .map (some (s + 1)), .map (some (s + 2)), .slice none 0 0, .slice none 0 0, .int .i64 0, .int .i64 0]
  rw [hw, s3] at b4
  rw [hs]
  refine ⟨col', ⟨dp, s, s + 1, s + 2, .slice none 0 0, .slice none 0 0, [], []⟩, t', ⟨⟨b4, q3, by omega⟩, m1.keep r1 (by omega) (by omega), m2.keep r2 (by omega) (by omega), (m3.keep r3 (by omega)).ext fun k => rfl, Row.nil _ _ _ _ _ _, rfl, fun i x h => (by cases h), h.keep t' (by omega) (by omega), fun g hg he => ?_, t'.tidy ht⟩, rfl⟩
  by_cases e0 : g = s
  · subst e0; omega
  by_cases e1 : g = s + 1
  · subst e1; omega
  by_cases e2 : g = s + 2
  · subst e2; omega
  by_cases e3 : g = s + 3
  · subst e3; omega
  rw [q g e0 e1 e2 e3] at he
  exact ho g (by omega) he
end Go.Proofs.Ytomoliickggghaa.Mem

namespace Go.Proofs
open Go.Shelf
def Try.keysA_ren : Go.Shelf.Ren := ⟨fun | 7 => 49 | 10 => 68 | n => n, fun | 23 => 55 | 26 => 3 | 3 => 34 | 28 => 91 | 0 => 0 | 27 => 90 | 33 => 46 | 4 => 4 | n => n, fun | n => n⟩
theorem Try.keysA : Go.Proofs.SlLaysZI.n7 Try.prog Try.keysA_ren := {
  mixed := by kernel_rfl
  f7 := ⟨Try.f49.name, by decide, Try.func49.trans (congrArg some (by kernel_rfl))⟩
  f10 := ⟨Try.f68.name, by decide, Try.func68.trans (congrArg some (by kernel_rfl))⟩
  t0 := Try.underlying0
  a0 := Try.isAgg0
  z0 := Try.sizeOf0
  v0 := Try.zeroValue0
  t4 := Try.underlying4
  a4 := Try.isAgg4
  z4 := Try.sizeOf4
  v4 := Try.zeroValue4
  t23 := Try.underlying55
  a23 := Try.isAgg55
  z23 := Try.sizeOf55
  v23 := Try.zeroValue55
  t26 := Try.underlying3
  a26 := Try.isAgg3
  z26 := Try.sizeOf3
  v26 := Try.zeroValue3
  t27 := Try.underlying90
  a27 := Try.isAgg90
  z27 := Try.sizeOf90
  v27 := Try.zeroValue90
  t28 := Try.underlying91
  a28 := Try.isAgg91
  z28 := Try.sizeOf91
  v28 := Try.zeroValue91
  t33 := Try.underlying46
  a33 := Try.isAgg46
  z33 := Try.sizeOf46
  v33 := Try.zeroValue46 }
def Try.sortedA_ren : Go.Shelf.Ren := ⟨fun | 6 => 48 | 8 => 66 | 9 => 67 | 11 => 76 | 13 => 78 | 12 => 77 | 23 => 88 | 24 => 89 | 14 => 79 | 15 => 80 | 16 => 81 | 17 => 82 | 18 => 83 | 19 => 84 | 20 => 85 | 21 => 86 | 22 => 87 | 25 => 90 | 26 => 91 | 27 => 92 | 28 => 93 | 29 => 94 | 30 => 95 | 31 => 96 | n => n, fun | 26 => 3 | 28 => 91 | 24 => 42 | 0 => 0 | 3 => 3 | 37 => 107 | 48 => 118 | 50 => 120 | 4 => 4 | 40 => 110 | 39 => 109 | 45 => 115 | 5 => 5 | 9 => 9 | 51 => 121 | 55 => 125 | 57 => 127 | 58 => 62 | 33 => 46 | n => n, fun | n => n⟩
theorem Try.sortedA : Go.Proofs.SlLaysZI.n6 Try.prog Try.sortedA_ren := {
  mixed := by kernel_rfl
  f6 := ⟨Try.f48.name, by decide, Try.func48.trans (congrArg some (by kernel_rfl))⟩
  f8 := ⟨Try.f66.name, by decide, Try.func66.trans (congrArg some (by kernel_rfl))⟩
  f11 := ⟨Try.f76.name, by decide, Try.func76.trans (congrArg some (by kernel_rfl))⟩
  t0 := Try.underlying0
  a0 := Try.isAgg0
  z0 := Try.sizeOf0
  v0 := Try.zeroValue0
  t24 := Try.underlying42
  a24 := Try.isAgg42
  z24 := Try.sizeOf42
  v24 := Try.zeroValue42
  t26 := Try.underlying3
  a26 := Try.isAgg3
  z26 := Try.sizeOf3
  v26 := Try.zeroValue3
  t28 := Try.underlying91
  a28 := Try.isAgg91
  z28 := Try.sizeOf91
  v28 := Try.zeroValue91
  i26 := by kernel_rfl }
def Try.sortA_ren : Go.Shelf.Ren := ⟨fun | 5 => 67 | 8 => 78 | 7 => 77 | 19 => 88 | 20 => 89 | 10 => 79 | 11 => 80 | 12 => 81 | 13 => 82 | 14 => 83 | 15 => 84 | 16 => 85 | 17 => 86 | 18 => 87 | 30 => 90 | 31 => 91 | 32 => 92 | 33 => 93 | 34 => 94 | 35 => 95 | 40 => 96 | n => n, fun | 23 => 42 | 25 => 3 | 3 => 3 | 32 => 107 | 22 => 42 | 0 => 0 | 44 => 118 | 46 => 120 | 4 => 4 | 36 => 110 | 35 => 109 | 41 => 115 | 5 => 5 | 9 => 9 | 53 => 121 | 57 => 125 | 63 => 127 | 64 => 62 | n => n, fun | n => n⟩
theorem Try.sortA : Go.Proofs.SlLaysM.n5 Try.prog Try.sortA_ren := {
  mixed := by kernel_rfl
  f5 := ⟨Try.f67.name, by decide, Try.func67.trans (congrArg some (by kernel_rfl))⟩
  f7 := ⟨Try.f77.name, by decide, Try.func77.trans (congrArg some (by kernel_rfl))⟩
  f8 := Try.func78.trans (congrArg some (by kernel_rfl))
  f10 := ⟨Try.f79.name, by decide, Try.func79.trans (congrArg some (by kernel_rfl))⟩
  f11 := ⟨Try.f80.name, by decide, Try.func80.trans (congrArg some (by kernel_rfl))⟩
  f12 := ⟨Try.f81.name, by decide, Try.func81.trans (congrArg some (by kernel_rfl))⟩
  f13 := ⟨Try.f82.name, by decide, Try.func82.trans (congrArg some (by kernel_rfl))⟩
  f14 := ⟨Try.f83.name, by decide, Try.func83.trans (congrArg some (by kernel_rfl))⟩
  f15 := ⟨Try.f84.name, by decide, Try.func84.trans (congrArg some (by kernel_rfl))⟩
  f16 := ⟨Try.f85.name, by decide, Try.func85.trans (congrArg some (by kernel_rfl))⟩
  f17 := ⟨Try.f86.name, by decide, Try.func86.trans (congrArg some (by kernel_rfl))⟩
  f18 := ⟨Try.f87.name, by decide, Try.func87.trans (congrArg some (by kernel_rfl))⟩
  f19 := Try.func88.trans (congrArg some (by kernel_rfl))
  f20 := Try.func89.trans (congrArg some (by kernel_rfl))
  f30 := ⟨Try.f90.name, by decide, Try.func90.trans (congrArg some (by kernel_rfl))⟩
  f31 := Try.func91.trans (congrArg some (by kernel_rfl))
  f32 := Try.func92.trans (congrArg some (by kernel_rfl))
  f33 := ⟨Try.f93.name, by decide, Try.func93.trans (congrArg some (by kernel_rfl))⟩
  f34 := ⟨Try.f94.name, by decide, Try.func94.trans (congrArg some (by kernel_rfl))⟩
  f35 := ⟨Try.f95.name, by decide, Try.func95.trans (congrArg some (by kernel_rfl))⟩
  f40 := ⟨Try.f96.name, by decide, Try.func96.trans (congrArg some (by kernel_rfl))⟩
  t0 := Try.underlying0
  a0 := Try.isAgg0
  z0 := Try.sizeOf0
  v0 := Try.zeroValue0
  t3 := Try.underlying3
  a3 := Try.isAgg3
  z3 := Try.sizeOf3
  v3 := Try.zeroValue3
  t4 := Try.underlying4
  a4 := Try.isAgg4
  z4 := Try.sizeOf4
  v4 := Try.zeroValue4
  t5 := Try.underlying5
  a5 := Try.isAgg5
  z5 := Try.sizeOf5
  v5 := Try.zeroValue5
  t9 := Try.underlying9
  a9 := Try.isAgg9
  z9 := Try.sizeOf9
  v9 := Try.zeroValue9
  t22 := Try.underlying42
  a22 := Try.isAgg42
  z22 := Try.sizeOf42
  v22 := Try.zeroValue42
  t23 := Try.underlying42
  a23 := Try.isAgg42
  z23 := Try.sizeOf42
  v23 := Try.zeroValue42
  t25 := Try.underlying3
  a25 := Try.isAgg3
  z25 := Try.sizeOf3
  v25 := Try.zeroValue3
  t32 := Try.underlying107
  a32 := Try.isAgg107
  z32 := Try.sizeOf107
  v32 := Try.zeroValue107
  t35 := Try.underlying109
  a35 := Try.isAgg109
  z35 := Try.sizeOf109
  v35 := Try.zeroValue109
  t36 := Try.underlying110
  a36 := Try.isAgg110
  z36 := Try.sizeOf110
  v36 := Try.zeroValue110
  t41 := Try.underlying115
  a41 := Try.isAgg115
  z41 := Try.sizeOf115
  v41 := Try.zeroValue115
  t44 := Try.underlying118
  a44 := Try.isAgg118
  z44 := Try.sizeOf118
  v44 := Try.zeroValue118
  t46 := Try.underlying120
  a46 := Try.isAgg120
  z46 := Try.sizeOf120
  v46 := Try.zeroValue120
  t53 := Try.underlying121
  a53 := Try.isAgg121
  z53 := Try.sizeOf121
  v53 := Try.zeroValue121
  t57 := Try.underlying125
  a57 := Try.isAgg125
  z57 := Try.sizeOf125
  v57 := Try.zeroValue125
  t63 := Try.underlying127
  a63 := Try.isAgg127
  z63 := Try.sizeOf127
  v63 := Try.zeroValue127
  t64 := Try.underlying62
  a64 := Try.isAgg62
  z64 := Try.sizeOf62
  v64 := Try.zeroValue62 }
end Go.Proofs

namespace Go.Proofs.Ytomoliickggghaa.Mem
open Go.RowKit Go.Proofs.Ytomoliickggghaa Go.Maps Go.Sort Go.Shelf Go.Proofs
set_option maxHeartbeats 8000000
set_option maxRecDepth 100000
set_option linter.unusedVariables false

theorem sorts (m : Nat) : AnyZI.SortsIn Try.prog Try.sortedA_ren Fence.wide m :=
  ⟨fun blk off cap ss W hH hblk hsz => callsIn_wide.2 (AnyM.slices_Sort_int Try.sortA blk off cap ss W hH hblk hsz),
   fun p cap W => callsIn_wide.2 (AnyM.slices_Sort_int_none Try.sortA p cap W)⟩
theorem keys_call (mb : Option Nat) (W : World) : Calls Try.prog 49 #[.map mb] W fun e w' => e = .returned (.func (.func 68) #[] #[.pointer (some ⟨W.heap.size, 0, none⟩)]) ∧ w' = W.alloc (.cells #[.map mb] 55) :=
  callsIn_wide.1 (AnyZI.keys_in Try.keysA Fence.wide 5 trivial rfl mb W)
theorem sorted_call {H : Type} (b nn : Nat) (D0 : DataW H) (R : Value → Option (DataW H × List MemPlace)) (w : World) (hown : w.ownsMap Try.prog 3 R b nn D0) (hmax : Maps.size D0 ≤ maxLen) (hbytes : Maps.size D0 * 8 ≤ 140737488355328) :
    Calls Try.prog 48 #[.func (.func 68) #[] #[.pointer (some ⟨w.heap.size, 0, none⟩)]] (w.alloc (.cells #[.map (some b)] 55)) fun e w' => ∃ (v : Value) (ss : List Int), e = .returned v ∧ ss.Perm (intKeys D0) ∧
      w'.ownsRow w.heap.size 3 1 v ss.length ((ss.mergeSort (fun x y => decide (x ≤ y))).map encZ) ∧ Below w.heap.size w w' := by
  have hbl := hown.lt
  have hseq : SeqGives Fence.wide 2 Try.prog 68 #[.pointer (some ⟨w.heap.size, 0, none⟩)] encZ (fun ss => ss.Perm (intKeys D0)) (Maps.size D0) (w.alloc (.cells #[.map (some b)] 55)) :=
    AnyZI.keys_gives (ρ := Try.keysA_ren) { Try.keysA with } Fence.wide _ trivial rfl (by omega) w.heap.size b nn D0 _ (by simp) (by simp) (by
      obtain ⟨es, clock, hb, Ft, hs, hD⟩ := hown
      exact ⟨es, clock, (Below.heap_alloc _ _ b hbl).trans hb, Ft, hs, hD⟩)
  have cS := AnyZI.sorted_in Try.sortedA Fence.wide 5 trivial trivial trivial trivial rfl (by omega) (sorts _) (enters_of Try.func67 (by kernel_rfl) rfl) 68 #[.pointer (some ⟨w.heap.size, 0, none⟩)] trivial (enters_of Try.func68 (by kernel_rfl) rfl) _ _ hmax hbytes _ hseq
  change CallsIn _ _ Try.prog 48 _ _ _ at cS
  refine (callsIn_wide.1 cS).mono ?_
  rintro e w' ⟨v, ss, rfl, hS, hrow, hnil, hb⟩
  exact ⟨v, ss, rfl, hS, ownsRow_base_a hrow (by simp), ((Below.refl _ w).alloc (Nat.le_refl _) _).trans (hb.mono (by simp))⟩
/-- The numbers that a map knows, rising. -/
def keysOf {α : Type} (N : Nat) (f : Int → Option α) : List Int := ((List.range N).map Int.ofNat).filter fun k => (f k).isSome
theorem keysOf_mem {α : Type} {N : Nat} {f : Int → Option α} {x : Int} : x ∈ keysOf N f ↔ (0 ≤ x ∧ x < (N : Int)) ∧ (f x).isSome = true := by
  rw [keysOf, List.mem_filter, List.mem_map]
  constructor
  · rintro ⟨⟨a, ha, rfl⟩, h⟩
    rw [List.mem_range] at ha
    exact ⟨⟨Int.natCast_nonneg a, by show ((a : Nat) : Int) < _; omega⟩, h⟩
  · rintro ⟨⟨h0, h1⟩, h⟩
    exact ⟨⟨x.toNat, by rw [List.mem_range]; omega, by show ((x.toNat : Nat) : Int) = x; omega⟩, h⟩
theorem keysOf_lt {α : Type} (N : Nat) (f : Int → Option α) : (keysOf N f).Pairwise (· < ·) := by
  refine List.Pairwise.filter _ ?_
  rw [List.pairwise_map]
  exact List.pairwise_lt_range.imp fun {a b} h => by show ((a : Nat) : Int) < (b : Int); omega
theorem keysOf_len {α : Type} (N : Nat) (f : Int → Option α) : (keysOf N f).length ≤ N := by
  have := List.length_filter_le (fun k => (f k).isSome) ((List.range N).map Int.ofNat)
  rw [List.length_map, List.length_range] at this
  exact this
theorem keysOf_ext {α β : Type} {N : Nat} {f : Int → Option α} {g : Int → Option β} (h : ∀ k, (f k).isSome = (g k).isSome) : keysOf N f = keysOf N g := by
  unfold keysOf
  congr 1
  exact funext h
theorem keysOf_sorted {α : Type} (N : Nat) (f : Int → Option α) : (keysOf N f).mergeSort leI = keysOf N f :=
  List.mergeSort_of_pairwise ((keysOf_lt N f).imp fun h => by simp only [leI, decide_eq_true_eq]; omega)
theorem MapR.perm {w : World} {col : Col} {B r b N : Nat} {f : Int → Option Value} (h : MapR w col B r b N f) {n : Nat} {D : DataW Value} (hm : w.ownsMap Try.prog 3 RV b n D) (hh : ∀ k, KB k → Maps.has D (.int .i64 k) = (f k).isSome) : (keysOf N f).Perm (intKeys D) := by
  have hN := h.small
  obtain ⟨es, rfl, hp, hk⟩ := has_key hm
  refine perm_intKeys hp (fun p hp => by obtain ⟨k, h1, _⟩ := hk p hp; exact ⟨k, h1⟩) ((keysOf_lt N f).imp fun h => by omega) fun x => ?_
  rw [keysOf_mem]
  by_cases hx : KB x
  · rw [hh x hx]
    constructor
    · exact fun h => h.2
    · intro hs
      obtain ⟨v, hv⟩ := Option.isSome_iff_exists.1 hs
      exact ⟨h.sup x v hv, hs⟩
  · constructor
    · rintro ⟨⟨h0, h1⟩, _⟩
      exact absurd ⟨by omega, by omega⟩ hx
    · intro hs
      rw [has_eq, List.any_eq_true] at hs
      obtain ⟨p, hpm, hs⟩ := hs
      obtain ⟨k, hk1, hk2⟩ := hk p hpm
      rw [hk1] at hs
      have : k = x := by simpa [Lit.sameKey] using hs
      exact absurd (this ▸ hk2) hx
/-- Sorted keys: what they are. -/
theorem sorted_any (w : World) (col : Col) (B r b N : Nat) (m : Int → Option Bytes) (h : MapB w col B r b N m) :
    Calls Try.prog 48 #[.func (.func 68) #[] #[.pointer (some ⟨w.heap.size, 0, none⟩)]] (w.alloc (.cells #[.map (some b)] 55)) fun e w' => ∃ (v : Value), e = .returned v ∧
      w'.ownsRow w.heap.size 3 1 v (keysOf N m).length (ints (keysOf N m)) ∧ Below w.heap.size w w' := by
  obtain ⟨f, hf, hp⟩ := h.ex
  obtain ⟨n, D, hm, hh, _⟩ := hf.own
  have hs := hf.size hm hh
  have hN := hf.small
  have hkm : keysOf N m = keysOf N f := keysOf_ext fun k => by
    rcases hp k with ⟨e1, e2⟩ | ⟨v, bs, e1, e2, _⟩
    · rw [e1, e2]; rfl
    · rw [e1, e2]; rfl
  have hperm := hf.perm hm hh
  refine (sorted_call b n D RV w hm (by unfold maxLen; omega) (by omega)).mono ?_
  rintro e w' ⟨v, ss, rfl, hS, hrow, hb⟩
  refine ⟨v, rfl, ?_, hb⟩
  have e1 : ss.mergeSort (fun x y => decide (x ≤ y)) = keysOf N m := by
    rw [hkm, ← keysOf_sorted N f]
    exact mergeSort_of_perm_i (hS.trans hperm.symm)
  have e2 : ss.length = (keysOf N m).length := by rw [← e1]; exact (List.length_mergeSort ss).symm
  rw [e1, e2] at hrow
  exact hrow
end Go.Proofs.Ytomoliickggghaa.Mem

namespace Go.Proofs.Ytomoliickggghaa.Mem
open Go.RowKit Go.Proofs.Ytomoliickggghaa Go.Proofs.Ytomoliickggghaa.Wire
set_option maxHeartbeats 8000000
set_option maxRecDepth 100000
set_option linter.unusedVariables false
set_option linter.unusedSimpArgs false

def SS.changed (S : SS) : List Int := keysOf S.d.N S.chg
theorem schanged_any (w : World) (col : Col) (B c p : Nat) (S : SS) (L : SL) (h : StoreL w col B c p S L) :
    Calls Try.prog 19 #[ptr p] w fun e w' => ∃ v, e = .returned v ∧ Below w.heap.size w w' ∧ Row w' col w.heap.size 0 3 1 v S.changed.length (ints S.changed) := by
  have HS := Lib.hid (sorted_any w col B (c + 1) L.bc S.d.N S.chg h.chg)
  have c2 : w.cell? ⟨p, 2, none⟩ = some (.map (some L.bc)) := h.s.blk.cell 2
  have TD := Lib.hid h.tidy
  clear h
  unfold ptr
  go_enter Try.func19, Try.ntmps19
  go_wp2_with fail
  refine (keys_call (some L.bc) w).mono ?_
  rintro e w' ⟨rfl, rfl⟩
  go_wp2_with fail
  refine HS.out.mono ?_
  rintro e w' ⟨v, rfl, ho, hb⟩
  have HO := Lib.hid ho
  have HB := Lib.hid hb
  clear ho hb
  go_wp2_with fail
  go_ret
  exact ⟨v, rfl, HB.out, HO.out, fun g hg => TD.out g (HO.out.lt g hg).1⟩
theorem schanged_nil (w : World) : Calls Try.prog 19 #[.pointer none] w fun e w' => e = .returned (.slice none 0 0) ∧ w = w' := by
  go_enter Try.func19, Try.ntmps19
  go_wp2_with fail
  go_ret
  exact ⟨rfl, rfl⟩
/-- Writes of a map's blocks, by rising numbers. -/
def wsOf (N : Nat) (m : Int → Option Bytes) : List (Int × Bytes) := (keysOf N m).map fun k => (k, (m k).getD [])
/-- Rows of writes of the caller's own: the list of colour 2, each one's bytes in a row of colour 3. -/
structure WrO (w : World) (col : Col) (B : Nat) (v : Value) (l : List (Int × Bytes)) : Prop where
  ex : ∃ vs : List (Int × Value), Row w col B 2 51 2 v l.length (wcells vs) ∧ vs.map (·.1) = l.map (·.1) ∧
    (∀ (i : Nat) (p : Int × Value) (q : Int × Bytes), vs[i]? = some p → l[i]? = some q → Row w col B 3 5 1 p.2 256 (bvl q.2))
theorem WrO.nil (w : World) (col : Col) (B : Nat) : WrO w col B (.slice none 0 0) [] := ⟨[], Row.nil _ _ _ _ _ _, rfl, fun i p q h => by cases h⟩
theorem WrO.keep {w w' : World} {a b : Col} {B lo hi : Nat} {v : Value} {l : List (Int × Bytes)} (h : WrO w a B v l) (ht : Tch lo hi a b w w') (hr : 4 ≤ lo ∨ hi ≤ 2) : WrO w' b B v l := by
  obtain ⟨vs, h1, h2, h3⟩ := h.ex
  exact ⟨vs, h1.keep ht (by omega), h2, fun i p q hp hq => (h3 i p q hp hq).keep ht (by omega)⟩
theorem Tch.fresh {lo hi : Nat} {a b : Col} {w w' : World} (h : Tch lo hi a b w w') (hh : hi ≤ 16) (hb : Below w.heap.size w w') (hc : ∀ g, g < w.heap.size → b g = a g) : Tch 16 16 a b w w' :=
  ⟨h.os, h.tape, h.output, h.size, fun i hi _ => hc i hi, fun i hi hn => by omega, fun i hi _ => hb.block i hi, h.tidy, fun i hi => by
    rcases h.neu i hi with e | e | e
    · exact .inl e
    · exact .inl (by omega)
    · exact .inr (.inr e)⟩
/-- app_row, with the word on what is written. -/
theorem app_row_by {P : Program} (w : World) {ops : Array Oper} {rest : List Oper} {o : Oper} {a : Act} {Q : Exit → Act → World → Prop} (T E : TypeId) (z : Value) (size bytes : Nat)
    (ht : P.underlying T = some (.slice E)) (hinf : (P.info? E).map (fun i => (i.zero, i.size, i.bytes)) = some (some z, size, bytes)) (hzs : z.cells.size = size) (hsz : 0 < size)
    (hgd : o.guard = none) (s x : Operand) (ho : o.op = .call { callee := .builtin .append, args := #[s, x], argTypes := #[T, T] })
    (col : Col) (B r lo hi : Nat) (v : Value) (n : Nat) (xs : List Value) (hs : a.eval s = v) (hrow : Row w col B r E size v n xs) (hr : lo ≤ r ∧ r < hi)
    (ad : Addr) (m c : Nat) (news : List Value) (hx : a.eval x = .slice (some ad) m c) (hb : RowAt w (some ad) (m * size) news) (h1 : ∀ u ∈ news, u.oneCell' = true)
    (h63 : n + m ≤ maxLen) (hbd : (n + m) * bytes ≤ 140737488355328) (hbase : B ≤ w.heap.size)
    (h : ∀ v' w' col', Row w' col' B r E size v' (n + m) (xs ++ news) → Tch lo hi col col' w w' → Below B w w' → (∀ g, g < B → col' g = col g) → wpList P ops Q rest (a.put o.dst v') w') : wpList P ops Q (o :: rest) a w := by
  obtain ⟨i0, hi0, hz0, hz1, hz2⟩ := info_parts hinf
  have hgr : ∀ g, v.ownBlock = some g → g < w.heap.size → lo ≤ col g ∧ col g < hi := fun g e _ => by rw [hrow.c g e]; exact hr
  refine wpList_plain hgd fun K hK => ?_
  have hn : ∀ j u, news[j]? = some u → w.cell? (ad.add j) = some u := fun j u hu => by
    obtain ⟨a', e', hc⟩ := hb.2 (by have := (List.getElem?_eq_some_iff.1 hu).1; have := hb.len; omega)
    obtain rfl : ad = a' := by simpa using e'
    exact hc j u hu
  obtain ⟨v', w', hr', h2, h3, h4⟩ := run_append_where P w B T o.type E i0 z size bytes ht hi0 hz0 hz1 hz2 hzs hsz v n xs hrow.own ad m c news hb.len hn h1 h63 hbd hbase
  have hbel : Below B w w' := ⟨h3.os, h3.tape, h3.output, h3.size, fun i hi => h3.block i (Nat.lt_of_lt_of_le hi hbase) (fun e => by have := (hrow.own.lt i e.symm).1; omega)⟩
  unfold Oper.wp execOp
  simp only [ho, resolve, invoke, builtin, Sem.run_bind, Sem.run_pure, Result.andThen_ok, List.map_toArray, List.map_cons, List.map_nil, hs, hx, hr']
  refine hK _ _ ?_
  rcases h4 with h4 | h4
  · exact h v' w' col ⟨h2, fun g e => hrow.c g (by rw [← h4]; exact e)⟩ (Tch.of_grown h3 hgr) hbel (fun _ _ => rfl)
  · refine h v' w' (paint col w.heap.size r) ⟨h2, fun g e => ?_⟩ ((Tch.of_grown h3 hgr).paint (Nat.le_refl _) (h2.lt _ h4).2 (.inr hr)) hbel (fun g hg => paint_other (by omega))
    rw [h4] at e
    injection e with e
    rw [← e, paint_self]
theorem writes_any (w : World) (col : Col) (B r b N : Nat) (m : Int → Option Bytes) (h : MapB w col B r b N m) (hr : 16 ≤ r) (hN : N ≤ 4096) (ht0 : ∀ b, w.heap.size ≤ b → col b = 0) :
    Calls Try.prog 44 #[.map (some b)] w fun e w' => ∃ v col', e = .returned v ∧ Tch 16 16 col col' w w' ∧ WrO w' col' w.heap.size v (wsOf N m) := by
  have HS := Lib.hid (sorted_any w col B r b N m h)
  obtain ⟨ks, hks⟩ : ∃ ks, keysOf N m = ks := ⟨_, rfl⟩
  have HM := Lib.hid h
  have KL := Lib.hid (show ks.length ≤ N from hks ▸ keysOf_len N m)
  have KM := Lib.hid (show ∀ k ∈ ks, (0 ≤ k ∧ k < (N : Int)) ∧ ∃ bs, m k = some bs from fun k hk => by
    rw [← hks, keysOf_mem] at hk
    exact ⟨hk.1, Option.isSome_iff_exists.1 hk.2⟩)
  have HW := Lib.hid (show wsOf N m = ks.map fun k => (k, (m k).getD []) by rw [wsOf, hks])
  rw [hks] at HS
  clear h hks
  go_enter Try.func44, Try.ntmps44
  go_wp2_with fail
  refine (keys_call (some b) w).mono ?_
  rintro e w' ⟨rfl, rfl⟩
  go_wp2_with fail
  refine HS.out.mono ?_
  rintro e w2 ⟨v2, rfl, ho, hb⟩
  have T2 := Lib.hid (show Tch 16 16 col col w w2 from Tch.of_below hb)
  have B2 := Lib.hid hb
  obtain ⟨A, kcap, rfl, hA, hkc, hkm, hg⟩ := row_len (show Row w2 col w.heap.size 0 3 1 v2 ks.length (ints ks) from ⟨ho, fun g hg => ht0 g (ho.lt g hg).1⟩)
  have RK := Lib.hid (show Row w2 col w.heap.size 0 3 1 (.slice A ks.length kcap) ks.length (ints ks) from ⟨ho, fun g hg => ht0 g (ho.lt g hg).1⟩)
  obtain ⟨len, hlen⟩ : ∃ len, ks.length = len := ⟨_, rfl⟩
  rw [hlen] at RK hkc hg KL ⊢
  have HL := Lib.hid hlen
  have hlN : len ≤ 4096 := Nat.le_trans KL.out hN
  clear ho hb hA hlen HS
  go_wp2_with fail
  go_loopw [3, 5, 10] (fun oo _ ii wr => ∃ (j : Nat) (vs : List (Int × Value)) (colr : Col), j ≤ len ∧ ii = .int .i64 j ∧ Row wr colr w.heap.size 2 51 2 oo j (wcells vs) ∧ vs.map (·.1) = ks.take j ∧ (∀ (i : Nat) (p : Int × Value), vs[i]? = some p → ∃ bs, m p.1 = some bs ∧ Row wr colr w.heap.size 3 5 1 p.2 256 (bvl bs)) ∧ Tch 2 4 col colr w wr ∧ Below w.heap.size w wr ∧ (∀ g, g < w.heap.size → colr g = col g) ∧ (Row wr colr w.heap.size 0 3 1 (.slice A len kcap) len (ints ks))) (fun _ _ ii _ => len - (intOf ii).toNat)
  case atStart => exact ⟨0, [], col, by omega, rfl, Row.nil _ _ _ _ _ _, rfl, (fun i p h => by cases h), T2.out.any (Nat.le_refl _), B2.out, (fun _ _ => rfl), RK.out⟩
  case round =>
    obtain ⟨j, vs, colr, hj, rfl, h1, h2, h3, h4, h5, h6, h7⟩ := hrel
    have R1 := Lib.hid h1
    have R2 := Lib.hid h2
    have R3 := Lib.hid h3
    have T4 := Lib.hid h4
    have B4 := Lib.hid h5
    have C4 := Lib.hid h6
    have R7 := Lib.hid h7
    have VL := Lib.hid (show vs.length = j by have := h1.own.1; rw [wcells_length] at this; omega)
    clear h1 h2 h3 h4 h5 h6 h7
    have TF := Lib.hid (T4.out.fresh (by omega) B4.out C4.out)
    have M4 := Lib.hid (HM.out.keep TF.out (by omega) (by omega))
    by_cases hlt : j < len
    · obtain ⟨gk, rfl, _⟩ := hg (by omega)
      obtain ⟨k, hk⟩ : ∃ k, ks[j]? = some k := ⟨_, List.getElem?_eq_getElem (by rw [HL.out]; exact hlt)⟩
      obtain ⟨hk1, bs, hk2⟩ := KM.out k (List.mem_of_getElem? hk)
      have cj : wr.cell? ⟨gk, j, none⟩ = some (.int .i64 k) := by rw [R7.out.own.cellAt j (by omega), ints, List.getElem?_map, hk]; rfl
      obtain ⟨f, hf, hp⟩ := M4.out.ex
      have lk := look_map hf (k := k) ⟨by omega, by omega⟩
      rcases hp k with ⟨e1, e2⟩ | ⟨v, bs', e1, e2, hd⟩
      · rw [hk2] at e2; cases e2
      rw [hk2] at e2
      injection e2 with e2
      subst e2
      rw [e1] at lk
      dsimp only [Option.getD] at lk
      obtain ⟨g, cap, rfl, hby, _⟩ := hd.form
      have HC := Lib.hid (Bits.clone_any (some ⟨g, 0, none⟩) 256 cap bs wr (by omega) (fun e => by cases e) hby)
      have HK := Lib.hid hk
      have HK2 := Lib.hid hk2
      clear hk hk2 hf hp e1 hd hby
      go_wp2_with fail
      refine HC.out.mono ?_
      rintro e w5 ⟨v5, rfl, b5, o5⟩
      obtain ⟨g5, cap5, cur5, rfl, hg5, _⟩ := own_form o5 (by omega)
      obtain ⟨col5, hcol5⟩ : ∃ col5, col5 = paint colr g5 3 := ⟨_, rfl⟩
      have t5 : Tch 16 16 colr col5 wr w5 := by rw [hcol5]; exact (Tch.of_below b5).paint hg5 (o5.lt _ rfl).2 (by omega)
      have hws : w.heap.size ≤ wr.heap.size := T4.out.size
      have c5 : ∀ g, g < w.heap.size → col5 g = colr g := fun g hg => by rw [hcol5, paint_other (by omega)]
      have D5 := Lib.hid (show Row w5 col5 w.heap.size 3 5 1 (.slice (some ⟨g5, 0, none⟩) 256 cap5) 256 (bvl bs) from ⟨own_mono o5 hws, fun g e => by injection e with e; subst e; rw [hcol5, paint_self]⟩)
      obtain ⟨w6, hw6⟩ : ∃ w6, w5.alloc (.cells #[.int .i64 k, .slice (some ⟨g5, 0, none⟩) 256 cap5] 51) = w6 := ⟨_, rfl⟩
      have t6 : Tch 16 16 col5 col5 w5 w6 := by rw [← hw6]; exact (Tch.refl _ _ _ _).alloc _
      have X6 := Lib.hid (show RowAt w6 (some ⟨w5.heap.size, 0, none⟩) (1 * 2) [.int .i64 k, .slice (some ⟨g5, 0, none⟩) 256 cap5] by rw [← hw6]; exact lit_rowN w5 51 [.int .i64 k, .slice (some ⟨g5, 0, none⟩) 256 cap5] (1 * 2) w5.heap.size rfl rfl)
      have t56 := t5.trans t6
      have T56 := Lib.hid t56
      have B6 := Lib.hid (show Below w.heap.size wr w6 from ⟨t56.os, t56.tape, t56.output, t56.size, fun i hi => t56.block i (by omega) (by omega)⟩)
      have O6 := Lib.hid (R1.out.keep t56 (by omega))
      have D6 := Lib.hid (D5.out.keep t6 (by omega))
      have C5 := Lib.hid c5
      have HW6 := Lib.hid hw6
      have hB6 : w.heap.size ≤ w6.heap.size := Nat.le_trans hws t56.size
      clear t5 t6 t56 hw6 b5 o5 hcol5 HC c5
      go_wp2_with (first
        | (at_builtin
           rw [HW6.out]
           refine app_row_by _ 37 51 (.agg #[.int .i64 0, .slice none 0 0]) 2 32 Try.underlying37 infoWrite rfl (by decide) rfl (.tmp 14) (.tmp 21) rfl col5 w.heap.size 2 2 3 u3 j (wcells vs) rfl O6.out ⟨by omega, by omega⟩ ⟨w5.heap.size, 0, none⟩ 1 1 [.int .i64 k, .slice (some ⟨g5, 0, none⟩) 256 cap5] rfl X6.out (by intro u hu; simp at hu; rcases hu with rfl | rfl <;> rfl) (by unfold maxLen; omega) (by omega) hB6 ?_
           intro v7 w7 col7 r7 t7 b7 c7
           obtain ⟨g7, cap7, cur7, rfl, _⟩ := own_formN r7.own (by omega)
           have e7 : wcells vs ++ [.int .i64 k, .slice (some ⟨g5, 0, none⟩) 256 cap5] = wcells (vs ++ [(k, Value.slice (some ⟨g5, 0, none⟩) 256 cap5)]) := by rw [wcells_append]; rfl
           rw [e7] at r7
           have F1 := Lib.hid r7
           have F2 := Lib.hid (show (vs ++ [(k, Value.slice (some ⟨g5, 0, none⟩) 256 cap5)]).map (·.1) = ks.take (j + 1) by rw [List.map_append, R2.out, List.take_add_one, HK.out]; rfl)
           have F3 := Lib.hid (show ∀ (i : Nat) (p : Int × Value), (vs ++ [(k, Value.slice (some ⟨g5, 0, none⟩) 256 cap5)])[i]? = some p → ∃ bs, m p.1 = some bs ∧ Row w7 col7 w.heap.size 3 5 1 p.2 256 (bvl bs) from fun i p hp => by
             rcases Nat.lt_or_ge i vs.length with hi | hi
             · rw [List.getElem?_append_left hi] at hp
               obtain ⟨bs0, q1, q2⟩ := R3.out i p hp
               exact ⟨bs0, q1, (q2.keep T56.out (by omega)).keep t7 (by omega)⟩
             · rw [List.getElem?_append_right hi] at hp
               cases hq : i - vs.length with
               | zero =>
                 rw [hq] at hp
                 injection hp with hp
                 subst hp
                 exact ⟨bs, HK2.out, D6.out.keep t7 (by omega)⟩
               | succ q => rw [hq] at hp; cases hp)
           have F4 := Lib.hid ((T4.out.trans (T56.out.any (Nat.le_refl _))).trans (t7.mono (by omega) (by omega)))
           have F5 := Lib.hid ((B4.out.trans B6.out).trans b7)
           have F6 := Lib.hid (show ∀ g, g < w.heap.size → col7 g = col g from fun g hg => by rw [c7 g hg, C5.out g hg, C4.out g hg])
           have F7 := Lib.hid ((R7.out.keep T56.out (by omega)).keep t7 (by omega))
           clear r7 t7 b7 c7 e7)
        | fail)
      go_roundw
      case rel => exact ⟨j + 1, _, col7, by omega, by go_num, F1.out, F2.out, F3.out, F4.out, F5.out, F6.out, F7.out⟩
      case measure => simp [intOf]; omega
    · obtain rfl : j = len := by omega
      have FIN := Lib.hid (show WrO wr colr w.heap.size u3 (wsOf N m) from by
        have hwl : (wsOf N m).length = j := by rw [HW.out, List.length_map, HL.out]
        refine ⟨vs, by rw [hwl]; exact R1.out, by rw [R2.out, HW.out, List.map_map, List.take_of_length_le (by rw [HL.out]; exact Nat.le_refl _)]; exact (List.map_id' ks).symm, fun i p q hp hq => ?_⟩
        obtain ⟨bs, q1, q2⟩ := R3.out i p hp
        have e1 : p.1 = q.1 := by
          have h1 : (vs.map (·.1))[i]? = some p.1 := by rw [List.getElem?_map, hp]; rfl
          have h2 : ((wsOf N m).map (·.1))[i]? = some q.1 := by rw [List.getElem?_map, hq]; rfl
          rw [R2.out, List.take_of_length_le (by rw [HL.out]; exact Nat.le_refl _)] at h1
          rw [HW.out, List.map_map] at h2
          have h3 : (ks.map ((fun x : Int × Bytes => x.1) ∘ fun k => (k, (m k).getD []))) = ks := List.map_id' ks
          rw [h3, h1] at h2
          injection h2
        have e2 : q.2 = (m q.1).getD [] := by
          rw [HW.out, List.getElem?_map] at hq
          cases hk : ks[i]? with
          | none => rw [hk] at hq; cases hq
          | some k => rw [hk] at hq; injection hq with hq; rw [← hq]
        rw [e2, ← e1, q1]
        exact q2)
      go_wp2_with fail
      go_ret
      exact ⟨_, colr, rfl, TF.out, FIN.out⟩
end Go.Proofs.Ytomoliickggghaa.Mem

namespace Go.Proofs.Ytomoliickggghaa.Mem
open Go.RowKit Go.Proofs.Ytomoliickggghaa Go.Proofs.Ytomoliickggghaa.Wire
set_option maxHeartbeats 8000000
set_option maxRecDepth 100000
set_option linter.unusedVariables false
set_option linter.unusedSimpArgs false

def SWaits (w : World) (col : Col) (B c p : Nat) (S : SS) (l : List (Int × Bytes)) (lo hi : Nat) (e : Ending) (w' : World) : Prop := ∃ v col', e = .returned v ∧ Tch lo hi col col' w w' ∧ StoreAt w' col' B c p S ∧ WrO w' col' w.heap.size v l
theorem swaiting_any (w : World) (col : Col) (B c p : Nat) (S : SS) (h : StoreAt w col B c p S) :
    Calls Try.prog 28 #[ptr p] w fun e w' => SWaits w col B c p S (wsOf S.d.N S.wait) 16 16 e w' := by
  have H0 := Lib.hid h
  obtain ⟨L, h⟩ := h
  have hcl := h.lo
  have HS := Lib.hid (writes_any w col B (c + 2) L.bw S.d.N S.wait h.wait (by omega) h.d.n.1 h.tidy)
  have c3 : w.cell? ⟨p, 3, none⟩ = some (.map (some L.bw)) := h.s.blk.cell 3
  clear h
  unfold ptr
  go_enter Try.func28, Try.ntmps28
  go_wp2_with fail
  refine HS.out.mono ?_
  rintro e w' ⟨v, col', rfl, ht, hw⟩
  have T := Lib.hid ht
  have W := Lib.hid hw
  clear ht hw
  go_wp2_with fail
  go_ret
  exact ⟨v, col', rfl, T.out, H0.out.keep T.out (by omega) (by omega), W.out⟩
theorem swaiting_nil (w : World) : Calls Try.prog 28 #[.pointer none] w fun e w' => e = .returned (.slice none 0 0) ∧ w = w' := by
  go_enter Try.func28, Try.ntmps28
  go_wp2_with fail
  go_ret
  exact ⟨rfl, rfl⟩
/-- One more shard. -/
theorem StoreN.more {w w' : World} {col col' : Col} {B c p room j g cap m : Nat} {d : DS} {L : SL} (h : StoreN w col B c p d room j L) (hc : 16 ≤ c) (hj : j < 16)
    (ht : Tch (c + 5) (c + 6) col col' w w') (hr : Row w' col' B (c + 5) 80 2 (.slice (some ⟨g, 0, none⟩) (j + 1) cap) (j + 1) (scells L.sh ++ [.slice none 0 0, .map (some m)]))
    (hm : MapB w' col' B (c + 17 + 2 * j) m d.N (fun _ => none)) :
    StoreN (w'.setCell ⟨p, 6, none⟩ (.slice (some ⟨g, 0, none⟩) (j + 1) cap)) col' B c p d room (j + 1) { L with vs := .slice (some ⟨g, 0, none⟩) (j + 1) cap, sh := L.sh ++ [(.slice none 0 0, m)] } ∧ Tch c (c + 1) col' col' w' (w'.setCell ⟨p, 6, none⟩ (.slice (some ⟨g, 0, none⟩) (j + 1) cap)) := by
  have hs := h.s.keep ht (by omega)
  have ht2 : Tch c (c + 1) col' col' w' (w'.setCell ⟨p, 6, none⟩ (.slice (some ⟨g, 0, none⟩) (j + 1) cap)) := (Tch.refl _ _ _ _).setCell (p := ⟨p, 6, none⟩) (by rw [hs.c]; omega) _
  refine ⟨⟨hs.set 6 _, (h.chg.keep ht (by omega) (by omega)).keep ht2 (by omega) (by omega), (h.wait.keep ht (by omega) (by omega)).keep ht2 (by omega) (by omega), (h.held.keep ht (by omega)).keep ht2 (by omega), ?_, by simp [h.shl], fun i x h1 => ?_, (h.d.keep ht (by omega) (by omega)).keep ht2 (by omega) (by omega), fun b hb he => ?_, ht2.tidy (ht.tidy h.tidy)⟩, ht2⟩
  · have := hr.keep ht2 (by omega)
    rw [scells_append]
    exact this
  · rcases Nat.lt_or_ge i j with hi | hi
    · rw [List.getElem?_append_left (by rw [h.shl]; exact hi)] at h1
      exact ((h.sh i x h1).keep ht (by omega) (by omega) (by omega)).keep ht2 (by omega) (by omega) (by omega)
    · rw [List.getElem?_append_right (by rw [h.shl]; exact hi), h.shl] at h1
      cases hq : i - j with
      | zero =>
        rw [hq] at h1
        injection h1 with h1
        subst h1
        obtain rfl : i = j := by omega
        exact ⟨Row.nil _ _ _ _ _ _, hm.keep ht2 (by omega) (by omega), List.Pairwise.nil, fun n hn => by cases hn⟩
      | succ q => rw [hq] at h1; cases h1
  · have hb' : b < w'.heap.size := by have := ht2.size; simpa [World.setCell] using hb
    rcases Nat.lt_or_ge b w.heap.size with h1 | h1
    · by_cases e : c + 5 ≤ col b ∧ col b < c + 6
      · have := ht.stay b h1 e; omega
      · rw [ht.hue b h1 e] at he; exact h.old b h1 he
    · rcases ht.neu b h1 with e | e | e
      · omega
      · omega
      · rw [h.tidy b h1] at e; omega
end Go.Proofs.Ytomoliickggghaa.Mem

namespace Go.Proofs.Ytomoliickggghaa.Mem
open Go.RowKit Go.Proofs.Ytomoliickggghaa Go.Proofs.Ytomoliickggghaa.Wire
set_option maxHeartbeats 8000000
set_option maxRecDepth 100000
set_option linter.unusedVariables false
set_option linter.unusedSimpArgs false

def SNew (w : World) (col : Col) (B c : Nat) (d : DS) (shards room : Nat) (e : Ending) (w' : World) : Prop := ∃ p col', e = .returned (.tuple #[ptr p, .int .i64 0]) ∧ Tch c (c + 64) col col' w w' ∧ StoreAt w' col' B c p (SS.fresh d shards room) ∧ w.heap.size ≤ p
theorem snew_any (w : World) (col : Col) (B c dp shards room : Nat) (d : DS) (h : DiskAt w col B (c + 8) dp d) (hc : 16 ≤ c) (hB : B ≤ w.heap.size) (ht : ∀ b, w.heap.size ≤ b → col b = 0) (ho : ∀ b, b < w.heap.size → col b ≠ c + 6)
    (hs1 : 1 ≤ shards) (hs2 : shards ≤ 16) (hr1 : 1 ≤ room) (hr2 : room ≤ 256) :
    Calls Try.prog 11 #[ptr dp, .int .i64 shards, .int .i64 room] w fun e w' => SNew w col B c d shards room e w' := by
  have hmm := @run_makeMap Try.prog
  have HB := Lib.hid (blocks_any w col B (c + 8) dp d h)
  have hN : (((d.N : Nat) : Int) == 0) = false := by have := h.n; simp; omega
  have hNN := h.n
  obtain ⟨w1, hw1⟩ : ∃ w1, (((w.alloc (.map #[] 0)).alloc (.map #[] 0)).alloc (.map #[] 0)).alloc (.cells #[ptr dp, .int .i64 room, .map (some w.heap.size), .map (some (w.heap.size + 1)), .map (some (w.heap.size + 2)), .slice none 0 0, .slice none 0 0, .int .i64 0, .int .i64 0] 60) = w1 := ⟨_, rfl⟩
  obtain ⟨col1, L1, t1, h1, hv1⟩ := snew_start w col B c dp room d h hc hB ht ho w1 hw1
  obtain ⟨p, hp⟩ : ∃ p, w.heap.size + 3 = p := ⟨_, rfl⟩
  have HP := Lib.hid hp
  rw [hp] at h1
  have T1 := Lib.hid t1
  have H1 := Lib.hid h1
  have HW1 := Lib.hid hw1
  have g1 : ¬ (shards : Int) < 1 := by omega
  have g2 : ¬ (16 : Int) < (shards : Int) := by omega
  have g3 : ¬ (room : Int) < 1 := by omega
  have g4 : ¬ (256 : Int) < (room : Int) := by omega
  clear h t1 h1 hw1 hv1 hp
  obtain ⟨N, hNe⟩ : ∃ N, d.N = N := ⟨_, rfl⟩
  have HN := Lib.hid hNe
  rw [hNe] at HB hN hNN
  clear hNe
  unfold ptr at *
  go_enter Try.func11, Try.ntmps11
  go_wp2_with fail
  refine HB.out.mono ?_
  rintro e w' ⟨rfl, rfl⟩
  clear HB
  go_wp2_with (rw [HW1.out, HP.out])
  have e1 : decide ((shards : Int) < 1) = false := by simp; omega
  have e2 : decide ((16 : Int) < (shards : Int)) = false := by simp; omega
  have e3 : decide ((room : Int) < 1) = false := by simp; omega
  have e4 : decide ((256 : Int) < (room : Int)) = false := by simp; omega
  simp only [e1, e2, e3, e4, Bool.or_false, Bool.false_or]
  clear e1 e2 e3 e4 g1 g2 g3 g4 hN
  go_loopw [36] (fun ii wr => ∃ (j : Nat) (L : SL) (colr : Col), j ≤ shards ∧ ii = .int .i64 j ∧ Tch c (c + 64) col colr w wr ∧ StoreN wr colr B c p d room j L) (fun ii _ => shards - (intOf ii).toNat)
  case atStart => exact ⟨0, L1, col1, by omega, rfl, T1.out.mono (by omega) (by omega), H1.out⟩
  case round =>
    obtain ⟨j, L, colr, hj, rfl, ht1, hst⟩ := hrel
    have T := Lib.hid ht1
    have H := Lib.hid hst
    clear ht1 hst
    by_cases hlt : j < shards
    · have c6 : wr.cell? ⟨p, 6, none⟩ = some L.vs := H.out.s.blk.cell 6
      have hBr : B ≤ wr.heap.size := Nat.le_trans hB T.out.size
      obtain ⟨m, hm⟩ : ∃ m, wr.heap.size = m := ⟨_, rfl⟩
      obtain ⟨cola, hcola⟩ : ∃ cola, cola = paint colr m (c + 17 + 2 * j) := ⟨_, rfl⟩
      obtain ⟨wa, hwa⟩ : ∃ wa, wr.alloc (.map #[] 0) = wa := ⟨_, rfl⟩
      have sa : wa.heap.size = m + 1 := by rw [← hwa, ← hm]; simp
      have ta : Tch (c + 17 + 2 * j) (c + 18 + 2 * j) colr cola wr wa := by
        rw [hcola, ← hwa]
        exact ((Tch.refl _ _ _ _).alloc _).paint (by omega) (by rw [hwa]; omega) (by omega)
      have ma : MapB wa cola B (c + 17 + 2 * j) m d.N (fun _ => none) := by
        have := MapB.made wr cola B (c + 17 + 2 * j) d.N hBr (by rw [HN.out]; omega) (by rw [hm, hcola, paint_self])
        rw [hm, hwa] at this
        exact this
      obtain ⟨wb, hwb⟩ : ∃ wb, wa.alloc (.cells #[.slice none 0 0, .map (some m)] 80) = wb := ⟨_, rfl⟩
      have tb : Tch 16 16 cola cola wa wb := by rw [← hwb]; exact (Tch.refl _ _ _ _).alloc _
      have hHa := H.out.keep ta hc (by omega) (by omega) (by omega)
      have HB' := Lib.hid (hHa.keep tb hc (by omega) (by omega) (by omega))
      have MB := Lib.hid (ma.keep tb (by omega) (by omega))
      have TB := Lib.hid ((T.out.trans (ta.mono (by omega) (by omega))).trans (tb.any (Nat.le_refl _)))
      have XB := Lib.hid (show RowAt wb (some ⟨wa.heap.size, 0, none⟩) (1 * 2) [.slice none 0 0, .map (some m)] by rw [← hwb]; exact lit_rowN wa 80 [.slice none 0 0, .map (some m)] (1 * 2) wa.heap.size rfl rfl)
      rw [sa] at XB
      have hBb : B ≤ wb.heap.size := Nat.le_trans hB TB.out.size
      have HWB := Lib.hid (show (wr.alloc (.map #[] 0)).alloc (.cells #[.slice none 0 0, .map (some wr.heap.size)] 80) = wb by rw [hwa, hm]; exact hwb)
      have HM := Lib.hid hm
      clear hcola hwa ta ma hwb tb hHa hm sa
      go_wp2_with (first
        | (at_builtin
           rw [HWB.out]
           refine app_row _ 58 80 (.agg #[.slice none 0 0, .map none]) 2 32 Try.underlying58 infoShard rfl (by decide) rfl (.tmp 42) (.tmp 45) rfl cola B (c + 5) (c + 5) (c + 6) L.vs j (scells L.sh) rfl HB'.out.shs ⟨by omega, by omega⟩ (some ⟨wr.heap.size + 1, 0, none⟩) 1 1 [.slice none 0 0, .map (some m)] rfl (fun e => by cases e) (by rw [HM.out]; exact XB.out) (by intro u hu; simp at hu; rcases hu with rfl | rfl <;> rfl) (by unfold maxLen; omega) (by omega) hBb ?_
           intro v7 w7 col7 r7 t7 _
           obtain ⟨g7, cap7, cur7, rfl, _⟩ := own_formN r7.own (by omega)
           obtain ⟨h8, t8⟩ := HB'.out.more hc (by omega) t7 r7 (MB.out.keep t7 (by omega) (by omega))
           have H8 := Lib.hid h8
           have T8 := Lib.hid ((TB.out.trans (t7.mono (by omega) (by omega))).trans (t8.mono (by omega) (by omega)))
           have k7 := HB'.out.s.keep t7 (by omega)
           have d6 : w7.cell? ⟨p, 6, none⟩ = some L.vs := k7.blk.cell 6
           have z6 : w7.frozen? ⟨p, 6, none⟩ = false := k7.blk.frozen 6
           clear r7 t7 h8 t8 k7)
        | fail)
      go_roundw
      case rel => exact ⟨j + 1, _, col7, by omega, by go_num, T8.out, H8.out⟩
      case measure => simp [intOf]; omega
    · obtain rfl : j = shards := by omega
      go_wp2_with fail
      go_ret2
      refine ⟨p, colr, rfl, T.out, ⟨_, H.out.done hc ⟨hs1, hs2⟩ ⟨hr1, hr2⟩⟩, by rw [← HP.out]; exact Nat.le_add_right _ 3⟩
end Go.Proofs.Ytomoliickggghaa.Mem
