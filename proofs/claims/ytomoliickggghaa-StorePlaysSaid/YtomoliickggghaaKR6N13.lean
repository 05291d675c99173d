
/-
  layer 6's document (hayrickref06): Write.
  layer 6's document (hayrickref06): Hold, Held, Changed.
  layer 6's document (hayrickref06): Waiting.
  layer 6's document (hayrickref06): Commit.
  layer 6's document (hayrickref06): Release.
  layer 6's document (hayrickref06): Home, Read.
  layer 6's document (hayrickref06): Read.
-/
import Derived.Test.YtomoliickggghaaKR6N12
namespace Go.Proofs.Ytomoliickggghaa.Mem
open Go.RowKit Go.Proofs.Ytomoliickggghaa Go.Proofs.Ytomoliickggghaa.Wire
set_option maxHeartbeats 8000000
set_option maxRecDepth 100000
set_option linter.unusedVariables false
set_option linter.unusedSimpArgs false

def RWrote (w : World) (col : Col) (B c p dp : Nat) (R : RS) (er : Int) (e : Ending) (w' : World) : Prop := ∃ col', e = .returned (.int .i64 er) ∧ Tch c (c + 7) col col' w w' ∧ RStoreAt w' col' B c p dp R
theorem rwrite_any (w : World) (col : Col) (B c p dp : Nat) (R : RS) (n : Int) (a : Addr) (cap : Nat) (bs : Bytes) (h : RStoreAt w col B c p dp R) (hn : R.has n = true) (hB : B ≤ w.heap.size) (ht0 : ∀ b, w.heap.size ≤ b → col b = 0) (few : R.st.length + 1 + R.found + R.asked ≤ 1000000000)
    (hb : BytesAt w (some a) 256 bs) :
    Calls Try.prog 54 #[ptr p, .int .i64 n, .slice (some a) 256 cap] w fun e w' => RWrote w col B c p dp (R.write n bs) 0 e w' := by
  obtain ⟨L, h⟩ := h
  have hlo := h.lo
  have hn2 : 0 ≤ n ∧ n < (R.n : Int) := of_decide_eq_true hn
  have hNN := h.n1
  obtain ⟨k, rfl⟩ := Int.eq_ofNat_of_zero_le hn2.1
  have hk : k < R.n := by omega
  have HH := Lib.hid (rhas_any w col B c p dp R L k h)
  rw [hn] at HH
  have HNX := Lib.hid (rnext_any w col B c p dp R L h hB (by omega) ht0)
  have H := Lib.hid h
  have HBY := Lib.hid hb
  have HT0 := Lib.hid ht0
  have hlb : (((256 : Nat) : Int) != 256) = false := by decide
  have hkn : ((k : Int)).toNat = k := by omega
  have hk0 : (0 : Int) ≤ (k : Int) := by omega
  have hk1 : (k : Int) < (R.n : Int) := by omega
  clear h hn hb ht0 hn2
  unfold ptr at *
  go_enter Try.func54, Try.ntmps54
  go_wp2_with fail
  refine HH.out.mono ?_
  rintro e w' ⟨rfl, rfl⟩
  clear HH
  go_wp2_with fail
  refine HNX.out.mono ?_
  rintro e w1 ⟨gc, cc, gh, ch, rfl, hb1, hgc, hgh, hgch, hoc, hrh⟩
  obtain ⟨w2, hw2⟩ : ∃ w2, w1.alloc (.cells #[.slice (some ⟨gc, 0, none⟩) R.n cc, .slice (some ⟨gh, 0, none⟩) R.n ch] 96) = w2 := ⟨_, rfl⟩
  obtain ⟨s2, hs2⟩ : ∃ s2, w1.heap.size = s2 := ⟨_, rfl⟩
  obtain ⟨w3, hw3⟩ : ∃ w3, w2.drew = w3 := ⟨_, rfl⟩
  have b12 : Below w1.heap.size w1 w2 := hw2 ▸ (Below.refl w1.heap.size w1).alloc (Nat.le_refl _) _
  have b23 : Below w2.heap.size w2 w3 := hw3 ▸ below_drewN (Below.refl w2.heap.size w2) 1
  have b13 := below_all b12 b12.size b23
  have b03 := below_all hb1 hb1.size b13
  have hs2w : w.heap.size ≤ s2 := by rw [← hs2]; exact hb1.size
  have K3 := Lib.hid (show Blk w3 s2 96 #[.slice (some ⟨gc, 0, none⟩) R.n cc, .slice (some ⟨gh, 0, none⟩) R.n ch] from (show Blk w2 s2 96 #[.slice (some ⟨gc, 0, none⟩) R.n cc, .slice (some ⟨gh, 0, none⟩) R.n ch] by rw [← hw2, ← hs2]; exact Blk.new _ _ _).belowAll b23)
  have gc2 : gc ≠ s2 ∧ gh ≠ s2 := by
    obtain ⟨vs, hv, _⟩ := hoc.ex
    have h1 := (hv.own.lt gc rfl).2
    have h2 := (hrh.own.lt gh rfl).2
    omega
  have OC3 := Lib.hid (hoc.keep (lo := 16) (hi := 16) (Tch.of_below b13) (by omega) (by omega))
  have RH3 := Lib.hid (hrh.keep (lo := 16) (hi := 16) (Tch.of_below b13) (by omega))
  have B3 := Lib.hid b03
  have HC := Lib.hid (Wire.copied_any (some a) 256 cap bs w3 (by omega) (fun e => by cases e) (HBY.out.below b03))
  have HW2 := Lib.hid hw2
  have HS2 := Lib.hid hs2
  have HW3 := Lib.hid hw3
  clear hb1 hoc hrh hw2 hs2 hw3 b12 b23 b13 b03 HNX HBY
  obtain ⟨N, hNe⟩ : ∃ N, R.n = N := ⟨_, rfl⟩
  have HNe := Lib.hid hNe
  rw [hNe] at K3 OC3 RH3 HW2 hk hk1 hNN
  rw [hNe]
  clear hNe
  go_upto_region 6 with (first | rw [HS2.out, HW2.out] | fail)
  have hNS : w3.cell? ⟨s2, 0, none⟩ = some (.slice (some ⟨gc, 0, none⟩) N cc) := K3.out.cell 0
  refine region_need_at (v := w3) (fun w' => w'.cell? ⟨s2, 0, none⟩ = some (.slice (some ⟨gc, 0, none⟩) N cc)) (fun i => decide (i < 5)) HW3.out (by kernel_rfl) ?_
  refine nw_take (i := 0) (v := ?_) rfl (by kernel_rfl) (by kernel_rfl) (fun _ _ d _ _ h => by cases d <;> exact h) (by exact hNS) (by kernel_rfl) ?_ (fun K hK => ?_); rotate_left; (· (intro w' hSw; (try dsimp only at hSw); go_simp; with_reducible rfl)); simp only [Act.put, List.setIfInBounds_toArray, List.set_cons_zero, List.set_cons_succ]; refine hK _ ?_; clear hK K
  refine nw_take (i := 1) (v := ?_) rfl (by kernel_rfl) (by kernel_rfl) (fun _ _ d _ _ h => by cases d <;> exact h) (by exact hNS) (by kernel_rfl) ?_ (fun K hK => ?_); rotate_left; (· (intro w' hSw; (try dsimp only at hSw); go_simp; with_reducible rfl)); simp only [Act.put, List.setIfInBounds_toArray, List.set_cons_zero, List.set_cons_succ]; refine hK _ ?_; clear hK K
  refine nw_take (i := 2) (v := ?_) rfl (by kernel_rfl) (by kernel_rfl) (fun _ _ d _ _ h => by cases d <;> exact h) (by exact hNS) (by kernel_rfl) ?_ (fun K hK => ?_); rotate_left; (· (intro w' hSw; (try dsimp only at hSw); go_simp; with_reducible rfl)); simp only [Act.put, List.setIfInBounds_toArray, List.set_cons_zero, List.set_cons_succ]; refine hK _ ?_; clear hK K
  refine nw_take (i := 3) (v := ?_) rfl (by kernel_rfl) (by kernel_rfl) (fun _ _ d _ _ h => by cases d <;> exact h) (by exact hNS) (by kernel_rfl) ?_ (fun K hK => ?_); rotate_left; (· (intro w' hSw; (try dsimp only at hSw); go_simp; with_reducible rfl)); simp only [Act.put, List.setIfInBounds_toArray, List.set_cons_zero, List.set_cons_succ]; refine hK _ ?_; clear hK K
  clear hNS
  refine nw_one (i := 4) (E := False) rfl (by kernel_rfl) (fun K hK => ?_) (by kernel_rfl)
  go_simp
  refine HC.out.mono ?_
  rintro e w4 ⟨v4, rfl, ho4, hb4⟩
  obtain ⟨g4, c4, _, rfl, hg4, _⟩ := own_form ho4 (by omega)
  have hsz3 : w.heap.size ≤ w3.heap.size := B3.out.size
  obtain ⟨col4, hcol4⟩ : ∃ col4, paint col g4 1 = col4 := ⟨_, rfl⟩
  have b04 := below_all B3.out B3.out.size hb4
  have t4 : Tch 16 16 col col4 w w4 := by rw [← hcol4]; exact (Tch.of_below b04).paint (by omega) (ho4.lt _ rfl).2 (by omega)
  have t34 : Tch 16 16 col col4 w3 w4 := by rw [← hcol4]; exact (Tch.of_below hb4).paint hg4 (ho4.lt _ rfl).2 (by omega)
  have D4 := Lib.hid (show OptDat w4 col4 B (.slice (some ⟨g4, 0, none⟩) 256 c4) (some bs) from Dat.of ho4 (Nat.le_trans hB hsz3) (fun g e => by injection e with e; subst e; rw [← hcol4, paint_self]))
  have K4 := Lib.hid (K3.out.belowAll hb4)
  have OC4 := Lib.hid (OC3.out.keep t34 (by omega) (by omega))
  have RH4 := Lib.hid (RH3.out.keep t34 (by omega))
  have H4 := Lib.hid (H.out.keep t4 (by omega) (by omega))
  have T4 := Lib.hid t4
  have B4 := Lib.hid b04
  have HC4 := Lib.hid hcol4
  have hgg : g4 ≠ gc ∧ g4 ≠ gh ∧ g4 ≠ s2 := by
    obtain ⟨vs, hv, _⟩ := OC3.out.ex
    have h1 := (hv.own.lt gc rfl).2
    have h2 := (RH3.out.own.lt gh rfl).2
    have h3 := K3.out.lt
    omega
  have hg4w : w.heap.size ≤ g4 := by omega
  clear ho4 hb4 b04 t4 t34 hcol4 HC K3 OC3 RH3 B3
  refine hK.out _ _ ((fun _ => K4.out.cell 0)) ?_
  clear hK K
  try simp only [Act.put, List.setIfInBounds_toArray, List.set_cons_zero, List.set_cons_succ]
  obtain ⟨g', cc', x', hge, _, hx0, hx1, _⟩ := OC4.out.at_ hk
  obtain ⟨rfl, rfl⟩ : gc = g' ∧ cc = cc' := by
    injection hge with h1 _ h3
    injection h1 with h1
    injection h1 with h1
    exact ⟨h1, h3⟩
  refine nw_one (i := 5) (E := False) rfl (by kernel_rfl) (fun K hK => ?_) (by kernel_rfl)
  go_simp
  refine hK.out _ _ ((fun h => absurd h (by decide))) ?_
  clear hK K
  try simp only [Act.put, List.setIfInBounds_toArray, List.set_cons_zero, List.set_cons_succ]
  refine nw_one (i := 6) (E := False) rfl (by kernel_rfl) (fun K hK => ?_) (by kernel_rfl)
  go_simp
  refine hK.out _ _ ((fun h => absurd h (by decide))) ?_
  clear hK K
  try simp only [Act.put, List.setIfInBounds_toArray, List.set_cons_zero, List.set_cons_succ]
  refine nw_end (by kernel_rfl) ?_
  obtain ⟨hoc5, t5⟩ := OC4.out.put (k := k) D4.out (by omega)
  obtain ⟨w5, hw5⟩ : ∃ w5, w4.setCell ⟨gc, k, none⟩ (.slice (some ⟨g4, 0, none⟩) 256 c4) = w5 := ⟨_, rfl⟩
  rw [hw5] at hoc5 t5 ⊢
  have hgcl : gc < w4.heap.size := by obtain ⟨vs, hv, _⟩ := OC4.out.ex; exact (hv.own.lt gc rfl).2
  have hghl : gh < w4.heap.size := (RH4.out.own.lt gh rfl).2
  have h0c : col4 gc = 0 := by rw [← HC4.out, paint_other (fun e => hgg.1 e.symm)]; exact HT0.out gc hgc
  have h0h : col4 gh = 0 := by rw [← HC4.out, paint_other (fun e => hgg.2.1 e.symm)]; exact HT0.out gh hgh
  obtain ⟨col5, hcol5⟩ : ∃ col5, paint (paint col4 gc 1) gh 1 = col5 := ⟨_, rfl⟩
  have hc5 : ∀ g, col4 g ≠ 0 → col5 g = col4 g := fun g hg => by
    rw [← hcol5, paint_other (fun e => by rw [e] at hg; exact hg h0h), paint_other (fun e => by rw [e] at hg; exact hg h0c)]
  have hs2c : col5 s2 = 0 := by rw [← hcol5, paint_other (fun e => gc2.2 e.symm), paint_other (fun e => gc2.1 e.symm), ← HC4.out, paint_other (fun e => hgg.2.2 e.symm)]; exact HT0.out s2 hs2w
  have hcc : col5 gc = 1 := by rw [← hcol5, paint_other hgch, paint_self]
  have hch' : col5 gh = 1 := by rw [← hcol5, paint_self]
  have e5s : w5.heap.size = w4.heap.size := by rw [← hw5]; simp [World.setCell]
  have B5 : Below w.heap.size w w5 := by rw [← hw5]; exact B4.out.setCell (p := ⟨gc, k, none⟩) hgc _
  have T5 := Lib.hid (show Tch 16 16 col col5 w w5 by
    rw [← hcol5, ← HC4.out]
    exact (((Tch.of_below B5).paint hg4w (by rw [e5s]; have := T4.out.size; have := (D4.out.own.lt g4 rfl).2; exact this) (by omega)).paint hgc (by rw [e5s]; exact hgcl) (by omega)).paint hgh (by rw [e5s]; exact hghl) (by omega))
  have H5 := Lib.hid ((H4.out.keep t5 (by omega) (by omega)).recol1 hc5)
  have ST5 := Lib.hid (show RStAt w5 col5 B N (.slice (some ⟨gc, 0, none⟩) N cc, .slice (some ⟨gh, 0, none⟩) N ch) ((fun j => if j = (k : Int) then some bs else R.now.1 j), R.now.2) from
    ⟨hoc5.paint1 hc5 (fun g e => by injection e with e; subst e; exact hcc), ⟨(RH4.out.own.kept (row := some gc) (by rw [← hw5]; exact only_setCell (World.grownBy.refl w4 (some gc)) (p := ⟨gc, k, none⟩) (.inl rfl) _) (.inr (fun e => by injection e with e; exact hgch e.symm))), fun g e => by injection e with e; subst e; exact hch'⟩⟩)
  have K5 := Lib.hid (show Blk w5 s2 96 #[.slice (some ⟨gc, 0, none⟩) N cc, .slice (some ⟨gh, 0, none⟩) N ch] by rw [← hw5]; exact K4.out.far (p := ⟨gc, k, none⟩) (fun e => gc2.1 e.symm) _)
  clear hoc5 t5 hw5 H4 D4 K4 OC4 RH4 B4 HC4 T4 B5 hc5 hcol5 h0c h0h hcc hch' e5s hge hx0 hx1
  go_upto_region 7 with fail
  obtain ⟨w6, hw6⟩ : ∃ w6, w5.drew = w6 := ⟨_, rfl⟩
  have t56 : Tch 16 16 col5 col5 w5 w6 := by rw [← hw6]; exact (Tch.refl _ _ _ _).drew
  obtain ⟨w7, hw7⟩ : ∃ w7, w6.alloc (.cells #[.slice (some ⟨gc, 0, none⟩) N cc, .slice (some ⟨gh, 0, none⟩) N ch] 96) = w7 := ⟨_, rfl⟩
  have t67 : Tch 16 16 col5 col5 w6 w7 := by rw [← hw7]; exact (Tch.refl _ _ _ _).alloc _
  have t57 := t56.trans t67
  have H6 := Lib.hid (H5.out.keep t56 (by omega) (by omega))
  have H7 := Lib.hid (H5.out.keep t57 (by omega) (by omega))
  have ST7 := Lib.hid (ST5.out.keep t57 (by omega))
  have T7 := Lib.hid (T5.out.trans t57)
  have K6 : w6.cell? ⟨s2, 0, none⟩ = some (.slice (some ⟨gc, 0, none⟩) N cc) ∧ w6.cell? ⟨s2, 1, none⟩ = some (.slice (some ⟨gh, 0, none⟩) N ch) := by rw [← hw6]; exact ⟨K5.out.cell 0, K5.out.cell 1⟩
  have c6 : w6.cell? ⟨p, 3, none⟩ = some L.vst := H6.out.s.blk.cell 3
  have X7 := Lib.hid (show RowAt w7 (some ⟨w6.heap.size, 0, none⟩) (1 * 2) [.slice (some ⟨gc, 0, none⟩) N cc, .slice (some ⟨gh, 0, none⟩) N ch] by rw [← hw7]; exact lit_rowN w6 96 [.slice (some ⟨gc, 0, none⟩) N cc, .slice (some ⟨gh, 0, none⟩) N ch] (1 * 2) w6.heap.size rfl rfl)
  have K7 := Lib.hid (show w7.cell? ⟨s2, 0, none⟩ = some (.slice (some ⟨gc, 0, none⟩) N cc) ∧ w7.cell? ⟨s2, 1, none⟩ = some (.slice (some ⟨gh, 0, none⟩) N ch) by
    have hb : Below w6.heap.size w6 w7 := hw7 ▸ (Below.refl w6.heap.size w6).alloc (Nat.le_refl _) _
    exact ⟨(hb.cell (World.block_lt_of_cell? _ _ K6.1)).trans K6.1, (hb.cell (World.block_lt_of_cell? _ _ K6.2)).trans K6.2⟩)
  have HW6 := Lib.hid hw6
  have HW7 := Lib.hid hw7
  have hB7 : B ≤ w7.heap.size := Nat.le_trans hB T7.out.size
  clear hw6 hw7 t56 t67 t57 H5 ST5 T5 K5
  have hNS : w6.cell? ⟨p, 3, none⟩ = some L.vst ∧ w6.cell? ⟨s2, 0, none⟩ = some (.slice (some ⟨gc, 0, none⟩) N cc) ∧ w6.cell? ⟨s2, 1, none⟩ = some (.slice (some ⟨gh, 0, none⟩) N ch) := ⟨c6, K6⟩
  refine region_need_at (v := w6) (fun w' => w'.cell? ⟨p, 3, none⟩ = some L.vst ∧ w'.cell? ⟨s2, 0, none⟩ = some (.slice (some ⟨gc, 0, none⟩) N cc) ∧ w'.cell? ⟨s2, 1, none⟩ = some (.slice (some ⟨gh, 0, none⟩) N ch)) (fun i => decide (i < 8)) HW6.out (by kernel_rfl) ?_
  refine nw_take (i := 0) (v := ?_) rfl (by kernel_rfl) (by kernel_rfl) (fun _ _ d _ _ h => by cases d <;> exact h) (by exact hNS) (by kernel_rfl) ?_ (fun K hK => ?_); rotate_left; (· (intro w' hSw; (try dsimp only at hSw); go_simp; with_reducible rfl)); simp only [Act.put, List.setIfInBounds_toArray, List.set_cons_zero, List.set_cons_succ]; refine hK _ ?_; clear hK K
  refine nw_take (i := 1) (v := ?_) rfl (by kernel_rfl) (by kernel_rfl) (fun _ _ d _ _ h => by cases d <;> exact h) (by exact hNS) (by kernel_rfl) ?_ (fun K hK => ?_); rotate_left; (· (intro w' hSw; (try dsimp only at hSw); go_simp; with_reducible rfl)); simp only [Act.put, List.setIfInBounds_toArray, List.set_cons_zero, List.set_cons_succ]; refine hK _ ?_; clear hK K
  refine nw_take (i := 2) (v := ?_) rfl (by kernel_rfl) (by kernel_rfl) (fun _ _ d _ _ h => by cases d <;> exact h) (by exact hNS) (by kernel_rfl) ?_ (fun K hK => ?_); rotate_left; (· (intro w' hSw; (try dsimp only at hSw); go_simp; with_reducible rfl)); simp only [Act.put, List.setIfInBounds_toArray, List.set_cons_zero, List.set_cons_succ]; refine hK _ ?_; clear hK K
  refine nw_take (i := 3) (v := ?_) rfl (by kernel_rfl) (by kernel_rfl) (fun _ _ d _ _ h => by cases d <;> exact h) (by exact hNS) (by kernel_rfl) ?_ (fun K hK => ?_); rotate_left; (· (intro w' hSw; (try dsimp only at hSw); go_simp; with_reducible rfl)); simp only [Act.put, List.setIfInBounds_toArray, List.set_cons_zero, List.set_cons_succ]; refine hK _ ?_; clear hK K
  refine nw_take (i := 4) (v := ?_) rfl (by kernel_rfl) (by kernel_rfl) (fun _ _ d _ _ h => by cases d <;> exact h) (by exact hNS) (by kernel_rfl) ?_ (fun K hK => ?_); rotate_left; (· (intro w' hSw; (try dsimp only at hSw); go_simp; with_reducible rfl)); simp only [Act.put, List.setIfInBounds_toArray, List.set_cons_zero, List.set_cons_succ]; refine hK _ ?_; clear hK K
  refine nw_take (i := 5) (v := ?_) rfl (by kernel_rfl) (by kernel_rfl) (fun _ _ d _ _ h => by cases d <;> exact h) (by exact hNS) (by kernel_rfl) ?_ (fun K hK => ?_); rotate_left; (· (intro w' hSw; (try dsimp only at hSw); go_simp; with_reducible rfl)); simp only [Act.put, List.setIfInBounds_toArray, List.set_cons_zero, List.set_cons_succ]; refine hK _ ?_; clear hK K
  clear hNS
  refine nw_one (i := 6) (E := False) rfl (by kernel_rfl) (fun K hK => ?_) (by kernel_rfl)
  go_simp
  rw [HW7.out]
  refine hK.out _ _ ((fun _ => ⟨H7.out.s.blk.cell 3, K7.out⟩)) ?_
  clear hK K
  try simp only [Act.put, List.setIfInBounds_toArray, List.set_cons_zero, List.set_cons_succ]
  refine nw_one (i := 7) (E := False) rfl (by kernel_rfl) (fun K hK => ?_) (by kernel_rfl)
  refine step_app_row _ 71 96 (.agg #[.slice none 0 0, .slice none 0 0]) 2 48 Try.underlying71 infoState rfl (by decide) rfl (.tmp 27) (.tmp 29) rfl col5 B (c + 1) (c + 1) (c + 2) L.vst R.st.length (pcells L.xs) rfl H7.out.st ⟨by omega, by omega⟩ ⟨w6.heap.size, 0, none⟩ 1 1 [.slice (some ⟨gc, 0, none⟩) N cc, .slice (some ⟨gh, 0, none⟩) N ch] rfl X7.out (by intro u hu; simp at hu; rcases hu with rfl | rfl <;> rfl) (by unfold maxLen; omega) (by omega) hB7 ?_
  intro v8 w8 col8 r8 t8
  obtain ⟨g8, c8, _, rfl, _⟩ := own_formN r8.own (by omega)
  obtain ⟨h9, t9⟩ := H7.out.pushSt t8 (x := (.slice (some ⟨gc, 0, none⟩) N cc, .slice (some ⟨gh, 0, none⟩) N ch)) (y := ((fun j => if j = (k : Int) then some bs else R.now.1 j), R.now.2)) r8 (by rw [HNe.out]; exact ST7.out.keep t8 (by omega)) few
  have hc2 : col5 s2 < 16 := by omega
  have hs2l : s2 < w7.heap.size := World.block_lt_of_cell? w7 ⟨s2, 0, none⟩ K7.out.1
  have e8 := t8.block s2 hs2l (by omega)
  have K8 : w8.cell? ⟨s2, 0, none⟩ = some (.slice (some ⟨gc, 0, none⟩) N cc) ∧ w8.cell? ⟨s2, 1, none⟩ = some (.slice (some ⟨gh, 0, none⟩) N ch) := ⟨(World.cell?_of_block (a := ⟨s2, 0, none⟩) e8).trans K7.out.1, (World.cell?_of_block (a := ⟨s2, 1, none⟩) e8).trans K7.out.2⟩
  have k8 := H7.out.s.keep t8 (by omega)
  have c8' : w8.cell? ⟨p, 3, none⟩ = some L.vst := k8.blk.cell 3
  have z8 : w8.frozen? ⟨p, 3, none⟩ = false := k8.blk.frozen 3
  have H9 := Lib.hid h9
  have T9 := Lib.hid (((T7.out.any (lo' := c) (hi' := c + 7) (Nat.le_refl _)).trans (t8.mono (by omega) (by omega))).trans (t9.mono (by omega) (by omega)))
  clear r8 t8 h9 t9 e8 k8
  refine hK.out _ _ ((fun _ => ⟨c8', K8⟩)) ?_
  clear hK K
  try simp only [Act.put, List.setIfInBounds_toArray, List.set_cons_zero, List.set_cons_succ]
  refine nw_one (i := 8) (E := False) rfl (by kernel_rfl) (fun K hK => ?_) (by kernel_rfl)
  go_simp
  refine hK.out _ _ ((fun h => absurd h (by decide))) ?_
  clear hK K
  try simp only [Act.put, List.setIfInBounds_toArray, List.set_cons_zero, List.set_cons_succ]
  refine nw_one (i := 9) (E := False) rfl (by kernel_rfl) (fun K hK => ?_) (by kernel_rfl)
  go_simp
  refine hK.out _ _ ((fun h => absurd h (by decide))) ?_
  clear hK K
  try simp only [Act.put, List.setIfInBounds_toArray, List.set_cons_zero, List.set_cons_succ]
  refine nw_one (i := 10) (E := False) rfl (by kernel_rfl) (fun K hK => ?_) (by kernel_rfl)
  go_simp
  refine hK.out _ _ ((fun h => absurd h (by decide))) ?_
  clear hK K
  try simp only [Act.put, List.setIfInBounds_toArray, List.set_cons_zero, List.set_cons_succ]
  refine nw_end (by kernel_rfl) ?_
  obtain ⟨wa, hwa⟩ : ∃ wa, w8.setCell ⟨p, 3, none⟩ (.slice (some ⟨g8, 0, none⟩) (R.st.length + 1) c8) = wa := ⟨_, rfl⟩
  rw [hwa] at H9 T9 ⊢
  clear hwa K8 c8' z8 H7 H6 ST7 T7 X7 K7 hc2 hs2l hs2c c6 K6
  obtain ⟨R1, hR1⟩ : ∃ R1 : RS, { R with st := R.st ++ [((fun j => if j = (k : Int) then some bs else R.now.1 j), R.now.2)] } = R1 := ⟨_, rfl⟩
  have HWR := Lib.hid (show R.write (k : Int) bs = { R1 with ca := R1.ca.set (R1.of k) (wo k (R1.cache (R1.of k))) } by rw [← hR1]; rfl)
  rw [hR1] at H9
  obtain ⟨L1, h1⟩ : RStoreAt wa col8 B c p dp R1 := ⟨_, H9.out⟩
  have hBa : B ≤ wa.heap.size := Nat.le_trans hB T9.out.size
  clear hR1 H9
  obtain ⟨wb, hwb⟩ : ∃ wb, wa.drew = wb := ⟨_, rfl⟩
  have tab : Tch 16 16 col8 col8 wa wb := by rw [← hwb]; exact (Tch.refl _ _ _ _).drew
  have h2 := h1.keep tab (by omega) (by omega)
  have TB := Lib.hid (T9.out.trans (tab.any (lo' := c) (hi' := c + 7) (Nat.le_refl _)))
  have hBb : B ≤ wb.heap.size := Nat.le_trans hBa tab.size
  have HWB := Lib.hid hwb
  clear h1 T9 hwb tab hBa
  have hcan := h2.can
  have hki := RS.of_lt (R := R1) (k : Int) hcan.1
  obtain ⟨gx, cx, vx, hvc, hcs, hk0, hz0, hrow, hlen⟩ := h2.cachev hki
  have c5 : wb.cell? ⟨p, 5, none⟩ = some (.slice (some ⟨gx, 0, none⟩) R1.ca.length cx) := by rw [← hvc]; exact h2.s.blk.cell 5
  obtain ⟨A, cv, rfl, _, hcv, hcvm, _⟩ := row_len hrow
  have HR := Lib.hid (rwithout_any wb A _ cv (R1.cache (R1.of k)) k (RowAt.of_own hrow.own) (by omega))
  have HOF := Lib.hid (show R1.of k = ((k : Int) % (R1.ca.length : Int)).toNat from rfl)
  have H := Lib.hid h2
  have HVC := Lib.hid hvc
  have hwl := wo_len k (R1.cache (R1.of k))
  generalize hl : R1.cache (R1.of k) = l at *
  generalize hi : R1.of k = i at *
  obtain ⟨m, hm⟩ : ∃ m, R1.ca.length = m := ⟨_, rfl⟩
  have HM := Lib.hid hm
  rw [hm] at HOF c5 hki hcan
  have hi' := HOF.out
  have i1 : (k : Int) % (m : Int) = (i : Int) := by have := Int.emod_nonneg (k : Int) (show (m : Int) ≠ 0 by omega); omega
  have i3 : (k : Int).tmod (m : Int) = (i : Int) := by rw [Int.tmod_eq_emod_of_nonneg (by omega)]; exact i1
  have i4 : IntKind.i64.wrap (i : Int) = (i : Int) := by rw [IntKind.wrap_i64]; omega
  have i5 : ((m : Int) == 0) = false := by simp; omega
  have i9 : ¬ m = 0 := by omega
  have i6 : (0 : Int) ≤ (i : Int) := by omega
  have i7 : (i : Int) < (m : Int) := by omega
  have i8 : ((i : Int)).toNat = i := by omega
  clear h2 hrow hvc hcs hi hm HOF hi' hl
  go_upto_region 8 with fail
  have hNS : wb.cell? ⟨p, 5, none⟩ = some (.slice (some ⟨gx, 0, none⟩) m cx) := c5
  refine region_need_at (v := wb) (fun w' => w'.cell? ⟨p, 5, none⟩ = some (.slice (some ⟨gx, 0, none⟩) m cx)) (fun _ => true) HWB.out (by kernel_rfl) ?_
  refine nw_take (i := 0) (v := ?_) rfl (by kernel_rfl) (by kernel_rfl) (fun _ _ d _ _ h => by cases d <;> exact h) (by exact hNS) (by kernel_rfl) ?_ (fun K hK => ?_); rotate_left; (· (intro w' hSw; (try dsimp only at hSw); go_simp; with_reducible rfl)); simp only [Act.put, List.setIfInBounds_toArray, List.set_cons_zero, List.set_cons_succ]; refine hK _ ?_; clear hK K
  refine nw_take (i := 1) (v := ?_) rfl (by kernel_rfl) (by kernel_rfl) (fun _ _ d _ _ h => by cases d <;> exact h) (by exact hNS) (by kernel_rfl) ?_ (fun K hK => ?_); rotate_left; (· (intro w' hSw; (try dsimp only at hSw); go_simp; with_reducible rfl)); simp only [Act.put, List.setIfInBounds_toArray, List.set_cons_zero, List.set_cons_succ]; refine hK _ ?_; clear hK K
  refine nw_take (i := 2) (v := ?_) rfl (by kernel_rfl) (by kernel_rfl) (fun _ _ d _ _ h => by cases d <;> exact h) (by exact hNS) (by kernel_rfl) ?_ (fun K hK => ?_); rotate_left; (· (intro w' hSw; (try dsimp only at hSw); go_simp; with_reducible rfl)); simp only [Act.put, List.setIfInBounds_toArray, List.set_cons_zero, List.set_cons_succ]; refine hK _ ?_; clear hK K
  refine nw_take (i := 3) (v := ?_) rfl (by kernel_rfl) (by kernel_rfl) (fun _ _ d _ _ h => by cases d <;> exact h) (by exact hNS) (by kernel_rfl) ?_ (fun K hK => ?_); rotate_left; (· (intro w' hSw; (try dsimp only at hSw); go_simp; with_reducible rfl)); simp only [Act.put, List.setIfInBounds_toArray, List.set_cons_zero, List.set_cons_succ]; refine hK _ ?_; clear hK K
  refine nw_take (i := 4) (v := ?_) rfl (by kernel_rfl) (by kernel_rfl) (fun _ _ d _ _ h => by cases d <;> exact h) (by exact hNS) (by kernel_rfl) ?_ (fun K hK => ?_); rotate_left; (· (intro w' hSw; (try dsimp only at hSw); go_simp; with_reducible rfl)); simp only [Act.put, List.setIfInBounds_toArray, List.set_cons_zero, List.set_cons_succ]; refine hK _ ?_; clear hK K
  refine nw_take (i := 5) (v := ?_) rfl (by kernel_rfl) (by kernel_rfl) (fun _ _ d _ _ h => by cases d <;> exact h) (by exact hNS) (by kernel_rfl) ?_ (fun K hK => ?_); rotate_left; (· (intro w' hSw; (try dsimp only at hSw); go_simp; with_reducible rfl)); simp only [Act.put, List.setIfInBounds_toArray, List.set_cons_zero, List.set_cons_succ]; refine hK _ ?_; clear hK K
  refine nw_take (i := 6) (v := ?_) rfl (by kernel_rfl) (by kernel_rfl) (fun _ _ d _ _ h => by cases d <;> exact h) (by exact hNS) (by kernel_rfl) ?_ (fun K hK => ?_); rotate_left; (· (intro w' hSw; (try dsimp only at hSw); go_simp; with_reducible rfl)); simp only [Act.put, List.setIfInBounds_toArray, List.set_cons_zero, List.set_cons_succ]; refine hK _ ?_; clear hK K
  refine nw_take (i := 7) (v := ?_) rfl (by kernel_rfl) (by kernel_rfl) (fun _ _ d _ _ h => by cases d <;> exact h) (by exact hNS) (by kernel_rfl) ?_ (fun K hK => ?_); rotate_left; (· (intro w' hSw; (try dsimp only at hSw); go_simp; with_reducible rfl)); simp only [Act.put, List.setIfInBounds_toArray, List.set_cons_zero, List.set_cons_succ]; refine hK _ ?_; clear hK K
  refine nw_take (i := 8) (v := ?_) rfl (by kernel_rfl) (by kernel_rfl) (fun _ _ d _ _ h => by cases d <;> exact h) (by exact hNS) (by kernel_rfl) ?_ (fun K hK => ?_); rotate_left; (· (intro w' hSw; (try dsimp only at hSw); go_simp; with_reducible rfl)); simp only [Act.put, List.setIfInBounds_toArray, List.set_cons_zero, List.set_cons_succ]; refine hK _ ?_; clear hK K
  refine nw_take (i := 9) (v := ?_) rfl (by kernel_rfl) (by kernel_rfl) (fun _ _ d _ _ h => by cases d <;> exact h) (by exact hNS) (by kernel_rfl) ?_ (fun K hK => ?_); rotate_left; (· (intro w' hSw; (try dsimp only at hSw); go_simp; with_reducible rfl)); simp only [Act.put, List.setIfInBounds_toArray, List.set_cons_zero, List.set_cons_succ]; refine hK _ ?_; clear hK K
  refine nw_take (i := 10) (v := ?_) rfl (by kernel_rfl) (by kernel_rfl) (fun _ _ d _ _ h => by cases d <;> exact h) (by exact hNS) (by kernel_rfl) ?_ (fun K hK => ?_); rotate_left; (· (intro w' hSw; (try dsimp only at hSw); go_simp; with_reducible rfl)); simp only [Act.put, List.setIfInBounds_toArray, List.set_cons_zero, List.set_cons_succ]; refine hK _ ?_; clear hK K
  refine nw_take (i := 11) (v := ?_) rfl (by kernel_rfl) (by kernel_rfl) (fun _ _ d _ _ h => by cases d <;> exact h) (by exact hNS) (by kernel_rfl) ?_ (fun K hK => ?_); rotate_left; (· (intro w' hSw; (try dsimp only at hSw); go_simp; with_reducible rfl)); simp only [Act.put, List.setIfInBounds_toArray, List.set_cons_zero, List.set_cons_succ]; refine hK _ ?_; clear hK K
  refine nw_take (i := 12) (v := ?_) rfl (by kernel_rfl) (by kernel_rfl) (fun _ _ d _ _ h => by cases d <;> exact h) (by exact hNS) (by kernel_rfl) ?_ (fun K hK => ?_); rotate_left; (· (intro w' hSw; (try dsimp only at hSw); go_simp; with_reducible rfl)); simp only [Act.put, List.setIfInBounds_toArray, List.set_cons_zero, List.set_cons_succ]; refine hK _ ?_; clear hK K
  refine nw_take (i := 13) (v := ?_) rfl (by kernel_rfl) (by kernel_rfl) (fun _ _ d _ _ h => by cases d <;> exact h) (by exact hNS) (by kernel_rfl) ?_ (fun K hK => ?_); rotate_left; (· (intro w' hSw; (try dsimp only at hSw); go_simp; with_reducible rfl)); simp only [Act.put, List.setIfInBounds_toArray, List.set_cons_zero, List.set_cons_succ]; refine hK _ ?_; clear hK K
  refine nw_take (i := 14) (v := ?_) rfl (by kernel_rfl) (by kernel_rfl) (fun _ _ d _ _ h => by cases d <;> exact h) (by exact hNS) (by kernel_rfl) ?_ (fun K hK => ?_); rotate_left; (· (intro w' hSw; (try dsimp only at hSw); go_simp; with_reducible rfl)); simp only [Act.put, List.setIfInBounds_toArray, List.set_cons_zero, List.set_cons_succ]; refine hK _ ?_; clear hK K
  refine nw_take (i := 15) (v := ?_) rfl (by kernel_rfl) (by kernel_rfl) (fun _ _ d _ _ h => by cases d <;> exact h) (by exact hNS) (by kernel_rfl) ?_ (fun K hK => ?_); rotate_left; (· (intro w' hSw; (try dsimp only at hSw); go_simp; with_reducible rfl)); simp only [Act.put, List.setIfInBounds_toArray, List.set_cons_zero, List.set_cons_succ]; refine hK _ ?_; clear hK K
  refine nw_take (i := 16) (v := ?_) rfl (by kernel_rfl) (by kernel_rfl) (fun _ _ d _ _ h => by cases d <;> exact h) (by exact hNS) (by kernel_rfl) ?_ (fun K hK => ?_); rotate_left; (· (intro w' hSw; (try dsimp only at hSw); go_simp; with_reducible rfl)); simp only [Act.put, List.setIfInBounds_toArray, List.set_cons_zero, List.set_cons_succ]; refine hK _ ?_; clear hK K
  refine nw_take (i := 17) (v := ?_) rfl (by kernel_rfl) (by kernel_rfl) (fun _ _ d _ _ h => by cases d <;> exact h) (by exact hNS) (by kernel_rfl) ?_ (fun K hK => ?_); rotate_left; (· (intro w' hSw; (try dsimp only at hSw); go_simp; with_reducible rfl)); simp only [Act.put, List.setIfInBounds_toArray, List.set_cons_zero, List.set_cons_succ]; refine hK _ ?_; clear hK K
  refine nw_take (i := 18) (v := ?_) rfl (by kernel_rfl) (by kernel_rfl) (fun _ _ d _ _ h => by cases d <;> exact h) (by exact hNS) (by kernel_rfl) ?_ (fun K hK => ?_); rotate_left; (· (intro w' hSw; (try dsimp only at hSw); go_simp; with_reducible rfl)); simp only [Act.put, List.setIfInBounds_toArray, List.set_cons_zero, List.set_cons_succ]; refine hK _ ?_; clear hK K
  refine nw_take (i := 19) (v := ?_) rfl (by kernel_rfl) (by kernel_rfl) (fun _ _ d _ _ h => by cases d <;> exact h) (by exact hNS) (by kernel_rfl) ?_ (fun K hK => ?_); rotate_left; (· (intro w' hSw; (try dsimp only at hSw); go_simp; with_reducible rfl)); simp only [Act.put, List.setIfInBounds_toArray, List.set_cons_zero, List.set_cons_succ]; refine hK _ ?_; clear hK K
  refine nw_take (i := 20) (v := ?_) rfl (by kernel_rfl) (by kernel_rfl) (fun _ _ d _ _ h => by cases d <;> exact h) (by exact hNS) (by kernel_rfl) ?_ (fun K hK => ?_); rotate_left; (· (intro w' hSw; (try dsimp only at hSw); go_simp; with_reducible rfl)); simp only [Act.put, List.setIfInBounds_toArray, List.set_cons_zero, List.set_cons_succ]; refine hK _ ?_; clear hK K
  refine nw_take (i := 21) (v := ?_) rfl (by kernel_rfl) (by kernel_rfl) (fun _ _ d _ _ h => by cases d <;> exact h) (by exact hNS) (by kernel_rfl) ?_ (fun K hK => ?_); rotate_left; (· (intro w' hSw; (try dsimp only at hSw); go_simp; with_reducible rfl)); simp only [Act.put, List.setIfInBounds_toArray, List.set_cons_zero, List.set_cons_succ]; refine hK _ ?_; clear hK K
  refine nw_take (i := 22) (v := ?_) rfl (by kernel_rfl) (by kernel_rfl) (fun _ _ d _ _ h => by cases d <;> exact h) (by exact hNS) (by kernel_rfl) ?_ (fun K hK => ?_); rotate_left; (· (intro w' hSw; (try dsimp only at hSw); go_simp; with_reducible rfl)); simp only [Act.put, List.setIfInBounds_toArray, List.set_cons_zero, List.set_cons_succ]; refine hK _ ?_; clear hK K
  refine nw_take (i := 24) (v := ?_) rfl (by kernel_rfl) (by kernel_rfl) (fun _ _ d _ _ h => by cases d <;> exact h) (by exact hNS) (by kernel_rfl) ?_ (fun K hK => ?_); rotate_left; (· (intro w' hSw; (try dsimp only at hSw); go_simp; with_reducible rfl)); simp only [Act.put, List.setIfInBounds_toArray, List.set_cons_zero, List.set_cons_succ]; refine hK _ ?_; clear hK K
  refine nw_one (i := 23) (E := False) rfl (by kernel_rfl) (fun K hK => ?_) (by kernel_rfl)
  go_simp
  refine hK.out _ _ ((fun _ => c5)) ?_
  clear hK K
  try simp only [Act.put, List.setIfInBounds_toArray, List.set_cons_zero, List.set_cons_succ]
  clear hNS
  refine nw_one (i := 25) (E := False) rfl (by kernel_rfl) (fun K hK => ?_) (by kernel_rfl)
  go_simp
  refine HR.out.mono ?_
  rintro e wc ⟨v1, rfl, ho1, hb1⟩
  obtain ⟨col9, hcol9⟩ : ∃ col9 : Col, (match v1.ownBlock with | some g => paint col8 g 1 | none => col8) = col9 := ⟨_, rfl⟩
  have t9 : Tch 16 16 col8 col9 wb wc := by
    rw [← hcol9]
    cases hv : v1.ownBlock with
    | none => exact Tch.of_below hb1
    | some g => exact (Tch.of_below hb1).paint (ho1.lt g hv).1 (ho1.lt g hv).2 (by omega)
  have RW := Lib.hid (show Row wc col9 B 1 3 1 v1 (wo k l).length (ints (wo k l)) from ⟨own_mono ho1 hBb, fun g e => by rw [← hcol9, e]; exact paint_self _ _ _⟩)
  have HC := Lib.hid (H.out.keep t9 (by omega) (by omega))
  have TC := Lib.hid (TB.out.trans (t9.any (lo' := c) (hi' := c + 7) (Nat.le_refl _)))
  have c5' : wc.cell? ⟨p, 5, none⟩ = some (.slice (some ⟨gx, 0, none⟩) m cx) := by
    have := HC.out.s.blk.cell 5
    rw [HVC.out, HM.out] at this
    exact this
  obtain ⟨gc', cc', v', hvc', _, hk3, hz3, _⟩ := HC.out.cachev (k := i) (by rw [HM.out]; exact hki)
  obtain ⟨rfl, rfl⟩ : gx = gc' ∧ cx = cc' := by
    have h1 := HVC.out.symm.trans hvc'
    injection h1 with h1 _ h3
    injection h1 with h1
    injection h1 with h1
    exact ⟨h1, h3⟩
  clear ho1 hb1 hcol9 t9 hvc' hz0 hk0 c5 HR TB H
  obtain ⟨A1, d1, rfl, _⟩ := row_len RW.out
  refine hK.out _ _ ((fun _ => c5')) ?_
  clear hK K
  try simp only [Act.put, List.setIfInBounds_toArray, List.set_cons_zero, List.set_cons_succ]
  refine nw_one (i := 26) (E := False) rfl (by kernel_rfl) (fun K hK => ?_) (by kernel_rfl)
  go_simp
  refine hK.out _ _ ((fun _ => c5')) ?_
  clear hK K
  try simp only [Act.put, List.setIfInBounds_toArray, List.set_cons_zero, List.set_cons_succ]
  have hNS : wc.cell? ⟨p, 5, none⟩ = some (.slice (some ⟨gx, 0, none⟩) m cx) := c5'
  refine nw_take (i := 27) (v := ?_) rfl (by kernel_rfl) (by kernel_rfl) (fun _ _ d _ _ h => by cases d <;> exact h) (by exact hNS) (by kernel_rfl) ?_ (fun K hK => ?_); rotate_left; (· (intro w' hSw; (try dsimp only at hSw); go_simp; with_reducible rfl)); simp only [Act.put, List.setIfInBounds_toArray, List.set_cons_zero, List.set_cons_succ]; refine hK _ ?_; clear hK K
  refine nw_take (i := 28) (v := ?_) rfl (by kernel_rfl) (by kernel_rfl) (fun _ _ d _ _ h => by cases d <;> exact h) (by exact hNS) (by kernel_rfl) ?_ (fun K hK => ?_); rotate_left; (· (intro w' hSw; (try dsimp only at hSw); go_simp; with_reducible rfl)); simp only [Act.put, List.setIfInBounds_toArray, List.set_cons_zero, List.set_cons_succ]; refine hK _ ?_; clear hK K
  clear hNS
  refine nw_one (i := 29) (E := False) rfl (by kernel_rfl) (fun K hK => ?_) (by kernel_rfl)
  go_simp
  refine hK.out _ _ ((fun _ => c5')) ?_
  clear hK K
  try simp only [Act.put, List.setIfInBounds_toArray, List.set_cons_zero, List.set_cons_succ]
  refine nw_one (i := 30) (E := False) rfl (by kernel_rfl) (fun K hK => ?_) (by kernel_rfl)
  go_simp
  obtain ⟨h4, t4⟩ := HC.out.cacheSet HVC.out (by rw [HM.out]; exact hki) (v := .slice A1 (wo k l).length d1) (l := wo k l) RW.out (by omega)
  have c6 : (wc.setCell ⟨gx, i, none⟩ (.slice A1 (wo k l).length d1)).cell? ⟨p, 5, none⟩ = some (.slice (some ⟨gx, 0, none⟩) m cx) := by
    have := h4.s.blk.cell 5
    have e : wc.cell? ⟨p, 5, none⟩ = some L1.vc := HC.out.s.blk.cell 5
    rw [c5'] at e
    injection e with e
    rw [e]; exact this
  have H4 := Lib.hid h4
  have T4 := Lib.hid (TC.out.trans (t4.mono (by omega) (by omega)))
  clear h4 t4
  refine hK.out _ _ ((fun _ => c6)) ?_
  clear hK K
  try simp only [Act.put, List.setIfInBounds_toArray, List.set_cons_zero, List.set_cons_succ]
  refine nw_end (by kernel_rfl) ?_
  clear c6
  go_wp2_with fail
  go_ret
  exact ⟨col9, rfl, T4.out, _, by rw [HWR.out]; exact H4.out⟩
end Go.Proofs.Ytomoliickggghaa.Mem

namespace Go.Proofs.Ytomoliickggghaa.Mem
open Go.RowKit Go.Proofs.Ytomoliickggghaa Go.Proofs.Ytomoliickggghaa.Wire
set_option maxHeartbeats 8000000
set_option maxRecDepth 100000
set_option linter.unusedVariables false
set_option linter.unusedSimpArgs false

theorem field_st0 (a b : Value) (w : World) : (Instr.field 96 (.agg #[a, b]) 0).run Try.prog w = .ok a w := by kernel_rfl
theorem field_st1 (a b : Value) (w : World) : (Instr.field 96 (.agg #[a, b]) 1).run Try.prog w = .ok b w := by kernel_rfl
theorem rhold_no (w : World) (col : Col) (B c p dp : Nat) (R : RS) (L : RL) (n : Int) (h : RStoreL w col B c p dp R L) (hn : R.has n = false) :
    Calls Try.prog 55 #[ptr p, .int .i64 n] w fun e w' => e = .returned (.int .i64 22) ∧ w = w' := by
  have HH := Lib.hid (rhas_any w col B c p dp R L n h)
  rw [hn] at HH
  clear h hn
  unfold ptr at *
  go_enter Try.func55, Try.ntmps55
  go_wp2_with fail
  refine HH.out.mono ?_
  rintro e w' ⟨rfl, rfl⟩
  go_wp2_with fail
  go_ret
  exact ⟨rfl, rfl⟩
theorem rhold_any (w : World) (col : Col) (B c p dp : Nat) (R : RS) (n : Int) (h : RStoreAt w col B c p dp R) (hn : R.has n = true) (hB : B ≤ w.heap.size) (ht0 : ∀ b, w.heap.size ≤ b → col b = 0) (few : R.st.length + 1 + R.found + R.asked ≤ 1000000000) :
    Calls Try.prog 55 #[ptr p, .int .i64 n] w fun e w' => RWrote w col B c p dp (R.hold n) 0 e w' := by
  obtain ⟨L, h⟩ := h
  have hlo := h.lo
  have hn2 : 0 ≤ n ∧ n < (R.n : Int) := of_decide_eq_true hn
  have hNN := h.n1
  obtain ⟨k, rfl⟩ := Int.eq_ofNat_of_zero_le hn2.1
  have hk : k < R.n := by omega
  have HH := Lib.hid (rhas_any w col B c p dp R L k h)
  rw [hn] at HH
  have HNX := Lib.hid (rnext_any w col B c p dp R L h hB (by omega) ht0)
  have H := Lib.hid h
  have HT0 := Lib.hid ht0
  have hkn : ((k : Int)).toNat = k := by omega
  have hk0 : (0 : Int) ≤ (k : Int) := by omega
  have hk1 : (k : Int) < (R.n : Int) := by omega
  clear h hn ht0 hn2
  unfold ptr at *
  go_enter Try.func55, Try.ntmps55
  go_wp2_with fail
  refine HH.out.mono ?_
  rintro e w' ⟨rfl, rfl⟩
  clear HH
  go_wp2_with fail
  refine HNX.out.mono ?_
  rintro e w1 ⟨gc, cc, gh, ch, rfl, hb1, hgc, hgh, hgch, hoc, hrh⟩
  obtain ⟨w2, hw2⟩ : ∃ w2, w1.alloc (.cells #[.slice (some ⟨gc, 0, none⟩) R.n cc, .slice (some ⟨gh, 0, none⟩) R.n ch] 96) = w2 := ⟨_, rfl⟩
  obtain ⟨s2, hs2⟩ : ∃ s2, w1.heap.size = s2 := ⟨_, rfl⟩
  have b12 : Below w1.heap.size w1 w2 := hw2 ▸ (Below.refl w1.heap.size w1).alloc (Nat.le_refl _) _
  have b02 := below_all hb1 hb1.size b12
  have hs2w : w.heap.size ≤ s2 := by rw [← hs2]; exact hb1.size
  have K2 := Lib.hid (show Blk w2 s2 96 #[.slice (some ⟨gc, 0, none⟩) R.n cc, .slice (some ⟨gh, 0, none⟩) R.n ch] by rw [← hw2, ← hs2]; exact Blk.new _ _ _)
  obtain ⟨N, hNe⟩ : ∃ N, R.n = N := ⟨_, rfl⟩
  have HNe := Lib.hid hNe
  have hgcl1 : gc < w1.heap.size := by obtain ⟨vs, hv, _⟩ := hoc.ex; exact (hv.own.lt gc rfl).2
  have hghl1 : gh < w1.heap.size := (hrh.own.lt gh rfl).2
  have gc2 : gc ≠ s2 ∧ gh ≠ s2 := by omega
  have OC2 := Lib.hid (hoc.keep (lo := 16) (hi := 16) (Tch.of_below b12) (by omega) (by omega))
  have RH2 := Lib.hid (hrh.keep (lo := 16) (hi := 16) (Tch.of_below b12) (by omega))
  have hgcl : gc < w2.heap.size := Nat.lt_of_lt_of_le hgcl1 b12.size
  have hghl : gh < w2.heap.size := Nat.lt_of_lt_of_le hghl1 b12.size
  obtain ⟨w5, hw5⟩ : ∃ w5, w2.setCell ⟨gh, k, none⟩ (.bool true) = w5 := ⟨_, rfl⟩
  obtain ⟨colm, hcolm⟩ : ∃ colm, paint col gc 1 = colm := ⟨_, rfl⟩
  obtain ⟨col5, hcol5⟩ : ∃ col5, paint colm gh 1 = col5 := ⟨_, rfl⟩
  have hmh : colm gh = 0 := by rw [← hcolm, paint_other (fun e => hgch e.symm)]; exact HT0.out gh hgh
  have hcm : ∀ g, col g ≠ 0 → colm g = col g := fun g hg => by rw [← hcolm, paint_other (fun e => hg (by rw [e]; exact HT0.out gc hgc))]
  have hc5 : ∀ g, colm g ≠ 0 → col5 g = colm g := fun g hg => by rw [← hcol5, paint_other (fun e => hg (by rw [e]; exact hmh))]
  have hs2c : col5 s2 = 0 := by rw [← hcol5, paint_other (fun e => gc2.2 e.symm), ← hcolm, paint_other (fun e => gc2.1 e.symm)]; exact HT0.out s2 hs2w
  have hch' : col5 gh = 1 := by rw [← hcol5, paint_self]
  have hcmc : colm gc = 1 := by rw [← hcolm, paint_self]
  have t25 : Tch 0 1 colm colm w2 w5 := by rw [← hw5]; exact (Tch.refl _ _ _ _).setCell (p := ⟨gh, k, none⟩) (by show 0 ≤ colm gh ∧ colm gh < 1; omega) _
  have OC5 := ((OC2.out.paint1 (r := 1) hcm (fun g e => by injection e with e; subst e; exact hcmc)).keep t25 (by omega) (by omega)).recol1 hc5 (by omega)
  have e5s : w5.heap.size = w2.heap.size := by rw [← hw5]; simp [World.setCell]
  have B5 : Below w.heap.size w w5 := by rw [← hw5]; exact b02.setCell (p := ⟨gh, k, none⟩) hgh _
  have RH5 := RH2.out.stored k (.bool true)
  rw [hw5, bools_set] at RH5
  have hfe : (fun (i : Nat) => if i = k then true else R.now.2 (i : Int)) = (fun (i : Nat) => (fun j : Int => if j = (k : Int) then true else R.now.2 j) i) := by
    funext i
    show (if i = k then true else R.now.2 (i : Int)) = if (i : Int) = (k : Int) then true else R.now.2 (i : Int)
    by_cases e : i = k
    · subst e; simp
    · rw [if_neg e, if_neg (by omega)]
  rw [hfe] at RH5
  have T5 := Lib.hid (show Tch 16 16 col col5 w w5 by
    rw [← hcol5, ← hcolm]
    exact ((Tch.of_below B5).paint hgc (by rw [e5s]; exact hgcl) (by omega)).paint hgh (by rw [e5s]; exact hghl) (by omega))
  have H5 := Lib.hid (H.out.keep T5.out (by omega) (by omega))
  have ST5 := Lib.hid (show RStAt w5 col5 B R.n (.slice (some ⟨gc, 0, none⟩) R.n cc, .slice (some ⟨gh, 0, none⟩) R.n ch) (R.now.1, (fun j => if j = (k : Int) then true else R.now.2 j)) from
    ⟨OC5, RH5.own, fun g e => by injection e with e; subst e; exact hch'⟩)
  have K5 := Lib.hid (show Blk w5 s2 96 #[.slice (some ⟨gc, 0, none⟩) R.n cc, .slice (some ⟨gh, 0, none⟩) R.n ch] by rw [← hw5]; exact K2.out.far (p := ⟨gh, k, none⟩) (fun e => gc2.2 e.symm) _)
  have k1 : w2.cell? ⟨s2, 1, none⟩ = some (.slice (some ⟨gh, 0, none⟩) R.n ch) := K2.out.cell 1
  have k2 : w2.cell? ⟨gh, k, none⟩ = some (.bool (R.now.2 k)) := by rw [RH2.out.own.cellAt k (by omega)]; exact bools_at _ hk
  have k3 : w2.frozen? ⟨gh, k, none⟩ = false := RH2.out.own.frozenAt k
  have HW2 := Lib.hid hw2
  have HS2 := Lib.hid hs2
  have HW5 := Lib.hid hw5
  clear hb1 hoc hrh hw2 hs2 b12 b02 HNX hw5 RH5 OC5 t25 hfe hcol5 hcolm hmh hcm hc5 hcmc e5s B5 H OC2 RH2 K2
  rw [hNe] at ST5 K5 HW2 hk hk1 hNN k1
  rw [hNe]
  clear hNe
  go_upto_region 5 with (first | rw [HS2.out, HW2.out] | fail)
  rw [HW5.out]
  clear k1 k2 k3 HW2 HS2 HW5
  obtain ⟨w6, hw6⟩ : ∃ w6, w5.drew = w6 := ⟨_, rfl⟩
  have t56 : Tch 16 16 col5 col5 w5 w6 := by rw [← hw6]; exact (Tch.refl _ _ _ _).drew
  obtain ⟨w7, hw7⟩ : ∃ w7, w6.alloc (.cells #[.slice (some ⟨gc, 0, none⟩) N cc, .slice (some ⟨gh, 0, none⟩) N ch] 96) = w7 := ⟨_, rfl⟩
  have t67 : Tch 16 16 col5 col5 w6 w7 := by rw [← hw7]; exact (Tch.refl _ _ _ _).alloc _
  have t57 := t56.trans t67
  have H6 := Lib.hid (H5.out.keep t56 (by omega) (by omega))
  have H7 := Lib.hid (H5.out.keep t57 (by omega) (by omega))
  have ST7 := Lib.hid (ST5.out.keep t57 (by omega))
  have T7 := Lib.hid (T5.out.trans t57)
  have K6 : w6.cell? ⟨s2, 0, none⟩ = some (.slice (some ⟨gc, 0, none⟩) N cc) ∧ w6.cell? ⟨s2, 1, none⟩ = some (.slice (some ⟨gh, 0, none⟩) N ch) := by rw [← hw6]; exact ⟨K5.out.cell 0, K5.out.cell 1⟩
  have c6 : w6.cell? ⟨p, 3, none⟩ = some L.vst := H6.out.s.blk.cell 3
  have X7 := Lib.hid (show RowAt w7 (some ⟨w6.heap.size, 0, none⟩) (1 * 2) [.slice (some ⟨gc, 0, none⟩) N cc, .slice (some ⟨gh, 0, none⟩) N ch] by rw [← hw7]; exact lit_rowN w6 96 [.slice (some ⟨gc, 0, none⟩) N cc, .slice (some ⟨gh, 0, none⟩) N ch] (1 * 2) w6.heap.size rfl rfl)
  have K7 := Lib.hid (show w7.cell? ⟨s2, 0, none⟩ = some (.slice (some ⟨gc, 0, none⟩) N cc) ∧ w7.cell? ⟨s2, 1, none⟩ = some (.slice (some ⟨gh, 0, none⟩) N ch) by
    have hb : Below w6.heap.size w6 w7 := hw7 ▸ (Below.refl w6.heap.size w6).alloc (Nat.le_refl _) _
    exact ⟨(hb.cell (World.block_lt_of_cell? _ _ K6.1)).trans K6.1, (hb.cell (World.block_lt_of_cell? _ _ K6.2)).trans K6.2⟩)
  have HW6 := Lib.hid hw6
  have HW7 := Lib.hid hw7
  have hB7 : B ≤ w7.heap.size := Nat.le_trans hB T7.out.size
  clear hw6 hw7 t56 t67 t57 H5 ST5 T5 K5
  have hNS : w6.cell? ⟨p, 3, none⟩ = some L.vst ∧ w6.cell? ⟨s2, 0, none⟩ = some (.slice (some ⟨gc, 0, none⟩) N cc) ∧ w6.cell? ⟨s2, 1, none⟩ = some (.slice (some ⟨gh, 0, none⟩) N ch) := ⟨c6, K6⟩
  refine region_need_at (v := w6) (fun w' => w'.cell? ⟨p, 3, none⟩ = some L.vst ∧ w'.cell? ⟨s2, 0, none⟩ = some (.slice (some ⟨gc, 0, none⟩) N cc) ∧ w'.cell? ⟨s2, 1, none⟩ = some (.slice (some ⟨gh, 0, none⟩) N ch)) (fun i => decide (i < 8)) HW6.out (by kernel_rfl) ?_
  refine nw_take (i := 0) (v := ?_) rfl (by kernel_rfl) (by kernel_rfl) (fun _ _ d _ _ h => by cases d <;> exact h) (by exact hNS) (by kernel_rfl) ?_ (fun K hK => ?_); rotate_left; (· (intro w' hSw; (try dsimp only at hSw); go_simp; with_reducible rfl)); simp only [Act.put, List.setIfInBounds_toArray, List.set_cons_zero, List.set_cons_succ]; refine hK _ ?_; clear hK K
  refine nw_take (i := 1) (v := ?_) rfl (by kernel_rfl) (by kernel_rfl) (fun _ _ d _ _ h => by cases d <;> exact h) (by exact hNS) (by kernel_rfl) ?_ (fun K hK => ?_); rotate_left; (· (intro w' hSw; (try dsimp only at hSw); go_simp; with_reducible rfl)); simp only [Act.put, List.setIfInBounds_toArray, List.set_cons_zero, List.set_cons_succ]; refine hK _ ?_; clear hK K
  refine nw_take (i := 2) (v := ?_) rfl (by kernel_rfl) (by kernel_rfl) (fun _ _ d _ _ h => by cases d <;> exact h) (by exact hNS) (by kernel_rfl) ?_ (fun K hK => ?_); rotate_left; (· (intro w' hSw; (try dsimp only at hSw); go_simp; with_reducible rfl)); simp only [Act.put, List.setIfInBounds_toArray, List.set_cons_zero, List.set_cons_succ]; refine hK _ ?_; clear hK K
  refine nw_take (i := 3) (v := ?_) rfl (by kernel_rfl) (by kernel_rfl) (fun _ _ d _ _ h => by cases d <;> exact h) (by exact hNS) (by kernel_rfl) ?_ (fun K hK => ?_); rotate_left; (· (intro w' hSw; (try dsimp only at hSw); go_simp; with_reducible rfl)); simp only [Act.put, List.setIfInBounds_toArray, List.set_cons_zero, List.set_cons_succ]; refine hK _ ?_; clear hK K
  refine nw_take (i := 4) (v := ?_) rfl (by kernel_rfl) (by kernel_rfl) (fun _ _ d _ _ h => by cases d <;> exact h) (by exact hNS) (by kernel_rfl) ?_ (fun K hK => ?_); rotate_left; (· (intro w' hSw; (try dsimp only at hSw); go_simp; with_reducible rfl)); simp only [Act.put, List.setIfInBounds_toArray, List.set_cons_zero, List.set_cons_succ]; refine hK _ ?_; clear hK K
  refine nw_take (i := 5) (v := ?_) rfl (by kernel_rfl) (by kernel_rfl) (fun _ _ d _ _ h => by cases d <;> exact h) (by exact hNS) (by kernel_rfl) ?_ (fun K hK => ?_); rotate_left; (· (intro w' hSw; (try dsimp only at hSw); go_simp; with_reducible rfl)); simp only [Act.put, List.setIfInBounds_toArray, List.set_cons_zero, List.set_cons_succ]; refine hK _ ?_; clear hK K
  clear hNS
  refine nw_one (i := 6) (E := False) rfl (by kernel_rfl) (fun K hK => ?_) (by kernel_rfl)
  go_simp
  rw [HW7.out]
  refine hK.out _ _ ((fun _ => ⟨H7.out.s.blk.cell 3, K7.out⟩)) ?_
  clear hK K
  try simp only [Act.put, List.setIfInBounds_toArray, List.set_cons_zero, List.set_cons_succ]
  refine nw_one (i := 7) (E := False) rfl (by kernel_rfl) (fun K hK => ?_) (by kernel_rfl)
  refine step_app_row _ 71 96 (.agg #[.slice none 0 0, .slice none 0 0]) 2 48 Try.underlying71 infoState rfl (by decide) rfl (.tmp 20) (.tmp 22) rfl col5 B (c + 1) (c + 1) (c + 2) L.vst R.st.length (pcells L.xs) rfl H7.out.st ⟨by omega, by omega⟩ ⟨w6.heap.size, 0, none⟩ 1 1 [.slice (some ⟨gc, 0, none⟩) N cc, .slice (some ⟨gh, 0, none⟩) N ch] rfl X7.out (by intro u hu; simp at hu; rcases hu with rfl | rfl <;> rfl) (by unfold maxLen; omega) (by omega) hB7 ?_
  intro v8 w8 col8 r8 t8
  obtain ⟨g8, c8, _, rfl, _⟩ := own_formN r8.own (by omega)
  obtain ⟨h9, t9⟩ := H7.out.pushSt t8 (x := (.slice (some ⟨gc, 0, none⟩) N cc, .slice (some ⟨gh, 0, none⟩) N ch)) (y := (R.now.1, (fun j => if j = (k : Int) then true else R.now.2 j))) r8 (by rw [HNe.out]; exact ST7.out.keep t8 (by omega)) few
  have hc2 : col5 s2 < 16 := by omega
  have hs2l : s2 < w7.heap.size := World.block_lt_of_cell? w7 ⟨s2, 0, none⟩ K7.out.1
  have e8 := t8.block s2 hs2l (by omega)
  have K8 : w8.cell? ⟨s2, 0, none⟩ = some (.slice (some ⟨gc, 0, none⟩) N cc) ∧ w8.cell? ⟨s2, 1, none⟩ = some (.slice (some ⟨gh, 0, none⟩) N ch) := ⟨(World.cell?_of_block (a := ⟨s2, 0, none⟩) e8).trans K7.out.1, (World.cell?_of_block (a := ⟨s2, 1, none⟩) e8).trans K7.out.2⟩
  have k8 := H7.out.s.keep t8 (by omega)
  have c8' : w8.cell? ⟨p, 3, none⟩ = some L.vst := k8.blk.cell 3
  have z8 : w8.frozen? ⟨p, 3, none⟩ = false := k8.blk.frozen 3
  have H9 := Lib.hid h9
  have T9 := Lib.hid (((T7.out.any (lo' := c) (hi' := c + 7) (Nat.le_refl _)).trans (t8.mono (by omega) (by omega))).trans (t9.mono (by omega) (by omega)))
  clear r8 t8 h9 t9 e8 k8
  refine hK.out _ _ ((fun _ => ⟨c8', K8⟩)) ?_
  clear hK K
  try simp only [Act.put, List.setIfInBounds_toArray, List.set_cons_zero, List.set_cons_succ]
  refine nw_one (i := 8) (E := False) rfl (by kernel_rfl) (fun K hK => ?_) (by kernel_rfl)
  go_simp
  refine hK.out _ _ ((fun h => absurd h (by decide))) ?_
  clear hK K
  try simp only [Act.put, List.setIfInBounds_toArray, List.set_cons_zero, List.set_cons_succ]
  refine nw_one (i := 9) (E := False) rfl (by kernel_rfl) (fun K hK => ?_) (by kernel_rfl)
  go_simp
  refine hK.out _ _ ((fun h => absurd h (by decide))) ?_
  clear hK K
  try simp only [Act.put, List.setIfInBounds_toArray, List.set_cons_zero, List.set_cons_succ]
  refine nw_one (i := 10) (E := False) rfl (by kernel_rfl) (fun K hK => ?_) (by kernel_rfl)
  go_simp
  refine hK.out _ _ ((fun h => absurd h (by decide))) ?_
  clear hK K
  try simp only [Act.put, List.setIfInBounds_toArray, List.set_cons_zero, List.set_cons_succ]
  refine nw_end (by kernel_rfl) ?_
  obtain ⟨wa, hwa⟩ : ∃ wa, w8.setCell ⟨p, 3, none⟩ (.slice (some ⟨g8, 0, none⟩) (R.st.length + 1) c8) = wa := ⟨_, rfl⟩
  rw [hwa] at H9 T9 ⊢
  clear hwa K8 c8' z8 H7 H6 ST7 T7 X7 K7 hc2 hs2l hs2c c6 K6
  go_wp2_with fail
  go_ret
  exact ⟨col8, rfl, T9.out, _, H9.out⟩
def RS.isHeld (R : RS) (n : Int) : Bool := R.has n && R.now.2 n
theorem rheld_any (w : World) (col : Col) (B c p dp : Nat) (R : RS) (L : RL) (n : Int) (h : RStoreL w col B c p dp R L) :
    Calls Try.prog 34 #[ptr p, .int .i64 n] w fun e w' => e = .returned (.bool (R.isHeld n)) ∧ Below w.heap.size w w' := by
  have HH := Lib.hid (rhas_any w col B c p dp R L n h)
  cases hn : R.has n with
  | false =>
    rw [hn] at HH
    have HE := Lib.hid (show R.isHeld n = false by rw [RS.isHeld, hn]; rfl)
    clear h hn
    unfold ptr at *
    go_enter Try.func34, Try.ntmps34
    go_wp2_with fail
    refine HH.out.mono ?_
    rintro e w' ⟨rfl, rfl⟩
    go_wp2_with fail
    go_ret
    exact ⟨by rw [HE.out]; rfl, Below.refl _ _⟩
  | true =>
    rw [hn] at HH
    have hn2 : 0 ≤ n ∧ n < (R.n : Int) := of_decide_eq_true hn
    have hNN := h.n1
    obtain ⟨k, rfl⟩ := Int.eq_ofNat_of_zero_le hn2.1
    have hk : k < R.n := by omega
    have HE := Lib.hid (show R.isHeld (k : Int) = R.now.2 (k : Int) by rw [RS.isHeld, hn]; rfl)
    obtain ⟨x, _, hx, hnow⟩ := rnow_any w col B c p dp R L h
    obtain ⟨g1, d1, _, hx1, _⟩ := own_form hx.h.own (by omega)
    have hxh := hx.h
    rw [hx1] at hxh hnow
    have hc := hxh.own.cellAt k (by omega)
    rw [bools_at _ hk] at hc
    have HN := Lib.hid hnow
    have HC := Lib.hid hc
    have hk0 : (0 : Int) ≤ (k : Int) := by omega
    have hk1 : (k : Int) < (R.n : Int) := by omega
    have hkn : ((k : Int)).toNat = k := by omega
    obtain ⟨x0, hx0⟩ : ∃ x0, x.1 = x0 := ⟨_, rfl⟩
    rw [hx0] at HN
    obtain ⟨b, hb⟩ : ∃ b, R.now.2 (k : Int) = b := ⟨_, rfl⟩
    rw [hb] at HC HE
    clear h hn hx hx1 hxh hnow hc hn2 hb hx0
    unfold ptr at *
    generalize R.n = N at *
    go_enter Try.func34, Try.ntmps34
    go_wp2_with fail
    refine HH.out.mono ?_
    rintro e w' ⟨rfl, rfl⟩
    go_wp2_with fail
    refine HN.out.mono ?_
    rintro e w2 ⟨rfl, hb2⟩
    have c2 : w2.cell? ⟨g1, k, none⟩ = some (.bool b) := (hb2.cell (World.block_lt_of_cell? _ _ HC.out)).trans HC.out
    have B2 := Lib.hid hb2
    have hfl := field_st1 x0 (.slice (some ⟨g1, 0, none⟩) N d1)
    clear hb2
    go_wp2_with fail
    go_ret
    exact ⟨by rw [HE.out]; rfl, B2.out⟩
def RS.changed (R : RS) : List Int := keysOf R.n R.now.1
theorem rchanged_any (w : World) (col : Col) (B c p dp : Nat) (R : RS) (L : RL) (h : RStoreL w col B c p dp R L) :
    Calls Try.prog 36 #[ptr p] w fun e w' => ∃ v, e = .returned v ∧ w'.ownsRow w.heap.size 3 1 v R.changed.length (ints R.changed) ∧ Below w.heap.size w w' := by
  have hNN := h.n1
  have H := Lib.hid h
  obtain ⟨N, hN⟩ : ∃ N, R.n = N := ⟨_, rfl⟩
  obtain ⟨f, hf⟩ : ∃ f, R.now.1 = f := ⟨_, rfl⟩
  have HF := Lib.hid hf
  have HNe := Lib.hid hN
  have HCH := Lib.hid (show R.changed = keysOf N f by rw [← hN, ← hf]; rfl)
  rw [HCH.out]
  rw [hN] at hNN
  clear h hN hf
  unfold ptr at *
  go_enter Try.func36, Try.ntmps36
  go_wp2_with fail
  go_loopw [3, 4] (fun oo ii wr => ∃ (i : Nat) (vo : Value), vo = oo ∧ ii = .int .i64 i ∧ i ≤ N ∧ wr.ownsRow w.heap.size 3 1 vo (keysOf i f).length (ints (keysOf i f)) ∧ Below w.heap.size w wr) (fun _ ii _ => N - (intOf ii).toNat)
  case atStart => exact ⟨0, _, rfl, rfl, by omega, World.ownsRow_nil _ _ _ _, Below.refl _ _⟩
  case round =>
    obtain ⟨i, vo, rfl, rfl, hi, ho, hb⟩ := hrel
    have HO := Lib.hid ho
    have BB := Lib.hid hb
    clear ho hb
    have c1 : wr.cell? ⟨p, 1, none⟩ = some (.int .i64 N) := by have := (H.out.below BB.out).s.blk.cell 1; rw [HNe.out] at this; exact this
    by_cases hlt : i < N
    · have hii : (i : Int) < (N : Int) := by omega
      have hi0 : (0 : Int) ≤ (i : Int) := by omega
      have hin : ((i : Int)).toNat = i := by omega
      obtain ⟨x, _, hx, hnow⟩ := rnow_any wr col B c p dp R L (H.out.below BB.out)
      obtain ⟨g0, d0, u, hx0, _, hcu, _, hou⟩ := hx.c.at_ (k := i) (by rw [HNe.out]; exact hlt)
      rw [hx0, HNe.out] at hnow
      rw [HF.out] at hou
      have HN := Lib.hid hnow
      have HCU := Lib.hid hcu
      obtain ⟨x1, hx1⟩ : ∃ x1, x.2 = x1 := ⟨_, rfl⟩
      rw [hx1] at HN
      have hfl := field_st0 (.slice (some ⟨g0, 0, none⟩) N d0) x1
      have hks := keysOf_succ f i
      cases hfi : f (i : Int) with
      | none =>
        rw [hfi] at hou
        have hu : u = .slice none 0 0 := hou
        subst hu
        have HO2 := Lib.hid (show wr.ownsRow w.heap.size 3 1 vo (keysOf (i + 1) f).length (ints (keysOf (i + 1) f)) by rw [hks, hfi]; simpa using HO.out)
        clear hx hx0 hcu hou hnow hx1 hks hfi
        go_wp2_with fail
        refine HN.out.mono ?_
        rintro e w2 ⟨rfl, hb2⟩
        have c2 : w2.cell? ⟨g0, i, none⟩ = some (.slice none 0 0) := (hb2.cell (World.block_lt_of_cell? _ _ HCU.out)).trans HCU.out
        have O2 := Lib.hid (own_below HO2.out hb2)
        have B2 := Lib.hid (below_all BB.out BB.out.size hb2)
        clear hb2 HN HCU
        go_wp2_with fail
        go_roundw
        case rel => exact ⟨i + 1, vo, rfl, by go_num, by omega, O2.out, B2.out⟩
        case measure => simp [intOf]; omega
      | some bs =>
        rw [hfi] at hou
        obtain ⟨gu, capu, rfl, _⟩ := Dat.form hou
        have HK2 := Lib.hid (show keysOf (i + 1) f = keysOf i f ++ [(i : Int)] by rw [hks, hfi]; rfl)
        have hkl := keysOf_len i f
        clear hx hx0 hcu hou hnow hx1 hks hfi
        go_wp2_with fail
        refine HN.out.mono ?_
        rintro e w2 ⟨rfl, hb2⟩
        have c2 : w2.cell? ⟨g0, i, none⟩ = some (.slice (some ⟨gu, 0, none⟩) 256 capu) := (hb2.cell (World.block_lt_of_cell? _ _ HCU.out)).trans HCU.out
        obtain ⟨w3, hw3⟩ : ∃ w3, w2.alloc (.cells #[.int .i64 i] 3) = w3 := ⟨_, rfl⟩
        have b3 : Below w2.heap.size w2 w3 := hw3 ▸ (Below.refl w2.heap.size w2).alloc (Nat.le_refl _) _
        have b13 := below_all hb2 hb2.size b3
        have O3 := Lib.hid (own_below HO.out b13)
        have B3 := Lib.hid (below_all BB.out BB.out.size b13)
        have X3 := Lib.hid (show RowAt w3 (some ⟨w2.heap.size, 0, none⟩) 1 (ints [(i : Int)]) by rw [← hw3]; exact lit_rowN w2 3 (ints [(i : Int)]) 1 w2.heap.size rfl rfl)
        have HW3 := Lib.hid hw3
        clear hb2 HN HCU hw3 b3 b13
        generalize hLL : keysOf i f = LL at *
        go_wp2_with (first
          | (at_builtin
             rw [HW3.out]
             refine app_i64 _ rfl (.tmp 20) (.tmp 22) rfl w.heap.size vo LL.length (ints LL) rfl O3.out (some ⟨w2.heap.size, 0, none⟩) 1 1 [(i : Int)] rfl (fun e => by cases e) X3.out (by omega) B3.out.size ?_
             intro v4 w4 ho4 hg4
             have O4 := Lib.hid (show w4.ownsRow w.heap.size 3 1 v4 (LL ++ [(i : Int)]).length (ints (LL ++ [(i : Int)])) by rw [← ints_snoc, List.length_append]; exact ho4)
             have B4 := Lib.hid (below_own O3.out B3.out (Nat.le_refl _) hg4)
             clear ho4 hg4)
          | fail)
        go_roundw
        case rel => exact ⟨i + 1, v4, rfl, by go_num, by omega, by rw [HK2.out]; exact O4.out, B4.out⟩
        case measure => simp [intOf]; omega
    · obtain rfl : i = N := by omega
      go_wp2_with fail
      go_ret
      exact ⟨vo, rfl, HO.out, BB.out⟩
end Go.Proofs.Ytomoliickggghaa.Mem

namespace Go.Proofs.Ytomoliickggghaa.Mem
open Go.RowKit Go.Proofs.Ytomoliickggghaa Go.Proofs.Ytomoliickggghaa.Wire
set_option maxHeartbeats 8000000
set_option maxRecDepth 100000
set_option linter.unusedVariables false
set_option linter.unusedSimpArgs false

/-- A step that touches only what came since: it goes with what was touched before. -/
theorem Tch.more {lo hi l2 h2 : Nat} {a b c : Col} {u v w : World} (h : Tch lo hi a b u v) (k : Tch l2 h2 b c v w) (hh : h2 ≤ 16) (hb : Below u.heap.size v w) (hc : ∀ i, i < u.heap.size → c i = b i) : Tch lo hi a c u w :=
  ⟨k.os.trans h.os, k.tape.trans h.tape, k.output.trans h.output, Nat.le_trans h.size k.size,
   fun i hi hn => (hc i hi).trans (h.hue i hi hn),
   fun i hi hn => by rw [hc i hi]; exact h.stay i hi hn,
   fun i hi hn => (hb.block i hi).trans (h.block i hi hn),
   fun ht => k.tidy (h.tidy ht),
   fun i hi => by
     rcases Nat.lt_or_ge i v.heap.size with h1 | h1
     · by_cases h3 : l2 ≤ b i ∧ b i < h2
       · have := k.stay i h1 h3; exact .inl (by omega)
       · rw [k.hue i h1 h3]; exact h.neu i hi
     · rcases k.neu i h1 with e | e | e
       · exact .inl e
       · exact .inl (by omega)
       · rw [e]; exact h.neu i hi⟩
/-- Writes' rows, told by places: what a list of writes is, when its numbers are the changed ones. -/
theorem WrO.ofKeys {w : World} {col : Col} {B N : Nat} {v : Value} {f : Int → Option Bytes} {vs : List (Int × Value)} (h1 : Row w col B 2 51 2 v vs.length (wcells vs)) (h2 : vs.map (·.1) = keysOf N f)
    (h3 : ∀ (i : Nat) (p : Int × Value), vs[i]? = some p → ∃ bs, f p.1 = some bs ∧ Row w col B 3 5 1 p.2 256 (bvl bs)) : WrO w col B v (wsOf N f) := by
  have hvl : vs.length = (keysOf N f).length := by rw [← h2, List.length_map]
  have hwl : (wsOf N f).length = vs.length := by rw [wsOf_len, hvl]
  refine ⟨vs, by rw [hwl]; exact h1, by rw [h2, wsOf, List.map_map]; exact (List.map_id' _).symm, fun i p q hp hq => ?_⟩
  obtain ⟨bs, q1, q2⟩ := h3 i p hp
  have k1 : (keysOf N f)[i]? = some p.1 := by rw [← h2, List.getElem?_map, hp]; rfl
  rw [wsOf, List.getElem?_map, k1] at hq
  injection hq with hq
  rw [← hq]
  show Row w col B 3 5 1 p.2 256 (bvl ((f p.1).getD []))
  rw [q1]; exact q2
def RWaits (w : World) (col : Col) (l : List (Int × Bytes)) (e : Ending) (w' : World) : Prop := ∃ v col', e = .returned v ∧ Tch 16 16 col col' w w' ∧ WrO w' col' w.heap.size v l
theorem rwaiting_any (w : World) (col : Col) (B c p dp : Nat) (R : RS) (L : RL) (h : RStoreL w col B c p dp R L) :
    Calls Try.prog 61 #[ptr p] w fun e w' => RWaits w col (wsOf R.n R.wait) e w' := by
  have hNN := h.n1
  have hlo := h.lo
  have H := Lib.hid h
  obtain ⟨N, hN⟩ : ∃ N, R.n = N := ⟨_, rfl⟩
  obtain ⟨f, hf⟩ : ∃ f, R.wait = f := ⟨_, rfl⟩
  have HF := Lib.hid hf
  have HNe := Lib.hid hN
  rw [hN] at hNN
  rw [hN, hf]
  clear h hN hf
  unfold ptr at *
  go_enter Try.func61, Try.ntmps61
  go_wp2_with fail
  go_loopw [3, 4] (fun oo ii wr => ∃ (j : Nat) (vs : List (Int × Value)) (colr : Col) (vo : Value), vo = oo ∧ j ≤ N ∧ ii = .int .i64 j ∧ Row wr colr w.heap.size 2 51 2 vo vs.length (wcells vs) ∧ vs.map (·.1) = keysOf j f ∧ (∀ (i : Nat) (p : Int × Value), vs[i]? = some p → ∃ bs, f p.1 = some bs ∧ Row wr colr w.heap.size 3 5 1 p.2 256 (bvl bs)) ∧ Tch 2 4 col colr w wr ∧ Below w.heap.size w wr ∧ (∀ g, g < w.heap.size → colr g = col g)) (fun _ ii _ => N - (intOf ii).toNat)
  case atStart => exact ⟨0, [], col, _, rfl, by omega, rfl, Row.nil _ _ _ _ _ _, rfl, (fun i p h => by cases h), Tch.refl _ _ _ _, Below.refl _ _, (fun _ _ => rfl)⟩
  case round =>
    obtain ⟨j, vs, colr, vo, rfl, hj, rfl, h1, h2, h3, h4, h5, h6⟩ := hrel
    have hvl : vs.length ≤ j := by have := congrArg List.length h2; rw [List.length_map] at this; have := keysOf_len j f; omega
    have R1 := Lib.hid h1
    have R2 := Lib.hid h2
    have R3 := Lib.hid h3
    have T4 := Lib.hid h4
    have B4 := Lib.hid h5
    have C4 := Lib.hid h6
    clear h1 h2 h3 h4 h5 h6
    have TF := Lib.hid (T4.out.fresh (by omega) B4.out C4.out)
    have HRJ := H.out.keep TF.out (by omega) (by omega)
    have c1 : wr.cell? ⟨p, 1, none⟩ = some (.int .i64 N) := by have := HRJ.s.blk.cell 1; rw [HNe.out] at this; exact this
    by_cases hlt : j < N
    · have hji : (j : Int) < (N : Int) := by omega
      have hj0 : (0 : Int) ≤ (j : Int) := by omega
      have hjn : ((j : Int)).toNat = j := by omega
      obtain ⟨g, cap, x, hv, _, hcx, _, hox⟩ := HRJ.wait.at_ (k := j) (by rw [HNe.out]; exact hlt)
      have c4 : wr.cell? ⟨p, 4, none⟩ = some (.slice (some ⟨g, 0, none⟩) N cap) := by have := HRJ.s.blk.cell 4; rw [hv, HNe.out] at this; exact this
      rw [HF.out] at hox
      have hks := keysOf_succ f j
      cases hfj : f (j : Int) with
      | none =>
        rw [hfj] at hox
        have hu : x = .slice none 0 0 := hox
        subst hu
        have K2 := Lib.hid (show vs.map (·.1) = keysOf (j + 1) f by rw [R2.out, hks, hfj]; simp)
        clear HRJ hv hox hks hfj
        go_wp2_with fail
        go_roundw
        case rel => exact ⟨j + 1, vs, colr, vo, rfl, by omega, by go_num, R1.out, K2.out, R3.out, T4.out, B4.out, C4.out⟩
        case measure => simp [intOf]; omega
      | some bs =>
       rw [hfj] at hox
       obtain ⟨gu, capu, rfl, hby, _⟩ := Dat.form hox
       have HK2 := Lib.hid (show keysOf (j + 1) f = keysOf j f ++ [(j : Int)] by rw [hks, hfj]; rfl)
       have HFJ := Lib.hid hfj
       have HC := Lib.hid (Wire.copied_any (some ⟨gu, 0, none⟩) 256 capu bs wr (by omega) (fun e => by cases e) hby)
       clear HRJ hv hox hks hfj hby
       go_wp2_with fail
       refine HC.out.mono ?_
       rintro e w5 ⟨v5, rfl, o5, b5⟩
       obtain ⟨g5, cap5, cur5, rfl, hg5, _⟩ := own_form o5 (by omega)
       obtain ⟨col5, hcol5⟩ : ∃ col5, col5 = paint colr g5 3 := ⟨_, rfl⟩
       have t5 : Tch 16 16 colr col5 wr w5 := by rw [hcol5]; exact (Tch.of_below b5).paint hg5 (o5.lt _ rfl).2 (by omega)
       have hws : w.heap.size ≤ wr.heap.size := T4.out.size
       have c5 : ∀ g, g < w.heap.size → col5 g = colr g := fun g hg => by rw [hcol5, paint_other (by omega)]
       have D5 := Lib.hid (show Row w5 col5 w.heap.size 3 5 1 (.slice (some ⟨g5, 0, none⟩) 256 cap5) 256 (bvl bs) from ⟨own_mono o5 hws, fun g e => by injection e with e; subst e; rw [hcol5, paint_self]⟩)
       obtain ⟨w6, hw6⟩ : ∃ w6, w5.alloc (.cells #[.int .i64 j, .slice (some ⟨g5, 0, none⟩) 256 cap5] 51) = w6 := ⟨_, rfl⟩
       have t6 : Tch 16 16 col5 col5 w5 w6 := by rw [← hw6]; exact (Tch.refl _ _ _ _).alloc _
       have X6 := Lib.hid (show RowAt w6 (some ⟨w5.heap.size, 0, none⟩) (1 * 2) [.int .i64 j, .slice (some ⟨g5, 0, none⟩) 256 cap5] by rw [← hw6]; exact lit_rowN w5 51 [.int .i64 j, .slice (some ⟨g5, 0, none⟩) 256 cap5] (1 * 2) w5.heap.size rfl rfl)
       have t56 := t5.trans t6
       have T56 := Lib.hid t56
       have B6 := Lib.hid (show Below w.heap.size wr w6 from ⟨t56.os, t56.tape, t56.output, t56.size, fun i hi => t56.block i (by omega) (by omega)⟩)
       have O6 := Lib.hid (R1.out.keep t56 (by omega))
       have D6 := Lib.hid (D5.out.keep t6 (by omega))
       have C5 := Lib.hid c5
       have HW6 := Lib.hid hw6
       have hB6 : w.heap.size ≤ w6.heap.size := Nat.le_trans hws t56.size
       obtain ⟨wl, hwl⟩ : ∃ wl, vs.length = wl := ⟨_, rfl⟩
       have VL := Lib.hid hwl
       rw [hwl] at O6 hvl
       clear t5 t6 t56 hw6 b5 o5 hcol5 HC c5 hwl
       go_wp2_with (first
         | (at_builtin
            rw [HW6.out]
            refine app_row_by _ 37 51 (.agg #[.int .i64 0, .slice none 0 0]) 2 32 Try.underlying37 infoWrite rfl (by decide) rfl (.tmp 21) (.tmp 32) rfl col5 w.heap.size 2 2 3 vo wl (wcells vs) rfl O6.out ⟨by omega, by omega⟩ ⟨w5.heap.size, 0, none⟩ 1 1 [.int .i64 j, .slice (some ⟨g5, 0, none⟩) 256 cap5] rfl X6.out (by intro u hu; simp at hu; rcases hu with rfl | rfl <;> rfl) (by unfold maxLen; omega) (by omega) hB6 ?_
            intro v7 w7 col7 r7 t7 b7 c7
            obtain ⟨g7, cap7, cur7, rfl, _⟩ := own_formN r7.own (by omega)
            have e7 : wcells vs ++ [.int .i64 j, .slice (some ⟨g5, 0, none⟩) 256 cap5] = wcells (vs ++ [((j : Int), Value.slice (some ⟨g5, 0, none⟩) 256 cap5)]) := by rw [wcells_append]; rfl
            rw [e7] at r7
            have l7 : (vs ++ [((j : Int), Value.slice (some ⟨g5, 0, none⟩) 256 cap5)]).length = wl + 1 := by rw [List.length_append, VL.out]; rfl
            have F1 := Lib.hid (show Row w7 col7 w.heap.size 2 51 2 (.slice (some ⟨g7, 0, none⟩) (wl + 1) cap7) (vs ++ [((j : Int), Value.slice (some ⟨g5, 0, none⟩) 256 cap5)]).length (wcells (vs ++ [((j : Int), Value.slice (some ⟨g5, 0, none⟩) 256 cap5)])) by rw [l7]; exact r7)
            have F2 := Lib.hid (show (vs ++ [((j : Int), Value.slice (some ⟨g5, 0, none⟩) 256 cap5)]).map (·.1) = keysOf (j + 1) f by rw [List.map_append, R2.out, HK2.out]; rfl)
            have F3 := Lib.hid (show ∀ (i : Nat) (p : Int × Value), (vs ++ [((j : Int), Value.slice (some ⟨g5, 0, none⟩) 256 cap5)])[i]? = some p → ∃ bs, f p.1 = some bs ∧ Row w7 col7 w.heap.size 3 5 1 p.2 256 (bvl bs) from fun i p hp => by
              rcases Nat.lt_or_ge i vs.length with hi | hi
              · rw [List.getElem?_append_left hi] at hp
                obtain ⟨bs0, q1, q2⟩ := R3.out i p hp
                exact ⟨bs0, q1, (q2.keep T56.out (by omega)).keep t7 (by omega)⟩
              · rw [List.getElem?_append_right hi] at hp
                cases hq : i - vs.length with
                | zero =>
                  rw [hq] at hp
                  injection hp with hp
                  subst hp
                  exact ⟨bs, HFJ.out, D6.out.keep t7 (by omega)⟩
                | succ q => rw [hq] at hp; cases hp)
            have F4 := Lib.hid ((T4.out.trans (T56.out.any (Nat.le_refl _))).trans (t7.mono (by omega) (by omega)))
            have F5 := Lib.hid ((B4.out.trans B6.out).trans b7)
            have F6 := Lib.hid (show ∀ g, g < w.heap.size → col7 g = col g from fun g hg => by rw [c7 g hg, C5.out g hg, C4.out g hg])
            clear r7 t7 b7 c7 e7 l7)
         | fail)
       go_roundw
       case rel => exact ⟨j + 1, _, col7, _, rfl, by omega, by go_num, F1.out, F2.out, F3.out, F4.out, F5.out, F6.out⟩
       case measure => simp [intOf]; omega
    · obtain rfl : j = N := by omega
      have FIN := Lib.hid (WrO.ofKeys R1.out R2.out R3.out)
      clear HRJ
      go_wp2_with fail
      go_ret
      exact ⟨_, colr, rfl, TF.out, FIN.out⟩
end Go.Proofs.Ytomoliickggghaa.Mem

namespace Go.Proofs.Ytomoliickggghaa.Mem
open Go.RowKit Go.Proofs.Ytomoliickggghaa Go.Proofs.Ytomoliickggghaa.Wire
set_option maxHeartbeats 8000000
set_option maxRecDepth 100000
set_option linter.unusedVariables false
set_option linter.unusedSimpArgs false

def RS.commit (R : RS) : RS := { R with st := [((fun _ => none), R.now.2)], wait := over R.now.1 R.wait }
/-- What waits, when the places below j were taken. -/
def ovTo (f g : Int → Option Bytes) (j : Nat) : Int → Option Bytes := fun k => if k < (j : Int) then over f g k else g k
theorem ovTo_none {f g : Int → Option Bytes} {j : Nat} (h : f (j : Int) = none) : ovTo f g (j + 1) = ovTo f g j := by
  funext k
  unfold ovTo
  by_cases h1 : k < (j : Int)
  · rw [if_pos h1, if_pos (by omega)]
  · rw [if_neg h1]
    by_cases h2 : k < ((j + 1 : Nat) : Int)
    · obtain rfl : k = (j : Int) := by omega
      rw [if_pos h2]
      unfold over
      rw [h]
    · rw [if_neg h2]
theorem ovTo_some {f g : Int → Option Bytes} {j : Nat} {b : Bytes} (h : f (j : Int) = some b) : (fun k => if k = (j : Int) then some b else ovTo f g j k) = ovTo f g (j + 1) := by
  funext k
  unfold ovTo
  by_cases h1 : k < (j : Int)
  · rw [if_neg (by omega), if_pos h1, if_pos (by omega)]
  · by_cases h2 : k = (j : Int)
    · subst h2
      rw [if_pos rfl, if_pos (by omega)]
      unfold over
      rw [h]
    · rw [if_neg h2, if_neg h1, if_neg (by omega)]
theorem RStoreL.waitSet {w : World} {col : Col} {B c p dp g cc k : Nat} {R : RS} {L : RL} (h : RStoreL w col B c p dp R L) (hv : L.vw = .slice (some ⟨g, 0, none⟩) R.n cc) {x : Value} {o : Option Bytes} (hx : OptDat w col B x o) :
    RStoreL (w.setCell ⟨g, k, none⟩ x) col B c p dp { R with wait := fun j => if j = (k : Int) then o else R.wait j } L ∧ Tch (c + 2) (c + 3) col col w (w.setCell ⟨g, k, none⟩ x) := by
  have hlo := h.lo
  have hw := h.wait
  rw [hv] at hw
  obtain ⟨h1, ht⟩ := hw.put (k := k) hx (by omega)
  exact ⟨⟨h.s.keep ht (by omega), h.st.keep ht (by omega), h.stl, fun i x y h1 h2 => (h.sta i x y h1 h2).keep ht (by omega), by show OptRow _ col B (c + 2) L.vw R.n _; rw [hv]; exact h1, h.ca.keep ht (by omega), fun i u m h1 h2 => (h.cal i u m h1 h2).keep ht (by omega), h.d.keep ht (by omega) (by omega),
    h.dn, h.lo, h.stn, h.can, h.calen, h.rm, h.few⟩, ht⟩
theorem RStoreL.waitExt {w : World} {col : Col} {B c p dp : Nat} {R : RS} {L : RL} (h : RStoreL w col B c p dp R L) {g : Int → Option Bytes} (e : ∀ i : Nat, i < R.n → R.wait i = g i) : RStoreL w col B c p dp { R with wait := g } L :=
  ⟨h.s, h.st, h.stl, h.sta, h.wait.ext e, h.ca, h.cal, h.d, h.dn, h.lo, h.stn, h.can, h.calen, h.rm, h.few⟩
theorem RStoreL.oneSt {w w' : World} {col col' : Col} {B c p dp : Nat} {R : RS} {L : RL} (h : RStoreL w col B c p dp R L) (ht : Tch (c + 1) (c + 2) col col' w w') {v' : Value} {x : Value × Value} {y : RSt}
    (hr : Row w' col' B (c + 1) 96 2 v' 1 [x.1, x.2]) (hx : RStAt w' col' B R.n x y) :
    RStoreL (w'.setCell ⟨p, 3, none⟩ v') col' B c p dp { R with st := [y] } { L with vst := v', xs := [x] } ∧ Tch c (c + 1) col' col' w' (w'.setCell ⟨p, 3, none⟩ v') := by
  have hlo := h.lo
  have hs := h.s.keep ht (by omega)
  have hst := h.stn
  have hfew := h.few
  have t2 : Tch c (c + 1) col' col' w' (w'.setCell ⟨p, 3, none⟩ v') := (Tch.refl _ _ _ _).setCell (p := ⟨p, 3, none⟩) (by rw [hs.c]; omega) v'
  refine ⟨⟨hs.set 3 v', hr.keep t2 (by omega), rfl, fun i u z h1 h2 => ?_, (h.wait.keep ht (by omega) (by omega)).keep t2 (by omega) (by omega), (h.ca.keep ht (by omega)).keep t2 (by omega), fun i v l h1 h2 => ((h.cal i v l h1 h2).keep ht (by omega)).keep t2 (by omega),
    (h.d.keep ht (by omega) (by omega)).keep t2 (by omega) (by omega), h.dn, h.lo, Nat.le_refl _, h.can, h.calen, h.rm, by show 1 + R.found + R.asked ≤ 1000000000; omega⟩, t2⟩
  cases i with
  | zero =>
    injection h1 with h1
    injection h2 with h2
    subst h1 h2
    exact hx.keep t2 (by omega)
  | succ i => cases h1
/-- A row of nothing is a row of blocks, none of which is there. -/
theorem OptRow.fresh0 {w w' : World} {col : Col} {B n : Nat} (hB : B ≤ w.heap.size) (hn : n ≤ 1048576) (hw : w.alloc (.cells (nils n) 34) = w') {r : Nat} (hc : col w.heap.size = r) : OptRow w' col B r (.slice (some ⟨w.heap.size, 0, none⟩) n n) n (fun _ => none) := by
  have hl : (List.replicate n (Value.slice none 0 0)).length = n := by simp
  refine ⟨List.replicate n (.slice none 0 0), ⟨?_, fun g e => by injection e with e; subst e; exact hc⟩, fun i x hx => ?_⟩
  · have := lit_ownN w 34 1 (List.replicate n (Value.slice none 0 0)) n (by rw [hl, Nat.mul_one]) (by unfold maxLen; omega)
    rw [show (List.replicate n (Value.slice none 0 0)).toArray = nils n from rfl, hw] at this
    exact own_mono this hB
  · rw [List.getElem?_replicate] at hx
    split at hx
    · injection hx with hx; exact hx.symm
    · cases hx
def RCommits (w : World) (col : Col) (B c p dp : Nat) (R : RS) (l : List (Int × Bytes)) (e : Ending) (w' : World) : Prop := ∃ v col', e = .returned v ∧ Tch c (c + 7) col col' w w' ∧ RStoreAt w' col' B c p dp R ∧ WrO w' col' w.heap.size v l
theorem rcommit_any (w : World) (col : Col) (B c p dp : Nat) (R : RS) (h : RStoreAt w col B c p dp R) (hB : B ≤ w.heap.size) (ht0 : ∀ b, w.heap.size ≤ b → col b = 0) (hN1 : 1 ≤ R.n) :
    Calls Try.prog 57 #[ptr p] w fun e w' => RCommits w col B c p dp R.commit (wsOf R.n R.now.1) e w' := by
  obtain ⟨L, h⟩ := h
  have hNN := h.n1
  have hlo := h.lo
  obtain ⟨x, _, hx, hnow⟩ := rnow_any w col B c p dp R L h
  obtain ⟨gc, cc, _, hx0, _⟩ := hx.c.at_ (k := 0) (by omega)
  obtain ⟨A1, d1, hx1, _⟩ := row_len hx.h
  obtain ⟨x1, x2⟩ := x
  have hx0' : x1 = .slice (some ⟨gc, 0, none⟩) R.n cc := hx0
  have hx1' : x2 = .slice A1 R.n d1 := hx1
  subst hx0' hx1'
  have HRC := Lib.hid (show R.commit = { R with st := [((fun _ => none), R.now.2)], wait := over R.now.1 R.wait } from rfl)
  obtain ⟨N, hN⟩ : ∃ N, R.n = N := ⟨_, rfl⟩
  obtain ⟨f, hf⟩ : ∃ f, R.now.1 = f := ⟨_, rfl⟩
  obtain ⟨hh, hhh⟩ : ∃ hh, R.now.2 = hh := ⟨_, rfl⟩
  have hnw : R.now = (f, hh) := by rw [← hf, ← hhh]
  have HN := Lib.hid hnow
  have HNe := Lib.hid hN
  rw [hN] at hNN HN hN1 hx
  rw [hnw] at hx
  rw [hf, hhh] at HRC
  rw [hN, hf]
  have HX := Lib.hid hx
  have H := Lib.hid h
  have HT0 := Lib.hid ht0
  have hmk := make_rows N (by omega)
  clear h hN hf hhh hnw hx hx0 hx1 hnow ht0
  unfold ptr at *
  go_enter Try.func57, Try.ntmps57
  go_wp2_with fail
  refine HN.out.mono ?_
  rintro e w1 ⟨rfl, hb1⟩
  obtain ⟨w2, hw2⟩ : ∃ w2, w1.alloc (.cells #[.slice (some ⟨gc, 0, none⟩) N cc, .slice A1 N d1] 96) = w2 := ⟨_, rfl⟩
  obtain ⟨s3, hs3⟩ : ∃ s3, w1.heap.size = s3 := ⟨_, rfl⟩
  have b12 : Below w1.heap.size w1 w2 := hw2 ▸ (Below.refl w1.heap.size w1).alloc (Nat.le_refl _) _
  have b02 := below_all hb1 hb1.size b12
  have hs3w : w.heap.size ≤ s3 := by rw [← hs3]; exact hb1.size
  have K2 := Lib.hid (show Bk w2 col B 0 s3 96 #[.slice (some ⟨gc, 0, none⟩) N cc, .slice A1 N d1] from ⟨by rw [← hw2, ← hs3]; exact Blk.new _ _ _, HT0.out s3 hs3w, Nat.le_trans hB hs3w⟩)
  have B2 := Lib.hid b02
  have HW2 := Lib.hid hw2
  have HS3 := Lib.hid hs3
  have H2 := Lib.hid (show RStoreL w2 col B c p dp { R with wait := ovTo f R.wait 0 } L from (H.out.below b02).waitExt (fun i hi => by unfold ovTo; rw [if_neg (by omega)]))
  have HX2 := Lib.hid (HX.out.keep (lo := 16) (hi := 16) (Tch.of_below b02) (by omega))
  clear hb1 hw2 hs3 b12 b02 HN HX
  go_wp2_with (first | rw [HS3.out, HW2.out] | fail)
  go_loopw [4, 5] (fun oo ii wr => ∃ (j : Nat) (vs : List (Int × Value)) (colr : Col) (vo : Value), vo = oo ∧ j ≤ N ∧ ii = .int .i64 j ∧ Row wr colr w.heap.size 2 51 2 vo vs.length (wcells vs) ∧ vs.map (·.1) = keysOf j f ∧ (∀ (i : Nat) (p : Int × Value), vs[i]? = some p → ∃ bs, f p.1 = some bs ∧ Row wr colr w.heap.size 3 5 1 p.2 256 (bvl bs)) ∧ Tch (c + 2) (c + 3) col colr w wr ∧ (∀ g, g < w.heap.size → colr g = col g) ∧ RStoreL wr colr B c p dp { R with wait := ovTo f R.wait j } L ∧ Bk wr colr B 0 s3 96 #[.slice (some ⟨gc, 0, none⟩) N cc, .slice A1 N d1] ∧ RStAt wr colr B N (.slice (some ⟨gc, 0, none⟩) N cc, .slice A1 N d1) (f, hh)) (fun _ ii _ => N - (intOf ii).toNat)
  case atStart => exact ⟨0, [], col, _, rfl, by omega, rfl, Row.nil _ _ _ _ _ _, rfl, (fun i p h => by cases h), Tch.of_below B2.out, (fun _ _ => rfl), H2.out, K2.out, HX2.out⟩
  case round =>
    obtain ⟨j, vs, colr, vo, rfl, hj, rfl, h1, h2, h3, h4, h6, h7, h8, h9⟩ := hrel
    have hvl : vs.length ≤ j := by have := congrArg List.length h2; rw [List.length_map] at this; have := keysOf_len j f; omega
    have R1 := Lib.hid h1
    have R2 := Lib.hid h2
    have R3 := Lib.hid h3
    have T4 := Lib.hid h4
    have C4 := Lib.hid h6
    have H7 := Lib.hid h7
    have K8 := Lib.hid h8
    have X9 := Lib.hid h9
    clear h1 h2 h3 h4 h6 h7 h8 h9 HW2 HS3 B2 K2 H2 HX2
    have c1 : wr.cell? ⟨p, 1, none⟩ = some (.int .i64 N) := by have := H7.out.s.blk.cell 1; rw [← HNe.out]; exact this
    have hwsz : w.heap.size ≤ wr.heap.size := T4.out.size
    by_cases hlt : j < N
    · have hji : (j : Int) < (N : Int) := by omega
      have hj0 : (0 : Int) ≤ (j : Int) := by omega
      have hjn : ((j : Int)).toNat = j := by omega
      obtain ⟨g', cap', x, hv, _, hcx, _, hox⟩ := X9.out.c.at_ (k := j) hlt
      obtain ⟨rfl, rfl⟩ : gc = g' ∧ cc = cap' := by
        injection hv with q1 _ q3
        injection q1 with q1
        injection q1 with q1
        exact ⟨q1, q3⟩
      have s0 : wr.cell? ⟨s3, 0, none⟩ = some (.slice (some ⟨gc, 0, none⟩) N cc) := K8.out.blk.cell 0
      have hks := keysOf_succ f j
      cases hfj : f (j : Int) with
      | none =>
        rw [show ((f, hh) : RSt).1 (j : Int) = none from hfj] at hox
        have hu : x = .slice none 0 0 := hox
        subst hu
        have K2 := Lib.hid (show vs.map (·.1) = keysOf (j + 1) f by rw [R2.out, hks, hfj]; simp)
        have H72 := Lib.hid (show RStoreL wr colr B c p dp { R with wait := ovTo f R.wait (j + 1) } L by rw [ovTo_none hfj]; exact H7.out)
        clear hv hox hks hfj
        go_wp2_with fail
        go_roundw
        case rel => exact ⟨j + 1, vs, colr, vo, rfl, by omega, by go_num, R1.out, K2.out, R3.out, T4.out, C4.out, H72.out, K8.out, X9.out⟩
        case measure => simp [intOf]; omega
      | some bs =>
       rw [show ((f, hh) : RSt).1 (j : Int) = some bs from hfj] at hox
       obtain ⟨gu, capu, rfl, hby, _⟩ := Dat.form hox
       have HK2 := Lib.hid (show keysOf (j + 1) f = keysOf j f ++ [(j : Int)] by rw [hks, hfj]; rfl)
       have HFJ := Lib.hid hfj
       have HOX := Lib.hid hox
       have HC := Lib.hid (Wire.copied_any (some ⟨gu, 0, none⟩) 256 capu bs wr (by omega) (fun e => by cases e) hby)
       have HOS := Lib.hid (ovTo_some (g := R.wait) hfj)
       have hB7 : B ≤ wr.heap.size := Nat.le_trans hB hwsz
       clear hv hox hks hfj hby
       go_wp2_with fail
       refine HC.out.mono ?_
       rintro e w5 ⟨v5, rfl, o5, b5⟩
       obtain ⟨g5, cap5, cur5, rfl, hg5, _⟩ := own_form o5 (by omega)
       obtain ⟨col5, hcol5⟩ : ∃ col5, col5 = paint colr g5 3 := ⟨_, rfl⟩
       have t5 : Tch 16 16 colr col5 wr w5 := by rw [hcol5]; exact (Tch.of_below b5).paint hg5 (o5.lt _ rfl).2 (by omega)
       have hws : w.heap.size ≤ wr.heap.size := T4.out.size
       have c5 : ∀ g, g < w.heap.size → col5 g = colr g := fun g hg => by rw [hcol5, paint_other (by omega)]
       have D5 := Lib.hid (show Row w5 col5 w.heap.size 3 5 1 (.slice (some ⟨g5, 0, none⟩) 256 cap5) 256 (bvl bs) from ⟨own_mono o5 hws, fun g e => by injection e with e; subst e; rw [hcol5, paint_self]⟩)
       obtain ⟨w6, hw6⟩ : ∃ w6, w5.alloc (.cells #[.int .i64 j, .slice (some ⟨g5, 0, none⟩) 256 cap5] 51) = w6 := ⟨_, rfl⟩
       have t6 : Tch 16 16 col5 col5 w5 w6 := by rw [← hw6]; exact (Tch.refl _ _ _ _).alloc _
       have X6 := Lib.hid (show RowAt w6 (some ⟨w5.heap.size, 0, none⟩) (1 * 2) [.int .i64 j, .slice (some ⟨g5, 0, none⟩) 256 cap5] by rw [← hw6]; exact lit_rowN w5 51 [.int .i64 j, .slice (some ⟨g5, 0, none⟩) 256 cap5] (1 * 2) w5.heap.size rfl rfl)
       have t56 := t5.trans t6
       have T56 := Lib.hid t56
       have B6 := Lib.hid (show Below w.heap.size wr w6 from ⟨t56.os, t56.tape, t56.output, t56.size, fun i hi => t56.block i (by omega) (by omega)⟩)
       have O6 := Lib.hid (R1.out.keep t56 (by omega))
       have D6 := Lib.hid (D5.out.keep t6 (by omega))
       have C5 := Lib.hid c5
       have HW6 := Lib.hid hw6
       have hB6 : w.heap.size ≤ w6.heap.size := Nat.le_trans hws t56.size
       obtain ⟨wl, hwl⟩ : ∃ wl, vs.length = wl := ⟨_, rfl⟩
       have VL := Lib.hid hwl
       rw [hwl] at O6 hvl
       clear t5 t6 t56 hw6 b5 o5 hcol5 HC c5 hwl
       go_upto_region 8 with (first
         | (at_builtin
            rw [HW6.out]
            refine app_row_by _ 37 51 (.agg #[.int .i64 0, .slice none 0 0]) 2 32 Try.underlying37 infoWrite rfl (by decide) rfl (.tmp 22) (.tmp 31) rfl col5 w.heap.size 2 2 3 vo wl (wcells vs) rfl O6.out ⟨by omega, by omega⟩ ⟨w5.heap.size, 0, none⟩ 1 1 [.int .i64 j, .slice (some ⟨g5, 0, none⟩) 256 cap5] rfl X6.out (by intro u hu; simp at hu; rcases hu with rfl | rfl <;> rfl) (by unfold maxLen; omega) (by omega) hB6 ?_
            intro v7 w7 col7 r7 t7 b7 c7
            obtain ⟨g7, cap7, cur7, rfl, _⟩ := own_formN r7.own (by omega)
            have e7 : wcells vs ++ [.int .i64 j, .slice (some ⟨g5, 0, none⟩) 256 cap5] = wcells (vs ++ [((j : Int), Value.slice (some ⟨g5, 0, none⟩) 256 cap5)]) := by rw [wcells_append]; rfl
            rw [e7] at r7
            have l7 : (vs ++ [((j : Int), Value.slice (some ⟨g5, 0, none⟩) 256 cap5)]).length = wl + 1 := by rw [List.length_append, VL.out]; rfl
            have F1 := Lib.hid (show Row w7 col7 w.heap.size 2 51 2 (.slice (some ⟨g7, 0, none⟩) (wl + 1) cap7) (vs ++ [((j : Int), Value.slice (some ⟨g5, 0, none⟩) 256 cap5)]).length (wcells (vs ++ [((j : Int), Value.slice (some ⟨g5, 0, none⟩) 256 cap5)])) by rw [l7]; exact r7)
            have F2 := Lib.hid (show (vs ++ [((j : Int), Value.slice (some ⟨g5, 0, none⟩) 256 cap5)]).map (·.1) = keysOf (j + 1) f by rw [List.map_append, R2.out, HK2.out]; rfl)
            have F3 := Lib.hid (show ∀ (i : Nat) (p : Int × Value), (vs ++ [((j : Int), Value.slice (some ⟨g5, 0, none⟩) 256 cap5)])[i]? = some p → ∃ bs, f p.1 = some bs ∧ Row w7 col7 w.heap.size 3 5 1 p.2 256 (bvl bs) from fun i p hp => by
              rcases Nat.lt_or_ge i vs.length with hi | hi
              · rw [List.getElem?_append_left hi] at hp
                obtain ⟨bs0, q1, q2⟩ := R3.out i p hp
                exact ⟨bs0, q1, (q2.keep T56.out (by omega)).keep t7 (by omega)⟩
              · rw [List.getElem?_append_right hi] at hp
                cases hq : i - vs.length with
                | zero =>
                  rw [hq] at hp
                  injection hp with hp
                  subst hp
                  exact ⟨bs, HFJ.out, D6.out.keep t7 (by omega)⟩
                | succ q => rw [hq] at hp; cases hp)
            have t67 : Tch 2 3 colr col7 wr w7 := (T56.out.any (lo' := 2) (hi' := 3) (Nat.le_refl _)).trans t7
            have t7d : Tch 2 3 colr col7 wr w7.drew := t67.drew
            have hC7 : ∀ g, g < w.heap.size → col7 g = col g := fun g hg => by rw [c7 g hg, C5.out g hg, C4.out g hg]
            have F4 := Lib.hid (((T4.out.trans (T56.out.any (Nat.le_refl _))).more t7 (by omega) b7 c7).drew)
            have F6 := Lib.hid hC7
            have H7d := H7.out.keep t7d (by omega) (by omega)
            have X9d := X9.out.keep t7d (by omega)
            have K8d := K8.out.keep t7d (by omega)
            have OXd := OptDat.keep (o := some bs) HOX.out t7d (by omega)
            obtain ⟨gw, cw, xw, hvw, _, hcw, hzw, _⟩ := H7d.wait.at_ (k := j) (by show j < R.n; rw [HNe.out]; exact hlt)
            have hvw' : L.vw = .slice (some ⟨gw, 0, none⟩) R.n cw := hvw
            have hvn : L.vw = .slice (some ⟨gw, 0, none⟩) N cw := by rw [hvw', HNe.out]
            obtain ⟨hW, tW⟩ := H7d.waitSet hvw' (k := j) (x := .slice (some ⟨gu, 0, none⟩) 256 capu) (o := some bs) OXd
            have d4 : w7.drew.cell? ⟨p, 4, none⟩ = some (.slice (some ⟨gw, 0, none⟩) N cw) := by rw [← hvn]; exact H7d.s.blk.cell 4
            have ds : w7.drew.cell? ⟨s3, 0, none⟩ = some (.slice (some ⟨gc, 0, none⟩) N cc) := K8d.blk.cell 0
            have ecx : w7.drew.cell? ⟨gc, j, none⟩ = some (.slice (some ⟨gu, 0, none⟩) 256 capu) := by
              obtain ⟨_, _, xx, hv2, hq, hcc2, _⟩ := X9d.c.at_ (k := j) hlt
              injection hv2 with q1 _ q3
              injection q1 with q1
              injection q1 with q1
              subst q1
              have hbl := t67.block gc (World.block_lt_of_cell? _ _ hcx) (by have := (X9.out.c.at_ (k := j) hlt); obtain ⟨g9, c9, _, hv9, hq9, _⟩ := this; injection hv9 with q1 _ q3; injection q1 with q1; injection q1 with q1; subst q1; omega)
              exact (World.cell?_of_block (a := ⟨gc, j, none⟩) hbl).trans hcx
            have e4 : (w7.drew.setCell ⟨gw, j, none⟩ (.slice (some ⟨gu, 0, none⟩) 256 capu)).cell? ⟨p, 4, none⟩ = some (.slice (some ⟨gw, 0, none⟩) N cw) := by rw [← hvn]; exact hW.s.blk.cell 4
            have es : (w7.drew.setCell ⟨gw, j, none⟩ (.slice (some ⟨gu, 0, none⟩) 256 capu)).cell? ⟨s3, 0, none⟩ = some (.slice (some ⟨gc, 0, none⟩) N cc) := (K8d.keep tW (by omega)).blk.cell 0
            have eg : (w7.drew.setCell ⟨gw, j, none⟩ (.slice (some ⟨gu, 0, none⟩) 256 capu)).cell? ⟨gc, j, none⟩ = some (.slice (some ⟨gu, 0, none⟩) 256 capu) := by
              have hg1 : col7 gc = 1 := by obtain ⟨g9, c9, _, hv9, hq9, _⟩ := X9d.c.at_ (k := j) hlt; injection hv9 with q1 _ q3; injection q1 with q1; injection q1 with q1; subst q1; exact hq9
              have hbl := tW.block gc (World.block_lt_of_cell? _ _ ecx) (by omega)
              exact (World.cell?_of_block (a := ⟨gc, j, none⟩) hbl).trans ecx
            have G1 := Lib.hid ((Row.keep F1.out ((Tch.refl 16 16 col7 w7).drew) (by omega)).keep tW (by omega))
            have G3 := Lib.hid (fun (i : Nat) (p : Int × Value) (hp : (vs ++ [((j : Int), Value.slice (some ⟨g5, 0, none⟩) 256 cap5)])[i]? = some p) => (show ∃ bs, f p.1 = some bs ∧ Row (w7.drew.setCell ⟨gw, j, none⟩ (.slice (some ⟨gu, 0, none⟩) 256 capu)) col7 w.heap.size 3 5 1 p.2 256 (bvl bs) from by
              obtain ⟨bs0, q1, q2⟩ := F3.out i p hp
              exact ⟨bs0, q1, (Row.keep q2 ((Tch.refl 16 16 col7 w7).drew) (by omega)).keep tW (by omega)⟩))
            have G4 := Lib.hid (F4.out.trans tW)
            have G7 := Lib.hid (show RStoreL (w7.drew.setCell ⟨gw, j, none⟩ (.slice (some ⟨gu, 0, none⟩) 256 capu)) col7 B c p dp { R with wait := ovTo f R.wait (j + 1) } L by rw [← HOS.out]; exact hW)
            have G8 := Lib.hid (K8d.keep tW (by omega))
            have G9 := Lib.hid (X9d.keep tW (by omega))
            clear t67 t7d hC7 H7d X9d K8d OXd hvw hvw' hvn hW tW
            clear r7 t7 b7 c7 e7 l7)
         | fail)
       refine region_mix [true, true, true, true, true, true, true, true, true, true, true, false] (S := fun w' => w'.cell? ⟨p, 4, none⟩ = some (.slice (some ⟨gw, 0, none⟩) N cw) ∧ w'.cell? ⟨s3, 0, none⟩ = some (.slice (some ⟨gc, 0, none⟩) N cc) ∧ w'.cell? ⟨gc, j, none⟩ = some (.slice (some ⟨gu, 0, none⟩) 256 capu)) (by kernel_rfl) (by kernel_rfl) (fun _ _ d _ _ h => by cases d <;> exact h) ⟨d4, ds, ecx⟩ ?_
       iterate 11 (refine mix_take (v := ?_) (by kernel_rfl) ?_ (fun K hK => ?_); rotate_left; (· (intro w' hSw; (try dsimp only at hSw); go_simp; with_reducible rfl)); simp only [Act.put, List.setIfInBounds_toArray, List.set_cons_zero, List.set_cons_succ]; refine hK _ ?_; clear hK K)
       refine mix_do (E := False) (fun K hK => ?_) (by kernel_rfl)
       go_simp
       refine hK.out _ _ (⟨e4, es, eg⟩) ?_
       clear hK K
       try simp only [Act.put, List.setIfInBounds_toArray, List.set_cons_zero, List.set_cons_succ]
       refine mix_end ?_
       go_wp2_with fail
       go_roundw
       case rel => exact ⟨j + 1, _, col7, _, rfl, by omega, by go_num, G1.out, F2.out, G3.out, G4.out, F6.out, G7.out, G8.out, G9.out⟩
       case measure => simp [intOf]; omega
    · obtain rfl : j = N := by omega
      have FIN := Lib.hid (WrO.ofKeys R1.out R2.out R3.out)
      have HE := Lib.hid (show RStoreL wr colr B c p dp { R with wait := over f R.wait } L from H7.out.waitExt (fun i hi => by show ovTo f R.wait j i = _; unfold ovTo; rw [if_pos (by rw [HNe.out] at hi; omega)]))
      clear R1 R2 R3 H7 hvl
      go_upto_region 9 with fail
      obtain ⟨R1, hR1⟩ : ∃ R1 : RS, { R with wait := over f R.wait } = R1 := ⟨_, rfl⟩
      rw [hR1] at HE
      have HRC2 := Lib.hid (show R.commit = { R1 with st := [((fun _ => none), hh)] } by rw [HRC.out, ← hR1])
      have hn1 : R1.n = j := by rw [← hR1]; exact HNe.out
      obtain ⟨wa, hwa⟩ : ∃ wa, wr.drew = wa := ⟨_, rfl⟩
      have ta : Tch 16 16 colr colr wr wa := by rw [← hwa]; exact (Tch.refl _ _ _ _).drew
      have HA := Lib.hid (HE.out.keep ta (by omega) (by omega))
      have KA := K8.out.keep ta (by omega)
      have XA := X9.out.keep ta (by omega)
      have FA := FIN.out.keep ta (by omega)
      have TA := T4.out.trans (ta.any (Nat.le_refl _))
      have HWA := Lib.hid hwa
      have hBa : B ≤ wa.heap.size := Nat.le_trans (Nat.le_trans hB hwsz) ta.size
      have a1 : wa.cell? ⟨p, 1, none⟩ = some (.int .i64 j) := by have := HA.out.s.blk.cell 1; rw [← hn1]; exact this
      have a3 : wa.cell? ⟨s3, 1, none⟩ = some (.slice A1 j d1) := KA.blk.cell 1
      obtain ⟨wb, hwb⟩ : ∃ wb, wa.alloc (.cells (nils j) 34) = wb := ⟨_, rfl⟩
      obtain ⟨g9, hg9⟩ : ∃ g9, wa.heap.size = g9 := ⟨_, rfl⟩
      obtain ⟨wc, hwc⟩ : ∃ wc, wb.alloc (.cells #[.slice (some ⟨g9, 0, none⟩) j j, .slice A1 j d1] 96) = wc := ⟨_, rfl⟩
      obtain ⟨g10, hg10⟩ : ∃ g10, wb.heap.size = g10 := ⟨_, rfl⟩
      obtain ⟨colf, hcolf⟩ : ∃ colf, paint (paint colr g9 1) g10 (c + 1) = colf := ⟨_, rfl⟩
      have sb : wb.heap.size = g9 + 1 := by rw [← hwb, ← hg9]; simp
      have sc : wc.heap.size = g10 + 1 := by rw [← hwc, ← hg10]; simp
      have q9 : colf g9 = 1 := by rw [← hcolf, paint_other (by omega), paint_self]
      have q10 : colf g10 = c + 1 := by rw [← hcolf, paint_self]
      have tb : Tch (c + 1) (c + 2) colr colf wa wc := by
        have t0 : Tch (c + 1) (c + 2) colr colr wa wc := by rw [← hwc, ← hwb]; exact ((Tch.refl _ _ _ _).alloc _).alloc _
        rw [← hcolf]
        exact (t0.paint (by omega) (by omega) (by omega)).paint (by omega) (by omega) (by omega)
      have tbc : Tch 16 16 colf colf wb wc := by rw [← hwc]; exact (Tch.refl _ _ _ _).alloc _
      have OF := (OptRow.fresh0 (col := colf) (B := B) hBa (by omega) hwb (r := 1) (by rw [hg9]; exact q9)).keep tbc (by omega) (by omega)
      rw [hg9] at OF
      have RF : Row wc colf B (c + 1) 96 2 (.slice (some ⟨g10, 0, none⟩) 1 1) 1 [.slice (some ⟨g9, 0, none⟩) j j, .slice A1 j d1] := by
        have := lit_ownN wb 96 2 [.slice (some ⟨g9, 0, none⟩) j j, .slice A1 j d1] 1 rfl (by unfold maxLen; omega)
        rw [show ([Value.slice (some ⟨g9, 0, none⟩) j j, Value.slice A1 j d1]).toArray = #[Value.slice (some ⟨g9, 0, none⟩) j j, Value.slice A1 j d1] from rfl, hwc, hg10] at this
        exact ⟨own_mono this (by omega), fun g e => by injection e with e; subst e; exact q10⟩
      have SF : RStAt wc colf B R1.n (.slice (some ⟨g9, 0, none⟩) j j, .slice A1 j d1) ((fun _ => none), hh) := by rw [hn1]; exact ⟨OF, (XA.keep tb (by omega)).h⟩
      obtain ⟨hD, tD⟩ := HA.out.oneSt tb (v' := .slice (some ⟨g10, 0, none⟩) 1 1) (x := (.slice (some ⟨g9, 0, none⟩) j j, .slice A1 j d1)) RF SF
      have HBw := HA.out.below (show Below wa.heap.size wa wb from hwb ▸ (Below.refl wa.heap.size wa).alloc (Nat.le_refl _) _)
      have KB := KA.keep (show Tch 16 16 colr colr wa wb by rw [← hwb]; exact (Tch.refl _ _ _ _).alloc _) (by omega)
      have HCw := HA.out.s.keep tb (by omega)
      have KC := KA.keep tb (by omega)
      have KD := KC.keep tD (by omega)
      have b1 : wb.cell? ⟨p, 1, none⟩ = some (.int .i64 j) := by have := HBw.s.blk.cell 1; rw [← hn1]; exact this
      have b3 : wb.cell? ⟨s3, 1, none⟩ = some (.slice A1 j d1) := KB.blk.cell 1
      have e1 : wc.cell? ⟨p, 1, none⟩ = some (.int .i64 j) := by have := HCw.blk.cell 1; rw [← hn1]; exact this
      have e3 : wc.cell? ⟨s3, 1, none⟩ = some (.slice A1 j d1) := KC.blk.cell 1
      have ep : wc.cell? ⟨p, 3, none⟩ = some L.vst := HCw.blk.cell 3
      have ez : wc.frozen? ⟨p, 3, none⟩ = false := HCw.blk.frozen 3
      obtain ⟨gS, cS, _, hvS, _⟩ := own_formN HA.out.st.own (by have := HA.out.stn; omega)
      rw [hvS] at ep
      have d1' : (wc.setCell ⟨p, 3, none⟩ (.slice (some ⟨g10, 0, none⟩) 1 1)).cell? ⟨p, 1, none⟩ = some (.int .i64 j) := by have := hD.s.blk.cell 1; rw [← hn1]; exact this
      have d3' : (wc.setCell ⟨p, 3, none⟩ (.slice (some ⟨g10, 0, none⟩) 1 1)).cell? ⟨s3, 1, none⟩ = some (.slice A1 j d1) := KD.blk.cell 1
      have HD := Lib.hid hD
      have FD := Lib.hid ((FA.keep tb (by omega)).keep tD (by omega))
      have TD := Lib.hid (((TA.mono (lo' := c) (hi' := c + 7) (by omega) (by omega)).trans (tb.mono (by omega) (by omega))).trans (tD.mono (by omega) (by omega)))
      have HWB := Lib.hid hwb
      have HG9 := Lib.hid hg9
      have HWC := Lib.hid hwc
      have HG10 := Lib.hid hg10
      clear hR1 HE hwa ta HA KA XA FA TA hwb hg9 hwc hg10 hcolf sb sc q9 q10 tb tbc OF RF SF hD tD HBw KB HCw KC KD hvS K8 X9 FIN T4 hn1 c1
      have hNS : wa.cell? ⟨p, 1, none⟩ = some (.int .i64 j) ∧ wa.cell? ⟨s3, 1, none⟩ = some (.slice A1 j d1) := ⟨a1, a3⟩
      refine region_need_at (v := wa) (fun w' => w'.cell? ⟨p, 1, none⟩ = some (.int .i64 j) ∧ w'.cell? ⟨s3, 1, none⟩ = some (.slice A1 j d1)) (fun _ => true) HWA.out (by kernel_rfl) ?_
      refine nw_take (i := 0) (v := ?_) rfl (by kernel_rfl) (by kernel_rfl) (fun _ _ d _ _ h => by cases d <;> exact h) (by exact hNS) (by kernel_rfl) ?_ (fun K hK => ?_); rotate_left; (· (intro w' hSw; (try dsimp only at hSw); go_simp; with_reducible rfl)); simp only [Act.put, List.setIfInBounds_toArray, List.set_cons_zero, List.set_cons_succ]; refine hK _ ?_; clear hK K
      refine nw_take (i := 1) (v := ?_) rfl (by kernel_rfl) (by kernel_rfl) (fun _ _ d _ _ h => by cases d <;> exact h) (by exact hNS) (by kernel_rfl) ?_ (fun K hK => ?_); rotate_left; (· (intro w' hSw; (try dsimp only at hSw); go_simp; with_reducible rfl)); simp only [Act.put, List.setIfInBounds_toArray, List.set_cons_zero, List.set_cons_succ]; refine hK _ ?_; clear hK K
      refine nw_take (i := 2) (v := ?_) rfl (by kernel_rfl) (by kernel_rfl) (fun _ _ d _ _ h => by cases d <;> exact h) (by exact hNS) (by kernel_rfl) ?_ (fun K hK => ?_); rotate_left; (· (intro w' hSw; (try dsimp only at hSw); go_simp; with_reducible rfl)); simp only [Act.put, List.setIfInBounds_toArray, List.set_cons_zero, List.set_cons_succ]; refine hK _ ?_; clear hK K
      refine nw_take (i := 3) (v := ?_) rfl (by kernel_rfl) (by kernel_rfl) (fun _ _ d _ _ h => by cases d <;> exact h) (by exact hNS) (by kernel_rfl) ?_ (fun K hK => ?_); rotate_left; (· (intro w' hSw; (try dsimp only at hSw); go_simp; with_reducible rfl)); simp only [Act.put, List.setIfInBounds_toArray, List.set_cons_zero, List.set_cons_succ]; refine hK _ ?_; clear hK K
      refine nw_take (i := 4) (v := ?_) rfl (by kernel_rfl) (by kernel_rfl) (fun _ _ d _ _ h => by cases d <;> exact h) (by exact hNS) (by kernel_rfl) ?_ (fun K hK => ?_); rotate_left; (· (intro w' hSw; (try dsimp only at hSw); go_simp; with_reducible rfl)); simp only [Act.put, List.setIfInBounds_toArray, List.set_cons_zero, List.set_cons_succ]; refine hK _ ?_; clear hK K
      refine nw_take (i := 6) (v := ?_) rfl (by kernel_rfl) (by kernel_rfl) (fun _ _ d _ _ h => by cases d <;> exact h) (by exact hNS) (by kernel_rfl) ?_ (fun K hK => ?_); rotate_left; (· (intro w' hSw; (try dsimp only at hSw); go_simp; with_reducible rfl)); simp only [Act.put, List.setIfInBounds_toArray, List.set_cons_zero, List.set_cons_succ]; refine hK _ ?_; clear hK K
      refine nw_take (i := 7) (v := ?_) rfl (by kernel_rfl) (by kernel_rfl) (fun _ _ d _ _ h => by cases d <;> exact h) (by exact hNS) (by kernel_rfl) ?_ (fun K hK => ?_); rotate_left; (· (intro w' hSw; (try dsimp only at hSw); go_simp; with_reducible rfl)); simp only [Act.put, List.setIfInBounds_toArray, List.set_cons_zero, List.set_cons_succ]; refine hK _ ?_; clear hK K
      clear hNS
      refine nw_one (i := 5) (E := False) rfl (by kernel_rfl) (fun K hK => ?_) (by kernel_rfl)
      go_simp
      rw [HWB.out, HG9.out]
      refine hK.out _ _ ((fun _ => ⟨b1, b3⟩)) ?_
      clear hK K
      try simp only [Act.put, List.setIfInBounds_toArray, List.set_cons_zero, List.set_cons_succ]
      refine nw_one (i := 8) (E := False) rfl (by kernel_rfl) (fun K hK => ?_) (by kernel_rfl)
      go_simp
      refine hK.out _ _ ((fun _ => ⟨b1, b3⟩)) ?_
      clear hK K
      try simp only [Act.put, List.setIfInBounds_toArray, List.set_cons_zero, List.set_cons_succ]
      refine nw_one (i := 9) (E := False) rfl (by kernel_rfl) (fun K hK => ?_) (by kernel_rfl)
      go_simp
      rw [HWC.out, HG10.out]
      refine hK.out _ _ ((fun _ => ⟨e1, e3⟩)) ?_
      clear hK K
      try simp only [Act.put, List.setIfInBounds_toArray, List.set_cons_zero, List.set_cons_succ]
      refine nw_one (i := 10) (E := False) rfl (by kernel_rfl) (fun K hK => ?_) (by kernel_rfl)
      go_simp
      refine hK.out _ _ ((fun _ => ⟨e1, e3⟩)) ?_
      clear hK K
      try simp only [Act.put, List.setIfInBounds_toArray, List.set_cons_zero, List.set_cons_succ]
      refine nw_one (i := 11) (E := False) rfl (by kernel_rfl) (fun K hK => ?_) (by kernel_rfl)
      go_simp
      refine hK.out _ _ ((fun _ => ⟨e1, e3⟩)) ?_
      clear hK K
      try simp only [Act.put, List.setIfInBounds_toArray, List.set_cons_zero, List.set_cons_succ]
      refine nw_one (i := 12) (E := False) rfl (by kernel_rfl) (fun K hK => ?_) (by kernel_rfl)
      go_simp
      refine hK.out _ _ ((fun _ => ⟨d1', d3'⟩)) ?_
      clear hK K
      try simp only [Act.put, List.setIfInBounds_toArray, List.set_cons_zero, List.set_cons_succ]
      refine nw_end (by kernel_rfl) ?_
      go_wp2_with fail
      go_ret
      exact ⟨_, colf, rfl, TD.out, ⟨_, by rw [HRC2.out]; exact HD.out⟩, FD.out⟩
end Go.Proofs.Ytomoliickggghaa.Mem

namespace Go.Proofs.Ytomoliickggghaa.Mem
open Go.RowKit Go.Proofs.Ytomoliickggghaa Go.Proofs.Ytomoliickggghaa.Wire
set_option maxHeartbeats 8000000
set_option maxRecDepth 100000
set_option linter.unusedVariables false
set_option linter.unusedSimpArgs false

def rel (y : RSt) : RSt := (y.1, fun _ => false)
def RS.release (R : RS) : RS := { R with st := R.st.map rel }
/-- The first i are released. -/
def relTo (l : List RSt) (i : Nat) : List RSt := l.mapIdx fun j y => if j < i then rel y else y
theorem relTo_len (l : List RSt) (i : Nat) : (relTo l i).length = l.length := by simp [relTo]
theorem relTo_zero (l : List RSt) : relTo l 0 = l := by
  apply List.ext_getElem?
  intro j
  unfold relTo
  rw [List.getElem?_mapIdx]
  cases l[j]? <;> simp
theorem relTo_at {l : List RSt} {i : Nat} {y : RSt} (h : l[i]? = some y) : (relTo l i)[i]? = some y := by
  unfold relTo
  rw [List.getElem?_mapIdx, h]
  simp
theorem relTo_next {l : List RSt} {i : Nat} {y : RSt} (h : l[i]? = some y) : (relTo l i).set i (rel y) = relTo l (i + 1) := by
  have hl := (List.getElem?_eq_some_iff.1 h).1
  apply List.ext_getElem?
  intro j
  rw [List.getElem?_set]
  by_cases e : i = j
  · subst e
    rw [if_pos rfl, if_pos (by rw [relTo_len]; exact hl)]
    unfold relTo
    rw [List.getElem?_mapIdx, h]
    simp
  · rw [if_neg e]
    unfold relTo
    rw [List.getElem?_mapIdx, List.getElem?_mapIdx]
    cases l[j]? with
    | none => rfl
    | some z =>
      simp only [Option.map_some]
      by_cases h1 : j < i
      · rw [if_pos h1, if_pos (by omega)]
      · rw [if_neg h1, if_neg (by omega)]
theorem relTo_all (l : List RSt) : relTo l l.length = l.map rel := by
  apply List.ext_getElem?
  intro j
  unfold relTo
  rw [List.getElem?_mapIdx, List.getElem?_map]
  cases h : l[j]? with
  | none => rfl
  | some z =>
    simp only [Option.map_some]
    rw [if_pos (List.getElem?_eq_some_iff.1 h).1]
theorem RStoreL.stSet {w : World} {col : Col} {B c p dp i g cap : Nat} {R : RS} {L : RL} (h : RStoreL w col B c p dp R L) (hv : L.vst = .slice (some ⟨g, 0, none⟩) R.st.length cap) {x : Value × Value} {y : RSt} (hx : L.xs[i]? = some x) (hy : R.st[i]? = some y) {v : Value}
    (hr : Row w col B 1 4 1 v R.n (bools (fun i => (rel y).2 i) R.n)) :
    RStoreL (w.setCell ⟨g, i * 2 + 1, none⟩ v) col B c p dp { R with st := R.st.set i (rel y) } { L with xs := L.xs.set i (x.1, v) } ∧ Tch (c + 1) (c + 2) col col w (w.setCell ⟨g, i * 2 + 1, none⟩ v) := by
  have hlo := h.lo
  have hst := h.st
  rw [hv] at hst
  have ht : Tch (c + 1) (c + 2) col col w (w.setCell ⟨g, i * 2 + 1, none⟩ v) := (Tch.refl _ _ _ _).setCell (p := ⟨g, i * 2 + 1, none⟩) (by have := hst.c g rfl; show c + 1 ≤ col g ∧ col g < c + 2; omega) v
  refine ⟨⟨h.s.keep ht (by omega), ?_, by simp [h.stl], fun j u z h1 h2 => ?_, h.wait.keep ht (by omega) (by omega), h.ca.keep ht (by omega), fun j u l h1 h2 => (h.cal j u l h1 h2).keep ht (by omega),
    h.d.keep ht (by omega) (by omega), h.dn, h.lo, by simpa using h.stn, h.can, h.calen, h.rm, by simpa using h.few⟩, ht⟩
  · show Row _ col B (c + 1) 96 2 L.vst (R.st.set i (rel y)).length (pcells (L.xs.set i (x.1, v)))
    rw [hv, List.length_set, ← pcells_set2 L.xs i v x hx]
    exact hst.stored (i * 2 + 1) v
  · rw [List.getElem?_set] at h1 h2
    by_cases e : i = j
    · subst e
      rw [if_pos rfl, if_pos (List.getElem?_eq_some_iff.1 hx).1] at h1
      rw [if_pos rfl, if_pos (List.getElem?_eq_some_iff.1 hy).1] at h2
      injection h1 with h1
      injection h2 with h2
      subst h1 h2
      exact ⟨(h.sta i x y hx hy).c.keep ht (by omega) (by omega), hr.keep ht (by omega)⟩
    · rw [if_neg e] at h1 h2
      exact (h.sta j u z h1 h2).keep ht (by omega)
theorem rrelease_any (w : World) (col : Col) (B c p dp : Nat) (R : RS) (h : RStoreAt w col B c p dp R) (hB : B ≤ w.heap.size) :
    Calls Try.prog 59 #[ptr p] w fun e w' => e = .returned (.tuple #[]) ∧ ∃ col', Tch (c + 1) (c + 2) col col' w w' ∧ RStoreAt w' col' B c p dp R.release := by
  have hlo := h.lo
  have H := Lib.hid (show RStoreAt w col B c p dp { R with st := relTo R.st 0 } by rw [relTo_zero]; exact h)
  have HRR := Lib.hid (show { R with st := relTo R.st R.st.length } = R.release by rw [relTo_all]; rfl)
  obtain ⟨N, hN⟩ : ∃ N, R.n = N := ⟨_, rfl⟩
  have HNe := Lib.hid hN
  have hNN : N ≤ 4096 := by obtain ⟨L, h⟩ := h; rw [← hN]; exact h.n1
  have hfew : R.st.length ≤ 1000000000 := by obtain ⟨L, h⟩ := h; have := h.few; omega
  obtain ⟨K, hK⟩ : ∃ K, R.st.length = K := ⟨_, rfl⟩
  have HK := Lib.hid hK
  rw [hK] at HRR hfew
  have hmk := make_falses N (by omega)
  clear h hN hK
  unfold ptr at *
  go_enter Try.func59, Try.ntmps59
  go_wp2_with fail
  go_loopw [2] (fun ii wr => ∃ (i : Nat) (colr : Col), ii = .int .i64 i ∧ i ≤ K ∧ Tch (c + 1) (c + 2) col colr w wr ∧ RStoreAt wr colr B c p dp { R with st := relTo R.st i }) (fun ii _ => K - (intOf ii).toNat)
  case atStart => exact ⟨0, col, rfl, by omega, Tch.refl _ _ _ _, H.out⟩
  case round =>
    obtain ⟨i, colr, rfl, hi, ht, L, h⟩ := hrel
    have T0 := Lib.hid ht
    have H0 := Lib.hid h
    have hwsz : w.heap.size ≤ wr.heap.size := ht.size
    have hKl : (relTo R.st i).length = K := by rw [relTo_len]; exact HK.out
    obtain ⟨g, cap, _, hv, _⟩ := own_formN h.st.own (by have := h.stn; omega)
    have hv' : L.vst = .slice (some ⟨g, 0, none⟩) K cap := by rw [hv]; show Value.slice _ (relTo R.st i).length cap = _; rw [hKl]
    have c3 : wr.cell? ⟨p, 3, none⟩ = some (.slice (some ⟨g, 0, none⟩) K cap) := by rw [← hv']; exact h.s.blk.cell 3
    clear ht h
    by_cases hlt : i < K
    · have hii : (i : Int) < (K : Int) := by omega
      have hi0 : (0 : Int) ≤ (i : Int) := by omega
      have hin : ((i : Int)).toNat = i := by omega
      obtain ⟨y, hy⟩ : ∃ y, R.st[i]? = some y := ⟨_, List.getElem?_eq_getElem (by rw [HK.out]; exact hlt)⟩
      obtain ⟨x, hx⟩ : ∃ x, L.xs[i]? = some x := ⟨_, List.getElem?_eq_getElem (by rw [H0.out.stl]; show i < (relTo R.st i).length; omega)⟩
      obtain ⟨wa, hwa⟩ : ∃ wa, wr.drew = wa := ⟨_, rfl⟩
      have ta : Tch 16 16 colr colr wr wa := by rw [← hwa]; exact (Tch.refl _ _ _ _).drew
      have HA := H0.out.keep ta (by omega) (by omega)
      have hBa : B ≤ wa.heap.size := Nat.le_trans (Nat.le_trans hB hwsz) ta.size
      obtain ⟨wb, hwb⟩ : ∃ wb, wa.alloc (.cells (falses N) 4) = wb := ⟨_, rfl⟩
      obtain ⟨g9, hg9⟩ : ∃ g9, wa.heap.size = g9 := ⟨_, rfl⟩
      obtain ⟨colb, hcolb⟩ : ∃ colb, paint colr g9 1 = colb := ⟨_, rfl⟩
      have sb : wb.heap.size = g9 + 1 := by rw [← hwb, ← hg9]; simp
      have tb : Tch 16 16 colr colb wa wb := by
        have t0 : Tch 16 16 colr colr wa wb := by rw [← hwb]; exact (Tch.refl _ _ _ _).alloc _
        rw [← hcolb]
        exact t0.paint (by omega) (by omega) (by omega)
      have hb := HA.keep tb (by omega) (by omega)
      have R9 : Row wb colb B 1 4 1 (.slice (some ⟨g9, 0, none⟩) N N) N (bools (fun i => (rel y).2 i) N) := by
        have := World.ownsRow_lit (base := B) (e := 4) (size := 1) wa (falses N) N hBa (by unfold maxLen; omega) (by simp [falses])
        rw [hwb, hg9] at this
        refine ⟨?_, fun g e => by injection e with e; subst e; rw [← hcolb, paint_self]⟩
        show wb.ownsRow B 4 1 _ N (bools (fun _ => false) N)
        rw [bools_false]
        exact this
      have hvb : L.vst = .slice (some ⟨g, 0, none⟩) (relTo R.st i).length cap := by rw [hKl]; exact hv'
      obtain ⟨hD, tD⟩ := hb.stSet (i := i) hvb hx (show ({ R with st := relTo R.st i } : RS).st[i]? = some y from relTo_at hy) (v := .slice (some ⟨g9, 0, none⟩) N N) (by show Row wb colb B 1 4 1 _ R.n (bools _ R.n); rw [HNe.out]; exact R9)
      have HD := Lib.hid (show RStoreL (wb.setCell ⟨g, i * 2 + 1, none⟩ (.slice (some ⟨g9, 0, none⟩) N N)) colb B c p dp { R with st := relTo R.st (i + 1) } { L with xs := L.xs.set i (x.1, .slice (some ⟨g9, 0, none⟩) N N) } by rw [← relTo_next hy]; exact hD)
      have TD := Lib.hid (((T0.out.trans (ta.any (Nat.le_refl _))).trans (tb.any (Nat.le_refl _))).trans tD)
      have a1 : wa.cell? ⟨p, 1, none⟩ = some (.int .i64 N) := by have := HA.s.blk.cell 1; rw [← HNe.out]; exact this
      have a3 : wa.cell? ⟨p, 3, none⟩ = some (.slice (some ⟨g, 0, none⟩) K cap) := by rw [← hv']; exact HA.s.blk.cell 3
      have b1 : wb.cell? ⟨p, 1, none⟩ = some (.int .i64 N) := by have := hb.s.blk.cell 1; rw [← HNe.out]; exact this
      have b3 : wb.cell? ⟨p, 3, none⟩ = some (.slice (some ⟨g, 0, none⟩) K cap) := by rw [← hv']; exact hb.s.blk.cell 3
      have d1 : (wb.setCell ⟨g, i * 2 + 1, none⟩ (.slice (some ⟨g9, 0, none⟩) N N)).cell? ⟨p, 1, none⟩ = some (.int .i64 N) := (show _ = some (Value.int .i64 R.n) from hD.s.blk.cell 1).trans (by rw [HNe.out])
      have d3 : (wb.setCell ⟨g, i * 2 + 1, none⟩ (.slice (some ⟨g9, 0, none⟩) N N)).cell? ⟨p, 3, none⟩ = some (.slice (some ⟨g, 0, none⟩) K cap) := by rw [← hv']; exact hD.s.blk.cell 3
      have hst := hb.st
      rw [hvb] at hst
      obtain ⟨A7, d7, hx7, _⟩ := row_len (hb.sta i x y hx (relTo_at hy)).h
      have k7 : wb.cell? ⟨g, i * 2 + 1, none⟩ = some (.slice A7 R.n d7) := by
        have hl7 : i * 2 + 1 < (relTo R.st i).length * 2 := by omega
        rw [hst.own.cellAt _ hl7, (pcells_at L.xs i x hx).2, hx7]
      have z7 : wb.frozen? ⟨g, i * 2 + 1, none⟩ = false := hst.own.frozenAt _
      have HWA := Lib.hid hwa
      have HWB := Lib.hid hwb
      have HG9 := Lib.hid hg9
      clear hwa ta HA hwb hg9 hcolb sb tb hb R9 hvb hD tD hst hx7 hx hy H0 T0 hv hv' hKl
      go_upto_region 3 with fail
      have hNS : wa.cell? ⟨p, 1, none⟩ = some (.int .i64 N) ∧ wa.cell? ⟨p, 3, none⟩ = some (.slice (some ⟨g, 0, none⟩) K cap) := ⟨a1, a3⟩
      refine region_need_at (v := wa) (fun w' => w'.cell? ⟨p, 1, none⟩ = some (.int .i64 N) ∧ w'.cell? ⟨p, 3, none⟩ = some (.slice (some ⟨g, 0, none⟩) K cap)) (fun _ => true) HWA.out (by kernel_rfl) ?_
      refine nw_take (i := 0) (v := ?_) rfl (by kernel_rfl) (by kernel_rfl) (fun _ _ d _ _ h => by cases d <;> exact h) (by exact hNS) (by kernel_rfl) ?_ (fun K hK => ?_); rotate_left; (· (intro w' hSw; (try dsimp only at hSw); go_simp; with_reducible rfl)); simp only [Act.put, List.setIfInBounds_toArray, List.set_cons_zero, List.set_cons_succ]; refine hK _ ?_; clear hK K
      refine nw_take (i := 1) (v := ?_) rfl (by kernel_rfl) (by kernel_rfl) (fun _ _ d _ _ h => by cases d <;> exact h) (by exact hNS) (by kernel_rfl) ?_ (fun K hK => ?_); rotate_left; (· (intro w' hSw; (try dsimp only at hSw); go_simp; with_reducible rfl)); simp only [Act.put, List.setIfInBounds_toArray, List.set_cons_zero, List.set_cons_succ]; refine hK _ ?_; clear hK K
      refine nw_take (i := 2) (v := ?_) rfl (by kernel_rfl) (by kernel_rfl) (fun _ _ d _ _ h => by cases d <;> exact h) (by exact hNS) (by kernel_rfl) ?_ (fun K hK => ?_); rotate_left; (· (intro w' hSw; (try dsimp only at hSw); go_simp; with_reducible rfl)); simp only [Act.put, List.setIfInBounds_toArray, List.set_cons_zero, List.set_cons_succ]; refine hK _ ?_; clear hK K
      refine nw_take (i := 3) (v := ?_) rfl (by kernel_rfl) (by kernel_rfl) (fun _ _ d _ _ h => by cases d <;> exact h) (by exact hNS) (by kernel_rfl) ?_ (fun K hK => ?_); rotate_left; (· (intro w' hSw; (try dsimp only at hSw); go_simp; with_reducible rfl)); simp only [Act.put, List.setIfInBounds_toArray, List.set_cons_zero, List.set_cons_succ]; refine hK _ ?_; clear hK K
      refine nw_take (i := 4) (v := ?_) rfl (by kernel_rfl) (by kernel_rfl) (fun _ _ d _ _ h => by cases d <;> exact h) (by exact hNS) (by kernel_rfl) ?_ (fun K hK => ?_); rotate_left; (· (intro w' hSw; (try dsimp only at hSw); go_simp; with_reducible rfl)); simp only [Act.put, List.setIfInBounds_toArray, List.set_cons_zero, List.set_cons_succ]; refine hK _ ?_; clear hK K
      refine nw_take (i := 5) (v := ?_) rfl (by kernel_rfl) (by kernel_rfl) (fun _ _ d _ _ h => by cases d <;> exact h) (by exact hNS) (by kernel_rfl) ?_ (fun K hK => ?_); rotate_left; (· (intro w' hSw; (try dsimp only at hSw); go_simp; with_reducible rfl)); simp only [Act.put, List.setIfInBounds_toArray, List.set_cons_zero, List.set_cons_succ]; refine hK _ ?_; clear hK K
      refine nw_take (i := 6) (v := ?_) rfl (by kernel_rfl) (by kernel_rfl) (fun _ _ d _ _ h => by cases d <;> exact h) (by exact hNS) (by kernel_rfl) ?_ (fun K hK => ?_); rotate_left; (· (intro w' hSw; (try dsimp only at hSw); go_simp; with_reducible rfl)); simp only [Act.put, List.setIfInBounds_toArray, List.set_cons_zero, List.set_cons_succ]; refine hK _ ?_; clear hK K
      refine nw_take (i := 7) (v := ?_) rfl (by kernel_rfl) (by kernel_rfl) (fun _ _ d _ _ h => by cases d <;> exact h) (by exact hNS) (by kernel_rfl) ?_ (fun K hK => ?_); rotate_left; (· (intro w' hSw; (try dsimp only at hSw); go_simp; with_reducible rfl)); simp only [Act.put, List.setIfInBounds_toArray, List.set_cons_zero, List.set_cons_succ]; refine hK _ ?_; clear hK K
      refine nw_take (i := 8) (v := ?_) rfl (by kernel_rfl) (by kernel_rfl) (fun _ _ d _ _ h => by cases d <;> exact h) (by exact hNS) (by kernel_rfl) ?_ (fun K hK => ?_); rotate_left; (· (intro w' hSw; (try dsimp only at hSw); go_simp; with_reducible rfl)); simp only [Act.put, List.setIfInBounds_toArray, List.set_cons_zero, List.set_cons_succ]; refine hK _ ?_; clear hK K
      clear hNS
      refine nw_one (i := 9) (E := False) rfl (by kernel_rfl) (fun K hK => ?_) (by kernel_rfl)
      go_simp
      rw [HWB.out, HG9.out]
      refine hK.out _ _ ((fun _ => ⟨b1, b3⟩)) ?_
      clear hK K
      try simp only [Act.put, List.setIfInBounds_toArray, List.set_cons_zero, List.set_cons_succ]
      refine nw_one (i := 10) (E := False) rfl (by kernel_rfl) (fun K hK => ?_) (by kernel_rfl)
      go_simp
      refine hK.out _ _ ((fun _ => ⟨b1, b3⟩)) ?_
      clear hK K
      try simp only [Act.put, List.setIfInBounds_toArray, List.set_cons_zero, List.set_cons_succ]
      refine nw_one (i := 11) (E := False) rfl (by kernel_rfl) (fun K hK => ?_) (by kernel_rfl)
      go_simp
      refine hK.out _ _ ((fun _ => ⟨b1, b3⟩)) ?_
      clear hK K
      try simp only [Act.put, List.setIfInBounds_toArray, List.set_cons_zero, List.set_cons_succ]
      refine nw_one (i := 12) (E := False) rfl (by kernel_rfl) (fun K hK => ?_) (by kernel_rfl)
      go_simp
      refine hK.out _ _ ((fun _ => ⟨d1, d3⟩)) ?_
      clear hK K
      try simp only [Act.put, List.setIfInBounds_toArray, List.set_cons_zero, List.set_cons_succ]
      refine nw_end (by kernel_rfl) ?_
      go_wp2_with fail
      go_roundw
      case rel => exact ⟨i + 1, colb, by go_num, by omega, TD.out, _, HD.out⟩
      case measure => simp [intOf]; omega
    · obtain rfl : i = K := by omega
      have HF := Lib.hid (show RStoreL wr colr B c p dp R.release L by rw [← HRR.out]; exact H0.out)
      clear hv hv' hKl H0
      go_wp2_with fail
      go_end0
      exact ⟨rfl, colr, T0.out, L, HF.out⟩
end Go.Proofs.Ytomoliickggghaa.Mem

namespace Go.Proofs.Ytomoliickggghaa.Mem
open Go.RowKit Go.Proofs.Ytomoliickggghaa Go.Proofs.Ytomoliickggghaa.Wire
set_option maxHeartbeats 8000000
set_option maxRecDepth 100000
set_option linter.unusedVariables false
set_option linter.unusedSimpArgs false

theorem nil_eql (w : World) : (binOp BinOp.eql 34 (.slice none 0 0) (.slice none 0 0)).run Try.prog w = .ok (.bool true) w := by kernel_rfl
theorem some_eql (a : Addr) (n c : Nat) (w : World) : (binOp BinOp.eql 34 (.slice (some a) n c) (.slice none 0 0)).run Try.prog w = .ok (.bool false) w := by kernel_rfl
theorem RStoreL.diskSet {w w' : World} {col col' : Col} {B c p dp : Nat} {R : RS} {L : RL} (h : RStoreL w col B c p dp R L) (ht : Tch (c + 4) (c + 7) col col' w w') {d : RD} (hd : RDiskAt w' col' B (c + 4) dp d) (hl : d.l.length = R.n) :
    RStoreL w' col' B c p dp { R with d := d } L := by
  have hlo := h.lo
  exact ⟨h.s.keep ht (by omega), h.st.keep ht (by omega), h.stl, fun i x y h1 h2 => (h.sta i x y h1 h2).keep ht (by omega), h.wait.keep ht (by omega) (by omega), h.ca.keep ht (by omega), fun i v l h1 h2 => (h.cal i v l h1 h2).keep ht (by omega), hd,
    hl, h.lo, h.stn, h.can, h.calen, h.rm, h.few⟩
theorem RStoreL.foundSet {w : World} {col : Col} {B c p dp : Nat} {R : RS} {L : RL} (h : RStoreL w col B c p dp R L) (few : R.st.length + R.found + R.asked + 1 ≤ 1000000000) :
    RStoreL (w.setCell ⟨p, 6, none⟩ (.int .i64 ((R.found : Int) + 1))) col B c p dp { R with found := R.found + 1 } L ∧ Tch c (c + 1) col col w (w.setCell ⟨p, 6, none⟩ (.int .i64 ((R.found : Int) + 1))) := by
  have hlo := h.lo
  have ht : Tch c (c + 1) col col w (w.setCell ⟨p, 6, none⟩ (.int .i64 ((R.found : Int) + 1))) := (Tch.refl _ _ _ _).setCell (p := ⟨p, 6, none⟩) (by rw [h.s.c]; omega) _
  exact ⟨⟨h.s.set 6 _, h.st.keep ht (by omega), h.stl, fun i x y h1 h2 => (h.sta i x y h1 h2).keep ht (by omega), h.wait.keep ht (by omega) (by omega), h.ca.keep ht (by omega), fun i v l h1 h2 => (h.cal i v l h1 h2).keep ht (by omega), h.d.keep ht (by omega) (by omega),
    h.dn, h.lo, h.stn, h.can, h.calen, h.rm, by show R.st.length + (R.found + 1) + R.asked ≤ 1000000000; omega⟩, ht⟩
theorem RStoreL.askedSet {w : World} {col : Col} {B c p dp : Nat} {R : RS} {L : RL} (h : RStoreL w col B c p dp R L) (few : R.st.length + R.found + R.asked + 1 ≤ 1000000000) :
    RStoreL (w.setCell ⟨p, 7, none⟩ (.int .i64 ((R.asked : Int) + 1))) col B c p dp { R with asked := R.asked + 1 } L ∧ Tch c (c + 1) col col w (w.setCell ⟨p, 7, none⟩ (.int .i64 ((R.asked : Int) + 1))) := by
  have hlo := h.lo
  have ht : Tch c (c + 1) col col w (w.setCell ⟨p, 7, none⟩ (.int .i64 ((R.asked : Int) + 1))) := (Tch.refl _ _ _ _).setCell (p := ⟨p, 7, none⟩) (by rw [h.s.c]; omega) _
  exact ⟨⟨h.s.set 7 _, h.st.keep ht (by omega), h.stl, fun i x y h1 h2 => (h.sta i x y h1 h2).keep ht (by omega), h.wait.keep ht (by omega) (by omega), h.ca.keep ht (by omega), fun i v l h1 h2 => (h.cal i v l h1 h2).keep ht (by omega), h.d.keep ht (by omega) (by omega),
    h.dn, h.lo, h.stn, h.can, h.calen, h.rm, by show R.st.length + R.found + (R.asked + 1) ≤ 1000000000; omega⟩, ht⟩
def RS.homeE (R : RS) (n : Int) : Int := if R.has n = true ∧ (R.wait n).isSome = true then 0 else 22
def RS.sent (R : RS) (n : Int) (b : Bytes) : RS := { R with d := R.d.write n b, wait := fun j => if j = n then none else R.wait j }
def RS.home (R : RS) (n : Int) : RS := if R.has n = true then (match R.wait n with
  | none => R
  | some b => match R.now.1 n with
    | some _ => R.sent n b
    | none => (R.sent n b).used n) else R
theorem rhome_no (w : World) (col : Col) (B c p dp : Nat) (R : RS) (L : RL) (n : Int) (h : RStoreL w col B c p dp R L) (hn : ¬ (R.has n = true ∧ (R.wait n).isSome = true)) :
    Calls Try.prog 60 #[ptr p, .int .i64 n] w fun e w' => e = .returned (.int .i64 22) ∧ w = w' := by
  have HH := Lib.hid (rhas_any w col B c p dp R L n h)
  cases hh : R.has n with
  | false =>
    rw [hh] at HH
    clear h hn hh
    unfold ptr at *
    go_enter Try.func60, Try.ntmps60
    go_wp2_with fail
    refine HH.out.mono ?_
    rintro e w' ⟨rfl, rfl⟩
    go_wp2_with fail
    go_ret
    exact ⟨rfl, rfl⟩
  | true =>
    rw [hh] at HH hn
    have hw : R.wait n = none := by
      cases hw : R.wait n with
      | none => rfl
      | some b => exact absurd ⟨rfl, by rw [hw]; rfl⟩ hn
    have hn2 : 0 ≤ n ∧ n < (R.n : Int) := of_decide_eq_true hh
    have hNN := h.n1
    obtain ⟨k, rfl⟩ := Int.eq_ofNat_of_zero_le hn2.1
    have hk : k < R.n := by omega
    obtain ⟨gw, cw, x, hv, _, hcw, _, hox⟩ := h.wait.at_ hk
    rw [hw] at hox
    have hx : x = .slice none 0 0 := hox
    subst hx
    have c4 : w.cell? ⟨p, 4, none⟩ = some (.slice (some ⟨gw, 0, none⟩) R.n cw) := by rw [← hv]; exact h.s.blk.cell 4
    have hkn : ((k : Int)).toNat = k := by omega
    have hk0 : (0 : Int) ≤ (k : Int) := by omega
    have hk1 : (k : Int) < (R.n : Int) := by omega
    have hq := nil_eql
    clear h hn hh hw hn2 hv hox
    unfold ptr at *
    generalize R.n = N at *
    go_enter Try.func60, Try.ntmps60
    go_wp2_with fail
    refine HH.out.mono ?_
    rintro e w' ⟨rfl, rfl⟩
    go_wp2_with fail
    go_ret
    exact ⟨rfl, rfl⟩
theorem rhome_yes (w : World) (col : Col) (B c p dp : Nat) (R : RS) (n : Int) (bs : Bytes) (h : RStoreAt w col B c p dp R) (hn : R.has n = true) (hw : R.wait n = some bs) (hB : B ≤ w.heap.size) (hroom : R.d.pend.length + R.d.n + 2 ≤ 1000000000) :
    Calls Try.prog 60 #[ptr p, .int .i64 n] w fun e w' => RWrote w col B c p dp (R.home n) 0 e w' := by
  obtain ⟨L, h⟩ := h
  have hlo := h.lo
  have HH := Lib.hid (rhas_any w col B c p dp R L n h)
  rw [hn] at HH
  have hn2 : 0 ≤ n ∧ n < (R.n : Int) := of_decide_eq_true hn
  have hNN := h.n1
  obtain ⟨k, rfl⟩ := Int.eq_ofNat_of_zero_le hn2.1
  have hk : k < R.n := by omega
  obtain ⟨gw, cw, x, hv, hgw, hcw, hzw, hox⟩ := h.wait.at_ hk
  rw [hw] at hox
  obtain ⟨gu, capu, rfl, hby, _⟩ := Dat.form hox
  have c4 : w.cell? ⟨p, 4, none⟩ = some (.slice (some ⟨gw, 0, none⟩) R.n cw) := by rw [← hv]; exact h.s.blk.cell 4
  have hkn : ((k : Int)).toNat = k := by omega
  have hk0 : (0 : Int) ≤ (k : Int) := by omega
  have hk1 : (k : Int) < (R.n : Int) := by omega
  have HHM := Lib.hid (show R.home (k : Int) = match R.now.1 (k : Int) with
    | some _ => R.sent (k : Int) bs
    | none => (R.sent (k : Int) bs).used (k : Int) by rw [RS.home, if_pos hn, hw])
  have HHN := Lib.hid hn
  obtain ⟨w2, hw2⟩ : ∃ w2, w.drew = w2 := ⟨_, rfl⟩
  have t2 : Tch 16 16 col col w w2 := by rw [← hw2]; exact (Tch.refl _ _ _ _).drew
  have h2 := h.keep t2 (by omega) (by omega)
  have HW := Lib.hid (rdwrite_any w2 col B (c + 4) dp R.d (k : Int) (some ⟨gu, 0, none⟩) capu bs h2.d (by unfold RD.has; rw [h2.dn]; exact hn) (by rw [← hw2]; exact hby) (by rw [← hw2]; exact hB) hroom)
  have a0 : w2.cell? ⟨p, 0, none⟩ = some (ptr dp) := h2.s.blk.cell 0
  have a4 : w2.cell? ⟨p, 4, none⟩ = some (.slice (some ⟨gw, 0, none⟩) R.n cw) := by rw [← hv]; exact h2.s.blk.cell 4
  have ak : w2.cell? ⟨gw, k, none⟩ = some (.slice (some ⟨gu, 0, none⟩) 256 capu) := by rw [← hw2]; exact hcw
  have H2 := Lib.hid h2
  have T2 := Lib.hid t2
  have HW2 := Lib.hid hw2
  have HV := Lib.hid hv
  have hq0 := nil_eql
  have hq1 := some_eql
  clear h hn hw hn2 hv hox hby t2 h2 hw2
  unfold ptr at *
  obtain ⟨N, hNe⟩ : ∃ N, R.n = N := ⟨_, rfl⟩
  have HNe := Lib.hid hNe
  rw [hNe] at hk hk1 c4 a4 hNN
  clear hNe
  go_enter Try.func60, Try.ntmps60
  go_wp2_with fail
  refine HH.out.mono ?_
  rintro e w' ⟨rfl, rfl⟩
  go_upto_region 3 with fail
  have hNS : w2.cell? ⟨p, 0, none⟩ = some (.pointer (some ⟨dp, 0, none⟩)) ∧ w2.cell? ⟨p, 4, none⟩ = some (.slice (some ⟨gw, 0, none⟩) N cw) ∧ w2.cell? ⟨gw, k, none⟩ = some (.slice (some ⟨gu, 0, none⟩) 256 capu) := ⟨a0, a4, ak⟩
  refine region_need_at (v := w2) (fun w' => w'.cell? ⟨p, 0, none⟩ = some (.pointer (some ⟨dp, 0, none⟩)) ∧ w'.cell? ⟨p, 4, none⟩ = some (.slice (some ⟨gw, 0, none⟩) N cw) ∧ w'.cell? ⟨gw, k, none⟩ = some (.slice (some ⟨gu, 0, none⟩) 256 capu)) (fun _ => true) HW2.out (by kernel_rfl) ?_
  refine nw_take (i := 0) (v := ?_) rfl (by kernel_rfl) (by kernel_rfl) (fun _ _ d _ _ h => by cases d <;> exact h) (by exact hNS) (by kernel_rfl) ?_ (fun K hK => ?_); rotate_left; (· (intro w' hSw; (try dsimp only at hSw); go_simp; with_reducible rfl)); simp only [Act.put, List.setIfInBounds_toArray, List.set_cons_zero, List.set_cons_succ]; refine hK _ ?_; clear hK K
  refine nw_take (i := 1) (v := ?_) rfl (by kernel_rfl) (by kernel_rfl) (fun _ _ d _ _ h => by cases d <;> exact h) (by exact hNS) (by kernel_rfl) ?_ (fun K hK => ?_); rotate_left; (· (intro w' hSw; (try dsimp only at hSw); go_simp; with_reducible rfl)); simp only [Act.put, List.setIfInBounds_toArray, List.set_cons_zero, List.set_cons_succ]; refine hK _ ?_; clear hK K
  refine nw_take (i := 2) (v := ?_) rfl (by kernel_rfl) (by kernel_rfl) (fun _ _ d _ _ h => by cases d <;> exact h) (by exact hNS) (by kernel_rfl) ?_ (fun K hK => ?_); rotate_left; (· (intro w' hSw; (try dsimp only at hSw); go_simp; with_reducible rfl)); simp only [Act.put, List.setIfInBounds_toArray, List.set_cons_zero, List.set_cons_succ]; refine hK _ ?_; clear hK K
  refine nw_take (i := 3) (v := ?_) rfl (by kernel_rfl) (by kernel_rfl) (fun _ _ d _ _ h => by cases d <;> exact h) (by exact hNS) (by kernel_rfl) ?_ (fun K hK => ?_); rotate_left; (· (intro w' hSw; (try dsimp only at hSw); go_simp; with_reducible rfl)); simp only [Act.put, List.setIfInBounds_toArray, List.set_cons_zero, List.set_cons_succ]; refine hK _ ?_; clear hK K
  refine nw_take (i := 4) (v := ?_) rfl (by kernel_rfl) (by kernel_rfl) (fun _ _ d _ _ h => by cases d <;> exact h) (by exact hNS) (by kernel_rfl) ?_ (fun K hK => ?_); rotate_left; (· (intro w' hSw; (try dsimp only at hSw); go_simp; with_reducible rfl)); simp only [Act.put, List.setIfInBounds_toArray, List.set_cons_zero, List.set_cons_succ]; refine hK _ ?_; clear hK K
  refine nw_take (i := 5) (v := ?_) rfl (by kernel_rfl) (by kernel_rfl) (fun _ _ d _ _ h => by cases d <;> exact h) (by exact hNS) (by kernel_rfl) ?_ (fun K hK => ?_); rotate_left; (· (intro w' hSw; (try dsimp only at hSw); go_simp; with_reducible rfl)); simp only [Act.put, List.setIfInBounds_toArray, List.set_cons_zero, List.set_cons_succ]; refine hK _ ?_; clear hK K
  refine nw_take (i := 6) (v := ?_) rfl (by kernel_rfl) (by kernel_rfl) (fun _ _ d _ _ h => by cases d <;> exact h) (by exact hNS) (by kernel_rfl) ?_ (fun K hK => ?_); rotate_left; (· (intro w' hSw; (try dsimp only at hSw); go_simp; with_reducible rfl)); simp only [Act.put, List.setIfInBounds_toArray, List.set_cons_zero, List.set_cons_succ]; refine hK _ ?_; clear hK K
  refine nw_take (i := 7) (v := ?_) rfl (by kernel_rfl) (by kernel_rfl) (fun _ _ d _ _ h => by cases d <;> exact h) (by exact hNS) (by kernel_rfl) ?_ (fun K hK => ?_); rotate_left; (· (intro w' hSw; (try dsimp only at hSw); go_simp; with_reducible rfl)); simp only [Act.put, List.setIfInBounds_toArray, List.set_cons_zero, List.set_cons_succ]; refine hK _ ?_; clear hK K
  refine nw_take (i := 8) (v := ?_) rfl (by kernel_rfl) (by kernel_rfl) (fun _ _ d _ _ h => by cases d <;> exact h) (by exact hNS) (by kernel_rfl) ?_ (fun K hK => ?_); rotate_left; (· (intro w' hSw; (try dsimp only at hSw); go_simp; with_reducible rfl)); simp only [Act.put, List.setIfInBounds_toArray, List.set_cons_zero, List.set_cons_succ]; refine hK _ ?_; clear hK K
  refine nw_take (i := 9) (v := ?_) rfl (by kernel_rfl) (by kernel_rfl) (fun _ _ d _ _ h => by cases d <;> exact h) (by exact hNS) (by kernel_rfl) ?_ (fun K hK => ?_); rotate_left; (· (intro w' hSw; (try dsimp only at hSw); go_simp; with_reducible rfl)); simp only [Act.put, List.setIfInBounds_toArray, List.set_cons_zero, List.set_cons_succ]; refine hK _ ?_; clear hK K
  refine nw_take (i := 10) (v := ?_) rfl (by kernel_rfl) (by kernel_rfl) (fun _ _ d _ _ h => by cases d <;> exact h) (by exact hNS) (by kernel_rfl) ?_ (fun K hK => ?_); rotate_left; (· (intro w' hSw; (try dsimp only at hSw); go_simp; with_reducible rfl)); simp only [Act.put, List.setIfInBounds_toArray, List.set_cons_zero, List.set_cons_succ]; refine hK _ ?_; clear hK K
  refine nw_take (i := 11) (v := ?_) rfl (by kernel_rfl) (by kernel_rfl) (fun _ _ d _ _ h => by cases d <;> exact h) (by exact hNS) (by kernel_rfl) ?_ (fun K hK => ?_); rotate_left; (· (intro w' hSw; (try dsimp only at hSw); go_simp; with_reducible rfl)); simp only [Act.put, List.setIfInBounds_toArray, List.set_cons_zero, List.set_cons_succ]; refine hK _ ?_; clear hK K
  clear hNS
  refine nw_one (i := 12) (E := False) rfl (by kernel_rfl) (fun K hK => ?_) (by kernel_rfl)
  go_simp
  refine HW.out.mono ?_
  rintro e w3 ⟨col3, rfl, t3, hd3⟩
  have h3 := H2.out.diskSet t3 hd3 (by show (R.d.write (k : Int) bs).l.length = R.n; exact H2.out.dn)
  have hcg : col gw = c + 2 := hgw
  have e4 := t3.block gw (World.block_lt_of_cell? _ _ ak) (by omega)
  have b4 : w3.cell? ⟨p, 4, none⟩ = some (.slice (some ⟨gw, 0, none⟩) N cw) := by
    have := h3.s.blk.cell 4
    rw [HV.out, HNe.out] at this
    exact this
  have b0 : w3.cell? ⟨p, 0, none⟩ = some (.pointer (some ⟨dp, 0, none⟩)) := h3.s.blk.cell 0
  have bk : w3.cell? ⟨gw, k, none⟩ = some (.slice (some ⟨gu, 0, none⟩) 256 capu) := (World.cell?_of_block (a := ⟨gw, k, none⟩) e4).trans ak
  have H3 := Lib.hid h3
  have T3 := Lib.hid ((T2.out.any (lo' := c) (hi' := c + 7) (Nat.le_refl _)).trans (t3.mono (by omega) (by omega)))
  have bz : w3.frozen? ⟨gw, k, none⟩ = false := by
    obtain ⟨g9, c9, _, hv9, _, _, hz9, _⟩ := h3.wait.at_ (k := k) (by show k < R.n; rw [HNe.out]; exact hk)
    have hv9' : L.vw = _ := hv9
    rw [HV.out] at hv9'
    injection hv9' with q1 _ q3
    injection q1 with q1
    injection q1 with q1
    subst q1
    exact hz9
  clear t3 hd3 h3 e4 HW T2 H2
  refine hK.out _ _ ((fun _ => ⟨b0, b4, bk⟩)) ?_
  clear hK K
  try simp only [Act.put, List.setIfInBounds_toArray, List.set_cons_zero, List.set_cons_succ]
  refine nw_end (by kernel_rfl) ?_
  obtain ⟨h4, t4⟩ := H3.out.waitSet (k := k) (x := .slice none 0 0) (o := none) HV.out (show OptDat w3 col3 B (.slice none 0 0) none from rfl)
  obtain ⟨w4, hw4⟩ : ∃ w4, w3.setCell ⟨gw, k, none⟩ (.slice none 0 0) = w4 := ⟨_, rfl⟩
  rw [hw4] at h4 t4
  have h4' : RStoreL w4 col3 B c p dp (R.sent (k : Int) bs) L := h4
  obtain ⟨x, _, hx, hnow⟩ := rnow_any w4 col3 B c p dp (R.sent (k : Int) bs) L h4'
  have hk' : k < (R.sent (k : Int) bs).n := by show k < R.n; rw [HNe.out]; exact hk
  obtain ⟨g0, d0, u, hx0, _, hcu, _, hou⟩ := hx.c.at_ hk'
  have hNs : (R.sent (k : Int) bs).n = N := HNe.out
  rw [hx0, hNs] at hnow
  obtain ⟨x1, hx1⟩ : ∃ x1, x.2 = x1 := ⟨_, rfl⟩
  rw [hx1] at hnow
  have hnw : (R.sent (k : Int) bs).now = R.now := rfl
  rw [hnw] at hou
  have hfl := field_st0 (.slice (some ⟨g0, 0, none⟩) N d0) x1
  have HNW := Lib.hid hnow
  have HCU := Lib.hid hcu
  have H4 := Lib.hid h4'
  have T4 := Lib.hid (T3.out.trans (t4.mono (by omega) (by omega)))
  have HW4 := Lib.hid hw4
  have hB4 : B ≤ w4.heap.size := Nat.le_trans hB (by have := T4.out.size; exact this)
  have HTT := Lib.hid (show ∀ wx, Below w4.heap.size w4 wx → Tch c (c + 7) col col3 w wx ∧ RStoreAt wx col3 B c p dp (R.sent (k : Int) bs) ∧ B ≤ wx.heap.size from fun wx hb => ⟨T4.out.trans (Tch.of_below hb), ⟨_, H4.out.below hb⟩, Nat.le_trans hB4 hb.size⟩)
  clear h4 t4 h4' hx hnow hx0 hcu hx1 hnw hw4 T4 H4
  cases hfi : R.now.1 (k : Int) with
  | none =>
    rw [hfi] at hou HHM
    have hu : u = .slice none 0 0 := hou
    subst hu
    clear hou hfi
    go_wp2_with (first | rw [HW4.out] | fail)
    refine HNW.out.mono ?_
    rintro e w5 ⟨rfl, hb5⟩
    have c5 : w5.cell? ⟨g0, k, none⟩ = some (.slice none 0 0) := (hb5.cell (World.block_lt_of_cell? _ _ HCU.out)).trans HCU.out
    obtain ⟨t5, h5, hB5⟩ := HTT.out w5 hb5
    have HU := Lib.hid (rused_any w5 col3 B c p dp (R.sent (k : Int) bs) (k : Int) h5 HHN.out hB5)
    unfold ptr at HU
    have T5 := Lib.hid t5
    clear hb5 t5 h5
    go_wp2_with fail
    refine HU.out.mono ?_
    rintro e w6 ⟨rfl, col6, t6, h6⟩
    have H6 := Lib.hid h6
    have T6 := Lib.hid (T5.out.trans (t6.mono (by omega) (by omega)))
    clear t6 h6
    go_wp2_with fail
    go_ret
    exact ⟨col6, rfl, T6.out, by rw [HHM.out]; exact H6.out⟩
  | some b =>
    rw [hfi] at hou HHM
    obtain ⟨gv, capv, rfl, _⟩ := Dat.form hou
    clear hou hfi
    go_wp2_with (first | rw [HW4.out] | fail)
    refine HNW.out.mono ?_
    rintro e w5 ⟨rfl, hb5⟩
    have c5 : w5.cell? ⟨g0, k, none⟩ = some (.slice (some ⟨gv, 0, none⟩) 256 capv) := (hb5.cell (World.block_lt_of_cell? _ _ HCU.out)).trans HCU.out
    obtain ⟨t5, h5, hB5⟩ := HTT.out w5 hb5
    have H5 := Lib.hid h5
    have T5 := Lib.hid t5
    clear hb5 t5 h5
    go_wp2_with fail
    go_ret
    exact ⟨col3, rfl, T5.out, by rw [HHM.out]; exact H5.out⟩
end Go.Proofs.Ytomoliickggghaa.Mem

namespace Go.Proofs.Ytomoliickggghaa.Mem
open Go.RowKit Go.Proofs.Ytomoliickggghaa Go.Proofs.Ytomoliickggghaa.Wire
set_option maxHeartbeats 8000000
set_option maxRecDepth 100000
set_option linter.unusedVariables false
set_option linter.unusedSimpArgs false

theorem nil_neq (w : World) : (binOp BinOp.neq 34 (.slice none 0 0) (.slice none 0 0)).run Try.prog w = .ok (.bool false) w := by kernel_rfl
theorem some_neq (a : Addr) (n c : Nat) (w : World) : (binOp BinOp.neq 34 (.slice (some a) n c) (.slice none 0 0)).run Try.prog w = .ok (.bool true) w := by kernel_rfl
def RS.get (R : RS) (n : Int) : Option Bytes := match R.now.1 n with
  | some b => some b
  | none => R.wait n
def RS.readB (R : RS) (n : Int) : Bytes := if R.has n = true then (match R.get n with
  | some b => b
  | none => R.d.get n) else []
def RS.readE (R : RS) (n : Int) : Int := if R.has n = true then 0 else 5
def RS.readS (R : RS) (n : Int) : RS := if R.has n = true then (match R.get n with
  | some _ => { R with found := R.found + 1 }
  | none => if (R.cache (R.of n)).contains n = true then { (R.used n) with found := R.found + 1 } else { (R.used n) with asked := R.asked + 1 }) else R
def RRead (w : World) (col : Col) (B c p dp : Nat) (R : RS) (bs : Bytes) (er : Int) (e : Ending) (w' : World) : Prop := ∃ v col', e = .returned (.tuple #[v, .int .i64 er]) ∧ Tch c (c + 7) col col' w w' ∧ RStoreAt w' col' B c p dp R ∧ Row w' col' w.heap.size 0 5 1 v bs.length (bvl bs)
theorem rread_no (w : World) (col : Col) (B c p dp : Nat) (R : RS) (n : Int) (h : RStoreAt w col B c p dp R) (hn : R.has n = false) :
    Calls Try.prog 53 #[ptr p, .int .i64 n] w fun e w' => RRead w col B c p dp (R.readS n) (R.readB n) (R.readE n) e w' := by
  obtain ⟨L, h⟩ := h
  have HH := Lib.hid (rhas_any w col B c p dp R L n h)
  rw [hn] at HH
  have HE := Lib.hid (show R.readS n = R ∧ R.readB n = [] ∧ R.readE n = 5 by
    have e : ¬ (R.has n = true) := by rw [hn]; decide
    exact ⟨by rw [RS.readS, if_neg e], by rw [RS.readB, if_neg e], by rw [RS.readE, if_neg e]⟩)
  rw [HE.out.1, HE.out.2.1, HE.out.2.2]
  have H := Lib.hid h
  clear h hn HE
  unfold ptr at *
  go_enter Try.func53, Try.ntmps53
  go_wp2_with fail
  refine HH.out.mono ?_
  rintro e w' ⟨rfl, rfl⟩
  go_wp2_with fail
  go_ret2
  exact ⟨_, col, rfl, Tch.refl _ _ _ _, ⟨L, H.out⟩, Row.nil _ _ _ _ _ _⟩
/-- The places of a block in a state. -/
theorem RStAt.slot {w : World} {col : Col} {B N k : Nat} {x : Value × Value} {y : RSt} (h : RStAt w col B N x y) (hk : k < N) : ∃ g cap u, x.1 = .slice (some ⟨g, 0, none⟩) N cap ∧ w.cell? ⟨g, k, none⟩ = some u ∧ OptDat w col B u (y.1 k) := by
  obtain ⟨g, cap, u, h1, _, h2, _, h3⟩ := h.c.at_ hk
  exact ⟨g, cap, u, h1, h2, h3⟩
theorem rread_now (w : World) (col : Col) (B c p dp : Nat) (R : RS) (k : Nat) (bs : Bytes) (h : RStoreAt w col B c p dp R) (hn : R.has (k : Int) = true) (hg : R.now.1 (k : Int) = some bs) (hB : B ≤ w.heap.size) (ht0 : ∀ b, w.heap.size ≤ b → col b = 0) (few : R.st.length + R.found + R.asked + 1 ≤ 1000000000) :
    Calls Try.prog 53 #[ptr p, .int .i64 k] w fun e w' => RRead w col B c p dp { R with found := R.found + 1 } bs 0 e w' := by
  obtain ⟨L, h⟩ := h
  have hlo := h.lo
  have HH := Lib.hid (rhas_any w col B c p dp R L k h)
  rw [hn] at HH
  have hn2 : 0 ≤ (k : Int) ∧ (k : Int) < (R.n : Int) := of_decide_eq_true hn
  have hNN := h.n1
  have hk : k < R.n := by omega
  have hkn : ((k : Int)).toNat = k := by omega
  have hk0 : (0 : Int) ≤ (k : Int) := by omega
  have hk1 : (k : Int) < (R.n : Int) := by omega
  obtain ⟨x, _, hx, hnow⟩ := rnow_any w col B c p dp R L h
  obtain ⟨g0, d0, u, hx0, hcu, hou⟩ := hx.slot hk
  rw [hx0] at hnow
  obtain ⟨x1, hx1⟩ : ∃ x1, x.2 = x1 := ⟨_, rfl⟩
  rw [hx1] at hnow
  have hfl := field_st0 (.slice (some ⟨g0, 0, none⟩) R.n d0) x1
  have hq0 := nil_eql
  have hq1 := some_eql
  have hq2 := nil_neq
  have hq3 := some_neq
  have HN := Lib.hid hnow
  have HCU := Lib.hid hcu
  have hwf : IntKind.i64.wrap ((R.found : Int) + 1) = (R.found : Int) + 1 := by rw [IntKind.wrap_i64]; omega
  have hwa : IntKind.i64.wrap ((R.asked : Int) + 1) = (R.asked : Int) + 1 := by rw [IntKind.wrap_i64]; omega
  rw [hg] at hou
  obtain ⟨gu, capu, rfl, _, _, _, hbl, _⟩ := Dat.form hou
  have HBL := Lib.hid (show bs.length = 256 from hbl)
  have HOU := Lib.hid hou
  have H := Lib.hid h
  have HT0 := Lib.hid ht0
  clear h hn hg hn2 hx hnow hx0 hcu hou hx1 ht0 hbl
  unfold ptr at *
  obtain ⟨N, hNe⟩ : ∃ N, R.n = N := ⟨_, rfl⟩
  rw [hNe] at hNN hk hk1 hfl HN
  clear hNe
  go_enter Try.func53, Try.ntmps53
  go_wp2_with fail
  refine HH.out.mono ?_
  rintro e w' ⟨rfl, rfl⟩
  go_wp2_with fail
  refine HN.out.mono ?_
  rintro e w5 ⟨rfl, hb5⟩
  have c5 : w5.cell? ⟨g0, k, none⟩ = some (.slice (some ⟨gu, 0, none⟩) 256 capu) := (hb5.cell (World.block_lt_of_cell? _ _ HCU.out)).trans HCU.out
  have H5 := Lib.hid (H.out.below hb5)
  have B5 := Lib.hid hb5
  have Y5 := Lib.hid (OptDat.keep (o := some bs) HOU.out (Tch.of_below (lo := 16) (hi := 16) hb5) (by omega))
  clear hb5
  obtain ⟨h6, t6⟩ := H5.out.foundSet few
  obtain ⟨w6, hw6⟩ : ∃ w6, w5.setCell ⟨p, 6, none⟩ (.int .i64 ((R.found : Int) + 1)) = w6 := ⟨_, rfl⟩
  rw [hw6] at h6 t6
  have f5 : w5.cell? ⟨p, 6, none⟩ = some (.int .i64 R.found) := H5.out.s.blk.cell 6
  have z5 : w5.frozen? ⟨p, 6, none⟩ = false := H5.out.s.blk.frozen 6
  have hy6 : BytesAt w6 (some ⟨gu, 0, none⟩) 256 bs := by
    have : OptDat w6 col B (.slice (some ⟨gu, 0, none⟩) 256 capu) (some bs) := OptDat.keep (o := some bs) Y5.out t6 (by omega)
    obtain ⟨g9, c9, he, hby, _⟩ := Dat.form this
    injection he with q1
    rw [← q1] at hby
    exact hby
  have HC := Lib.hid (Wire.copied_any (some ⟨gu, 0, none⟩) 256 capu bs w6 (by omega) (fun e => by cases e) hy6)
  have H6 := Lib.hid h6
  have T6 := Lib.hid ((Tch.of_below (lo := c) (hi := c + 7) B5.out).trans (t6.mono (by omega) (by omega)))
  have HW6 := Lib.hid hw6
  have hBw6 : w.heap.size ≤ w6.heap.size := T6.out.size
  clear h6 t6 hw6 hy6 H5 B5 Y5
  go_wp2_with (first | rw [HW6.out] | fail)
  refine HC.out.mono ?_
  rintro e w7 ⟨v7, rfl, ho7, hb7⟩
  have F1 := Lib.hid (T6.out.trans (Tch.of_below hb7))
  have F2 := Lib.hid (H6.out.below hb7)
  have F3 := Lib.hid (show Row w7 col w.heap.size 0 5 1 v7 256 (bvl bs) from ⟨own_mono ho7 hBw6, fun g e => HT0.out g (Nat.le_trans hBw6 (ho7.lt g e).1)⟩)
  clear ho7 hb7
  go_wp2_with fail
  go_ret2
  exact ⟨v7, col, rfl, F1.out, ⟨_, F2.out⟩, by rw [HBL.out]; exact F3.out⟩
theorem rread_wait (w : World) (col : Col) (B c p dp : Nat) (R : RS) (k : Nat) (bs : Bytes) (h : RStoreAt w col B c p dp R) (hn : R.has (k : Int) = true) (hg : R.now.1 (k : Int) = none) (hw : R.wait (k : Int) = some bs) (hB : B ≤ w.heap.size) (ht0 : ∀ b, w.heap.size ≤ b → col b = 0) (few : R.st.length + R.found + R.asked + 1 ≤ 1000000000) :
    Calls Try.prog 53 #[ptr p, .int .i64 k] w fun e w' => RRead w col B c p dp { R with found := R.found + 1 } bs 0 e w' := by
  obtain ⟨L, h⟩ := h
  have hlo := h.lo
  have HH := Lib.hid (rhas_any w col B c p dp R L k h)
  rw [hn] at HH
  have hn2 : 0 ≤ (k : Int) ∧ (k : Int) < (R.n : Int) := of_decide_eq_true hn
  have hNN := h.n1
  have hk : k < R.n := by omega
  have hkn : ((k : Int)).toNat = k := by omega
  have hk0 : (0 : Int) ≤ (k : Int) := by omega
  have hk1 : (k : Int) < (R.n : Int) := by omega
  obtain ⟨x, _, hx, hnow⟩ := rnow_any w col B c p dp R L h
  obtain ⟨g0, d0, u, hx0, hcu, hou⟩ := hx.slot hk
  rw [hx0] at hnow
  obtain ⟨x1, hx1⟩ : ∃ x1, x.2 = x1 := ⟨_, rfl⟩
  rw [hx1] at hnow
  have hfl := field_st0 (.slice (some ⟨g0, 0, none⟩) R.n d0) x1
  have hq0 := nil_eql
  have hq1 := some_eql
  have hq2 := nil_neq
  have hq3 := some_neq
  have HN := Lib.hid hnow
  have HCU := Lib.hid hcu
  have hwf : IntKind.i64.wrap ((R.found : Int) + 1) = (R.found : Int) + 1 := by rw [IntKind.wrap_i64]; omega
  have hwa : IntKind.i64.wrap ((R.asked : Int) + 1) = (R.asked : Int) + 1 := by rw [IntKind.wrap_i64]; omega
  rw [hg] at hou
  have hu : u = .slice none 0 0 := hou
  subst hu
  obtain ⟨gw, cw, xw, hv, _, hcw, _, hox⟩ := h.wait.at_ hk
  rw [hw] at hox
  obtain ⟨gu, capu, rfl, _, _, _, hbl, _⟩ := Dat.form hox
  have HBL := Lib.hid (show bs.length = 256 from hbl)
  have HOU := Lib.hid hox
  have HV := Lib.hid hv
  have HCW := Lib.hid hcw
  have H := Lib.hid h
  have HT0 := Lib.hid ht0
  clear h hn hg hw hn2 hx hnow hx0 hcu hou hx1 ht0 hbl hv hcw hox
  unfold ptr at *
  obtain ⟨N, hNe⟩ : ∃ N, R.n = N := ⟨_, rfl⟩
  rw [hNe] at hNN hk hk1 hfl HN HV
  clear hNe
  go_enter Try.func53, Try.ntmps53
  go_wp2_with fail
  refine HH.out.mono ?_
  rintro e w' ⟨rfl, rfl⟩
  go_wp2_with fail
  refine HN.out.mono ?_
  rintro e w5 ⟨rfl, hb5⟩
  have c5 : w5.cell? ⟨g0, k, none⟩ = some (.slice none 0 0) := (hb5.cell (World.block_lt_of_cell? _ _ HCU.out)).trans HCU.out
  have w5k : w5.cell? ⟨gw, k, none⟩ = some (.slice (some ⟨gu, 0, none⟩) 256 capu) := (hb5.cell (World.block_lt_of_cell? _ _ HCW.out)).trans HCW.out
  have H5 := Lib.hid (H.out.below hb5)
  have w54 : w5.cell? ⟨p, 4, none⟩ = some (.slice (some ⟨gw, 0, none⟩) N cw) := by rw [← HV.out]; exact H5.out.s.blk.cell 4
  have B5 := Lib.hid hb5
  have Y5 := Lib.hid (OptDat.keep (o := some bs) HOU.out (Tch.of_below (lo := 16) (hi := 16) hb5) (by omega))
  clear hb5
  obtain ⟨h6, t6⟩ := H5.out.foundSet few
  obtain ⟨w6, hw6⟩ : ∃ w6, w5.setCell ⟨p, 6, none⟩ (.int .i64 ((R.found : Int) + 1)) = w6 := ⟨_, rfl⟩
  rw [hw6] at h6 t6
  have f5 : w5.cell? ⟨p, 6, none⟩ = some (.int .i64 R.found) := H5.out.s.blk.cell 6
  have z5 : w5.frozen? ⟨p, 6, none⟩ = false := H5.out.s.blk.frozen 6
  have hy6 : BytesAt w6 (some ⟨gu, 0, none⟩) 256 bs := by
    have : OptDat w6 col B (.slice (some ⟨gu, 0, none⟩) 256 capu) (some bs) := OptDat.keep (o := some bs) Y5.out t6 (by omega)
    obtain ⟨g9, c9, he, hby, _⟩ := Dat.form this
    injection he with q1
    rw [← q1] at hby
    exact hby
  have HC := Lib.hid (Wire.copied_any (some ⟨gu, 0, none⟩) 256 capu bs w6 (by omega) (fun e => by cases e) hy6)
  have H6 := Lib.hid h6
  have T6 := Lib.hid ((Tch.of_below (lo := c) (hi := c + 7) B5.out).trans (t6.mono (by omega) (by omega)))
  have HW6 := Lib.hid hw6
  have hBw6 : w.heap.size ≤ w6.heap.size := T6.out.size
  clear h6 t6 hw6 hy6 H5 B5 Y5
  go_wp2_with (first | rw [HW6.out] | fail)
  refine HC.out.mono ?_
  rintro e w7 ⟨v7, rfl, ho7, hb7⟩
  have F1 := Lib.hid (T6.out.trans (Tch.of_below hb7))
  have F2 := Lib.hid (H6.out.below hb7)
  have F3 := Lib.hid (show Row w7 col w.heap.size 0 5 1 v7 256 (bvl bs) from ⟨own_mono ho7 hBw6, fun g e => HT0.out g (Nat.le_trans hBw6 (ho7.lt g e).1)⟩)
  clear ho7 hb7
  go_wp2_with fail
  go_ret2
  exact ⟨v7, col, rfl, F1.out, ⟨_, F2.out⟩, by rw [HBL.out]; exact F3.out⟩
theorem rread_hit (w : World) (col : Col) (B c p dp : Nat) (R : RS) (k : Nat) (h : RStoreAt w col B c p dp R) (hn : R.has (k : Int) = true) (hg : R.now.1 (k : Int) = none) (hw : R.wait (k : Int) = none) (hc : (R.cache (R.of k)).contains (k : Int) = true) (hB : B ≤ w.heap.size) (ht0 : ∀ b, w.heap.size ≤ b → col b = 0) (few : R.st.length + R.found + R.asked + 1 ≤ 1000000000) :
    Calls Try.prog 53 #[ptr p, .int .i64 k] w fun e w' => RRead w col B c p dp { (R.used k) with found := R.found + 1 } (R.d.get k) 0 e w' := by
  obtain ⟨L, h⟩ := h
  have hlo := h.lo
  have HH := Lib.hid (rhas_any w col B c p dp R L k h)
  rw [hn] at HH
  have hn2 : 0 ≤ (k : Int) ∧ (k : Int) < (R.n : Int) := of_decide_eq_true hn
  have hNN := h.n1
  have hk : k < R.n := by omega
  have hkn : ((k : Int)).toNat = k := by omega
  have hk0 : (0 : Int) ≤ (k : Int) := by omega
  have hk1 : (k : Int) < (R.n : Int) := by omega
  obtain ⟨x, _, hx, hnow⟩ := rnow_any w col B c p dp R L h
  obtain ⟨g0, d0, u, hx0, hcu, hou⟩ := hx.slot hk
  rw [hx0] at hnow
  obtain ⟨x1, hx1⟩ : ∃ x1, x.2 = x1 := ⟨_, rfl⟩
  rw [hx1] at hnow
  have hfl := field_st0 (.slice (some ⟨g0, 0, none⟩) R.n d0) x1
  have hq0 := nil_eql
  have hq1 := some_eql
  have hq2 := nil_neq
  have hq3 := some_neq
  have HN := Lib.hid hnow
  have HCU := Lib.hid hcu
  have hwf : IntKind.i64.wrap ((R.found : Int) + 1) = (R.found : Int) + 1 := by rw [IntKind.wrap_i64]; omega
  have hwa : IntKind.i64.wrap ((R.asked : Int) + 1) = (R.asked : Int) + 1 := by rw [IntKind.wrap_i64]; omega
  rw [hg] at hou
  have hu : u = .slice none 0 0 := hou
  subst hu
  obtain ⟨gw, cw, xw, hv, _, hcw, _, hox⟩ := h.wait.at_ hk
  rw [hw] at hox
  have hu : xw = .slice none 0 0 := hox
  subst hu
  have HV := Lib.hid hv
  have HCW := Lib.hid hcw
  have H := Lib.hid h
  have HT0 := Lib.hid ht0
  have HHN := Lib.hid hn
  have HCC := Lib.hid hc
  clear h hn hg hw hn2 hx hnow hx0 hcu hou hx1 ht0 hv hcw hox hc
  unfold ptr at *
  obtain ⟨N, hNe⟩ : ∃ N, R.n = N := ⟨_, rfl⟩
  have HNe := Lib.hid hNe
  rw [hNe] at hNN hk hk1 hfl HN HV
  clear hNe
  go_enter Try.func53, Try.ntmps53
  go_wp2_with fail
  refine HH.out.mono ?_
  rintro e w' ⟨rfl, rfl⟩
  go_wp2_with fail
  refine HN.out.mono ?_
  rintro e w5 ⟨rfl, hb5⟩
  have c5 : w5.cell? ⟨g0, k, none⟩ = some (.slice none 0 0) := (hb5.cell (World.block_lt_of_cell? _ _ HCU.out)).trans HCU.out
  have w5k : w5.cell? ⟨gw, k, none⟩ = some (.slice none 0 0) := (hb5.cell (World.block_lt_of_cell? _ _ HCW.out)).trans HCW.out
  have w54 : w5.cell? ⟨p, 4, none⟩ = some (.slice (some ⟨gw, 0, none⟩) N cw) := by rw [← HV.out]; exact (H.out.below hb5).s.blk.cell 4
  obtain ⟨w6, hw6⟩ : ∃ w6, w5.drew = w6 := ⟨_, rfl⟩
  have b6 : Below w.heap.size w w6 := by rw [← hw6]; exact below_drewN hb5 1
  have h6 := H.out.below b6
  have HW6 := Lib.hid hw6
  have B6 := Lib.hid b6
  have hcan := h6.can
  have hki := RS.of_lt (R := R) (k : Int) hcan.1
  obtain ⟨gx, cx, vx, hvc, hcs, hk0', hz0, hrow, hlen⟩ := h6.cachev hki
  have e5 : w6.cell? ⟨p, 5, none⟩ = some (.slice (some ⟨gx, 0, none⟩) R.ca.length cx) := by rw [← hvc]; exact h6.s.blk.cell 5
  obtain ⟨A, cv, rfl, _, hcv, hcvm, _⟩ := row_len hrow
  have HR := rwithout_any w6 A _ cv (R.cache (R.of k)) k (RowAt.of_own hrow.own) (by omega)
  rw [HCC.out] at HR
  have HR := Lib.hid HR
  have HOF := Lib.hid (show R.of k = ((k : Int) % (R.ca.length : Int)).toNat from rfl)
  generalize hl : R.cache (R.of k) = l at *
  generalize hi : R.of k = i at *
  obtain ⟨m, hm⟩ : ∃ m, R.ca.length = m := ⟨_, rfl⟩
  rw [hm] at HOF e5 hki hcan
  have hi' := HOF.out
  have i1 : (k : Int) % (m : Int) = (i : Int) := by have := Int.emod_nonneg (k : Int) (show (m : Int) ≠ 0 by omega); omega
  have i3 : (k : Int).tmod (m : Int) = (i : Int) := by rw [Int.tmod_eq_emod_of_nonneg (by omega)]; exact i1
  have i4 : IntKind.i64.wrap (i : Int) = (i : Int) := by rw [IntKind.wrap_i64]; omega
  have i5 : ((m : Int) == 0) = false := by simp; omega
  have i9 : ¬ m = 0 := by omega
  have i6 : (0 : Int) ≤ (i : Int) := by omega
  have i7 : (i : Int) < (m : Int) := by omega
  have i8 : ((i : Int)).toNat = i := by omega
  clear h6 hrow hvc hcs hi hm HOF hi' hl hb5 hw6 b6
  go_upto_region 9 with fail
  have hNS : w6.cell? ⟨p, 5, none⟩ = some (.slice (some ⟨gx, 0, none⟩) m cx) ∧ w6.cell? ⟨gx, i, none⟩ = some (.slice A l.length cv) := ⟨e5, hk0'⟩
  refine region_need_at (v := w6) (fun w' => w'.cell? ⟨p, 5, none⟩ = some (.slice (some ⟨gx, 0, none⟩) m cx) ∧ w'.cell? ⟨gx, i, none⟩ = some (.slice A l.length cv)) (fun _ => true) HW6.out (by kernel_rfl) ?_
  refine nw_take (i := 0) (v := ?_) rfl (by kernel_rfl) (by kernel_rfl) (fun _ _ d _ _ h => by cases d <;> exact h) (by exact hNS) (by kernel_rfl) ?_ (fun K hK => ?_); rotate_left; (· (intro w' hSw; (try dsimp only at hSw); go_simp; with_reducible rfl)); simp only [Act.put, List.setIfInBounds_toArray, List.set_cons_zero, List.set_cons_succ]; refine hK _ ?_; clear hK K
  refine nw_take (i := 1) (v := ?_) rfl (by kernel_rfl) (by kernel_rfl) (fun _ _ d _ _ h => by cases d <;> exact h) (by exact hNS) (by kernel_rfl) ?_ (fun K hK => ?_); rotate_left; (· (intro w' hSw; (try dsimp only at hSw); go_simp; with_reducible rfl)); simp only [Act.put, List.setIfInBounds_toArray, List.set_cons_zero, List.set_cons_succ]; refine hK _ ?_; clear hK K
  refine nw_take (i := 2) (v := ?_) rfl (by kernel_rfl) (by kernel_rfl) (fun _ _ d _ _ h => by cases d <;> exact h) (by exact hNS) (by kernel_rfl) ?_ (fun K hK => ?_); rotate_left; (· (intro w' hSw; (try dsimp only at hSw); go_simp; with_reducible rfl)); simp only [Act.put, List.setIfInBounds_toArray, List.set_cons_zero, List.set_cons_succ]; refine hK _ ?_; clear hK K
  refine nw_take (i := 3) (v := ?_) rfl (by kernel_rfl) (by kernel_rfl) (fun _ _ d _ _ h => by cases d <;> exact h) (by exact hNS) (by kernel_rfl) ?_ (fun K hK => ?_); rotate_left; (· (intro w' hSw; (try dsimp only at hSw); go_simp; with_reducible rfl)); simp only [Act.put, List.setIfInBounds_toArray, List.set_cons_zero, List.set_cons_succ]; refine hK _ ?_; clear hK K
  refine nw_take (i := 4) (v := ?_) rfl (by kernel_rfl) (by kernel_rfl) (fun _ _ d _ _ h => by cases d <;> exact h) (by exact hNS) (by kernel_rfl) ?_ (fun K hK => ?_); rotate_left; (· (intro w' hSw; (try dsimp only at hSw); go_simp; with_reducible rfl)); simp only [Act.put, List.setIfInBounds_toArray, List.set_cons_zero, List.set_cons_succ]; refine hK _ ?_; clear hK K
  refine nw_take (i := 5) (v := ?_) rfl (by kernel_rfl) (by kernel_rfl) (fun _ _ d _ _ h => by cases d <;> exact h) (by exact hNS) (by kernel_rfl) ?_ (fun K hK => ?_); rotate_left; (· (intro w' hSw; (try dsimp only at hSw); go_simp; with_reducible rfl)); simp only [Act.put, List.setIfInBounds_toArray, List.set_cons_zero, List.set_cons_succ]; refine hK _ ?_; clear hK K
  refine nw_take (i := 6) (v := ?_) rfl (by kernel_rfl) (by kernel_rfl) (fun _ _ d _ _ h => by cases d <;> exact h) (by exact hNS) (by kernel_rfl) ?_ (fun K hK => ?_); rotate_left; (· (intro w' hSw; (try dsimp only at hSw); go_simp; with_reducible rfl)); simp only [Act.put, List.setIfInBounds_toArray, List.set_cons_zero, List.set_cons_succ]; refine hK _ ?_; clear hK K
  refine nw_take (i := 7) (v := ?_) rfl (by kernel_rfl) (by kernel_rfl) (fun _ _ d _ _ h => by cases d <;> exact h) (by exact hNS) (by kernel_rfl) ?_ (fun K hK => ?_); rotate_left; (· (intro w' hSw; (try dsimp only at hSw); go_simp; with_reducible rfl)); simp only [Act.put, List.setIfInBounds_toArray, List.set_cons_zero, List.set_cons_succ]; refine hK _ ?_; clear hK K
  refine nw_take (i := 8) (v := ?_) rfl (by kernel_rfl) (by kernel_rfl) (fun _ _ d _ _ h => by cases d <;> exact h) (by exact hNS) (by kernel_rfl) ?_ (fun K hK => ?_); rotate_left; (· (intro w' hSw; (try dsimp only at hSw); go_simp; with_reducible rfl)); simp only [Act.put, List.setIfInBounds_toArray, List.set_cons_zero, List.set_cons_succ]; refine hK _ ?_; clear hK K
  refine nw_take (i := 9) (v := ?_) rfl (by kernel_rfl) (by kernel_rfl) (fun _ _ d _ _ h => by cases d <;> exact h) (by exact hNS) (by kernel_rfl) ?_ (fun K hK => ?_); rotate_left; (· (intro w' hSw; (try dsimp only at hSw); go_simp; with_reducible rfl)); simp only [Act.put, List.setIfInBounds_toArray, List.set_cons_zero, List.set_cons_succ]; refine hK _ ?_; clear hK K
  refine nw_take (i := 10) (v := ?_) rfl (by kernel_rfl) (by kernel_rfl) (fun _ _ d _ _ h => by cases d <;> exact h) (by exact hNS) (by kernel_rfl) ?_ (fun K hK => ?_); rotate_left; (· (intro w' hSw; (try dsimp only at hSw); go_simp; with_reducible rfl)); simp only [Act.put, List.setIfInBounds_toArray, List.set_cons_zero, List.set_cons_succ]; refine hK _ ?_; clear hK K
  refine nw_take (i := 11) (v := ?_) rfl (by kernel_rfl) (by kernel_rfl) (fun _ _ d _ _ h => by cases d <;> exact h) (by exact hNS) (by kernel_rfl) ?_ (fun K hK => ?_); rotate_left; (· (intro w' hSw; (try dsimp only at hSw); go_simp; with_reducible rfl)); simp only [Act.put, List.setIfInBounds_toArray, List.set_cons_zero, List.set_cons_succ]; refine hK _ ?_; clear hK K
  refine nw_take (i := 12) (v := ?_) rfl (by kernel_rfl) (by kernel_rfl) (fun _ _ d _ _ h => by cases d <;> exact h) (by exact hNS) (by kernel_rfl) ?_ (fun K hK => ?_); rotate_left; (· (intro w' hSw; (try dsimp only at hSw); go_simp; with_reducible rfl)); simp only [Act.put, List.setIfInBounds_toArray, List.set_cons_zero, List.set_cons_succ]; refine hK _ ?_; clear hK K
  refine nw_take (i := 13) (v := ?_) rfl (by kernel_rfl) (by kernel_rfl) (fun _ _ d _ _ h => by cases d <;> exact h) (by exact hNS) (by kernel_rfl) ?_ (fun K hK => ?_); rotate_left; (· (intro w' hSw; (try dsimp only at hSw); go_simp; with_reducible rfl)); simp only [Act.put, List.setIfInBounds_toArray, List.set_cons_zero, List.set_cons_succ]; refine hK _ ?_; clear hK K
  clear hNS
  refine nw_one (i := 14) (E := False) rfl (by kernel_rfl) (fun K hK => ?_) (by kernel_rfl)
  go_simp
  refine HR.out.mono ?_
  rintro e w7 ⟨v7, rfl, _, hb7⟩
  have e7 : w7.cell? ⟨p, 5, none⟩ = some (.slice (some ⟨gx, 0, none⟩) m cx) := (hb7.cell (World.block_lt_of_cell? _ _ e5)).trans e5
  have e8 : w7.cell? ⟨gx, i, none⟩ = some (.slice A l.length cv) := (hb7.cell (World.block_lt_of_cell? _ _ hk0')).trans hk0'
  have B7 := Lib.hid (below_all B6.out B6.out.size hb7)
  clear hb7
  refine hK.out _ _ ((fun _ => ⟨e7, e8⟩)) ?_
  clear hK K
  try simp only [Act.put, List.setIfInBounds_toArray, List.set_cons_zero, List.set_cons_succ]
  have hNS : w7.cell? ⟨p, 5, none⟩ = some (.slice (some ⟨gx, 0, none⟩) m cx) ∧ w7.cell? ⟨gx, i, none⟩ = some (.slice A l.length cv) := ⟨e7, e8⟩
  refine nw_take (i := 15) (v := ?_) rfl (by kernel_rfl) (by kernel_rfl) (fun _ _ d _ _ h => by cases d <;> exact h) (by exact hNS) (by kernel_rfl) ?_ (fun K hK => ?_); rotate_left; (· (intro w' hSw; (try dsimp only at hSw); go_simp; with_reducible rfl)); simp only [Act.put, List.setIfInBounds_toArray, List.set_cons_zero, List.set_cons_succ]; refine hK _ ?_; clear hK K
  refine nw_take (i := 16) (v := ?_) rfl (by kernel_rfl) (by kernel_rfl) (fun _ _ d _ _ h => by cases d <;> exact h) (by exact hNS) (by kernel_rfl) ?_ (fun K hK => ?_); rotate_left; (· (intro w' hSw; (try dsimp only at hSw); go_simp; with_reducible rfl)); simp only [Act.put, List.setIfInBounds_toArray, List.set_cons_zero, List.set_cons_succ]; refine hK _ ?_; clear hK K
  refine nw_take (i := 17) (v := ?_) rfl (by kernel_rfl) (by kernel_rfl) (fun _ _ d _ _ h => by cases d <;> exact h) (by exact hNS) (by kernel_rfl) ?_ (fun K hK => ?_); rotate_left; (· (intro w' hSw; (try dsimp only at hSw); go_simp; with_reducible rfl)); simp only [Act.put, List.setIfInBounds_toArray, List.set_cons_zero, List.set_cons_succ]; refine hK _ ?_; clear hK K
  refine nw_take (i := 18) (v := ?_) rfl (by kernel_rfl) (by kernel_rfl) (fun _ _ d _ _ h => by cases d <;> exact h) (by exact hNS) (by kernel_rfl) ?_ (fun K hK => ?_); rotate_left; (· (intro w' hSw; (try dsimp only at hSw); go_simp; with_reducible rfl)); simp only [Act.put, List.setIfInBounds_toArray, List.set_cons_zero, List.set_cons_succ]; refine hK _ ?_; clear hK K
  refine nw_take (i := 19) (v := ?_) rfl (by kernel_rfl) (by kernel_rfl) (fun _ _ d _ _ h => by cases d <;> exact h) (by exact hNS) (by kernel_rfl) ?_ (fun K hK => ?_); rotate_left; (· (intro w' hSw; (try dsimp only at hSw); go_simp; with_reducible rfl)); simp only [Act.put, List.setIfInBounds_toArray, List.set_cons_zero, List.set_cons_succ]; refine hK _ ?_; clear hK K
  clear hNS
  refine nw_end (by kernel_rfl) ?_
  have H7 := H.out.below B7.out
  have hB7 : B ≤ w7.heap.size := Nat.le_trans hB B7.out.size
  have HU := Lib.hid (rused_any w7 col B c p dp R (k : Int) ⟨L, H7⟩ HHN.out hB7)
  unfold ptr at HU
  clear H7 e5 e7 e8 hk0' hz0 HR
  go_wp2_with fail
  refine HU.out.mono ?_
  rintro e w8 ⟨rfl, col8, t8, L8, h8⟩
  obtain ⟨h9, t9⟩ := h8.foundSet few
  obtain ⟨w9, hw9⟩ : ∃ w9, w8.setCell ⟨p, 6, none⟩ (.int .i64 ((R.found : Int) + 1)) = w9 := ⟨_, rfl⟩
  have hw9' : w8.setCell ⟨p, 6, none⟩ (.int .i64 (((R.used k).found : Int) + 1)) = w9 := hw9
  rw [hw9'] at h9 t9
  have f8 : w8.cell? ⟨p, 6, none⟩ = some (.int .i64 R.found) := h8.s.blk.cell 6
  have z8 : w8.frozen? ⟨p, 6, none⟩ = false := h8.s.blk.frozen 6
  have f9 : w9.cell? ⟨p, 0, none⟩ = some (.pointer (some ⟨dp, 0, none⟩)) := h9.s.blk.cell 0
  have HD := rdread_any w9 col8 B (c + 4) dp R.d (k : Int) h9.d
  have hdh : R.d.has (k : Int) = true := by unfold RD.has; rw [H.out.dn]; exact HHN.out
  rw [show R.d.readE (k : Int) = 0 by rw [RD.readE, if_pos hdh], show R.d.readB (k : Int) = R.d.get k by rw [RD.readB, if_pos hdh]] at HD
  have HD := Lib.hid HD
  have H9 := Lib.hid h9
  have T9 := Lib.hid (((Tch.of_below (lo := c) (hi := c + 7) B7.out).trans (t8.mono (by omega) (by omega))).trans (t9.mono (by omega) (by omega)))
  have HW9 := Lib.hid hw9
  have hBw9 : w.heap.size ≤ w9.heap.size := T9.out.size
  clear t8 h8 h9 t9 hw9 hw9' hdh HU
  unfold ptr at HD
  go_wp2_with (first | rw [HW9.out] | fail)
  refine HD.out.mono ?_
  rintro e wz ⟨vz, rfl, hbz, hoz⟩
  have F1 := Lib.hid (T9.out.trans (Tch.of_below hbz))
  have F2 := Lib.hid (H9.out.below hbz)
  have F3 := Lib.hid (show Row wz col8 w.heap.size 0 5 1 vz (R.d.get k).length (bvl (R.d.get k)) from ⟨own_mono hoz hBw9, fun g e => T9.out.tidy HT0.out g (hoz.lt g e).1⟩)
  clear hoz hbz HD
  go_wp2_with fail
  go_ret2
  exact ⟨vz, col8, rfl, F1.out, ⟨_, F2.out⟩, F3.out⟩
theorem rread_miss (w : World) (col : Col) (B c p dp : Nat) (R : RS) (k : Nat) (h : RStoreAt w col B c p dp R) (hn : R.has (k : Int) = true) (hg : R.now.1 (k : Int) = none) (hw : R.wait (k : Int) = none) (hc : (R.cache (R.of k)).contains (k : Int) = false) (hB : B ≤ w.heap.size) (ht0 : ∀ b, w.heap.size ≤ b → col b = 0) (few : R.st.length + R.found + R.asked + 1 ≤ 1000000000) :
    Calls Try.prog 53 #[ptr p, .int .i64 k] w fun e w' => RRead w col B c p dp { (R.used k) with asked := R.asked + 1 } (R.d.get k) 0 e w' := by
  obtain ⟨L, h⟩ := h
  have hlo := h.lo
  have HH := Lib.hid (rhas_any w col B c p dp R L k h)
  rw [hn] at HH
  have hn2 : 0 ≤ (k : Int) ∧ (k : Int) < (R.n : Int) := of_decide_eq_true hn
  have hNN := h.n1
  have hk : k < R.n := by omega
  have hkn : ((k : Int)).toNat = k := by omega
  have hk0 : (0 : Int) ≤ (k : Int) := by omega
  have hk1 : (k : Int) < (R.n : Int) := by omega
  obtain ⟨x, _, hx, hnow⟩ := rnow_any w col B c p dp R L h
  obtain ⟨g0, d0, u, hx0, hcu, hou⟩ := hx.slot hk
  rw [hx0] at hnow
  obtain ⟨x1, hx1⟩ : ∃ x1, x.2 = x1 := ⟨_, rfl⟩
  rw [hx1] at hnow
  have hfl := field_st0 (.slice (some ⟨g0, 0, none⟩) R.n d0) x1
  have hq0 := nil_eql
  have hq1 := some_eql
  have hq2 := nil_neq
  have hq3 := some_neq
  have HN := Lib.hid hnow
  have HCU := Lib.hid hcu
  have hwf : IntKind.i64.wrap ((R.found : Int) + 1) = (R.found : Int) + 1 := by rw [IntKind.wrap_i64]; omega
  have hwa : IntKind.i64.wrap ((R.asked : Int) + 1) = (R.asked : Int) + 1 := by rw [IntKind.wrap_i64]; omega
  rw [hg] at hou
  have hu : u = .slice none 0 0 := hou
  subst hu
  obtain ⟨gw, cw, xw, hv, _, hcw, _, hox⟩ := h.wait.at_ hk
  rw [hw] at hox
  have hu : xw = .slice none 0 0 := hox
  subst hu
  have HV := Lib.hid hv
  have HCW := Lib.hid hcw
  have H := Lib.hid h
  have HT0 := Lib.hid ht0
  have HHN := Lib.hid hn
  have HCC := Lib.hid hc
  clear h hn hg hw hn2 hx hnow hx0 hcu hou hx1 ht0 hv hcw hox hc
  unfold ptr at *
  obtain ⟨N, hNe⟩ : ∃ N, R.n = N := ⟨_, rfl⟩
  have HNe := Lib.hid hNe
  rw [hNe] at hNN hk hk1 hfl HN HV
  clear hNe
  go_enter Try.func53, Try.ntmps53
  go_wp2_with fail
  refine HH.out.mono ?_
  rintro e w' ⟨rfl, rfl⟩
  go_wp2_with fail
  refine HN.out.mono ?_
  rintro e w5 ⟨rfl, hb5⟩
  have c5 : w5.cell? ⟨g0, k, none⟩ = some (.slice none 0 0) := (hb5.cell (World.block_lt_of_cell? _ _ HCU.out)).trans HCU.out
  have w5k : w5.cell? ⟨gw, k, none⟩ = some (.slice none 0 0) := (hb5.cell (World.block_lt_of_cell? _ _ HCW.out)).trans HCW.out
  have w54 : w5.cell? ⟨p, 4, none⟩ = some (.slice (some ⟨gw, 0, none⟩) N cw) := by rw [← HV.out]; exact (H.out.below hb5).s.blk.cell 4
  obtain ⟨w6, hw6⟩ : ∃ w6, w5.drew = w6 := ⟨_, rfl⟩
  have b6 : Below w.heap.size w w6 := by rw [← hw6]; exact below_drewN hb5 1
  have h6 := H.out.below b6
  have HW6 := Lib.hid hw6
  have B6 := Lib.hid b6
  have hcan := h6.can
  have hki := RS.of_lt (R := R) (k : Int) hcan.1
  obtain ⟨gx, cx, vx, hvc, hcs, hk0', hz0, hrow, hlen⟩ := h6.cachev hki
  have e5 : w6.cell? ⟨p, 5, none⟩ = some (.slice (some ⟨gx, 0, none⟩) R.ca.length cx) := by rw [← hvc]; exact h6.s.blk.cell 5
  obtain ⟨A, cv, rfl, _, hcv, hcvm, _⟩ := row_len hrow
  have HR := rwithout_any w6 A _ cv (R.cache (R.of k)) k (RowAt.of_own hrow.own) (by omega)
  rw [HCC.out] at HR
  have HR := Lib.hid HR
  have HOF := Lib.hid (show R.of k = ((k : Int) % (R.ca.length : Int)).toNat from rfl)
  generalize hl : R.cache (R.of k) = l at *
  generalize hi : R.of k = i at *
  obtain ⟨m, hm⟩ : ∃ m, R.ca.length = m := ⟨_, rfl⟩
  rw [hm] at HOF e5 hki hcan
  have hi' := HOF.out
  have i1 : (k : Int) % (m : Int) = (i : Int) := by have := Int.emod_nonneg (k : Int) (show (m : Int) ≠ 0 by omega); omega
  have i3 : (k : Int).tmod (m : Int) = (i : Int) := by rw [Int.tmod_eq_emod_of_nonneg (by omega)]; exact i1
  have i4 : IntKind.i64.wrap (i : Int) = (i : Int) := by rw [IntKind.wrap_i64]; omega
  have i5 : ((m : Int) == 0) = false := by simp; omega
  have i9 : ¬ m = 0 := by omega
  have i6 : (0 : Int) ≤ (i : Int) := by omega
  have i7 : (i : Int) < (m : Int) := by omega
  have i8 : ((i : Int)).toNat = i := by omega
  clear h6 hrow hvc hcs hi hm HOF hi' hl hb5 hw6 b6
  go_upto_region 9 with fail
  have hNS : w6.cell? ⟨p, 5, none⟩ = some (.slice (some ⟨gx, 0, none⟩) m cx) ∧ w6.cell? ⟨gx, i, none⟩ = some (.slice A l.length cv) := ⟨e5, hk0'⟩
  refine region_need_at (v := w6) (fun w' => w'.cell? ⟨p, 5, none⟩ = some (.slice (some ⟨gx, 0, none⟩) m cx) ∧ w'.cell? ⟨gx, i, none⟩ = some (.slice A l.length cv)) (fun _ => true) HW6.out (by kernel_rfl) ?_
  refine nw_take (i := 0) (v := ?_) rfl (by kernel_rfl) (by kernel_rfl) (fun _ _ d _ _ h => by cases d <;> exact h) (by exact hNS) (by kernel_rfl) ?_ (fun K hK => ?_); rotate_left; (· (intro w' hSw; (try dsimp only at hSw); go_simp; with_reducible rfl)); simp only [Act.put, List.setIfInBounds_toArray, List.set_cons_zero, List.set_cons_succ]; refine hK _ ?_; clear hK K
  refine nw_take (i := 1) (v := ?_) rfl (by kernel_rfl) (by kernel_rfl) (fun _ _ d _ _ h => by cases d <;> exact h) (by exact hNS) (by kernel_rfl) ?_ (fun K hK => ?_); rotate_left; (· (intro w' hSw; (try dsimp only at hSw); go_simp; with_reducible rfl)); simp only [Act.put, List.setIfInBounds_toArray, List.set_cons_zero, List.set_cons_succ]; refine hK _ ?_; clear hK K
  refine nw_take (i := 2) (v := ?_) rfl (by kernel_rfl) (by kernel_rfl) (fun _ _ d _ _ h => by cases d <;> exact h) (by exact hNS) (by kernel_rfl) ?_ (fun K hK => ?_); rotate_left; (· (intro w' hSw; (try dsimp only at hSw); go_simp; with_reducible rfl)); simp only [Act.put, List.setIfInBounds_toArray, List.set_cons_zero, List.set_cons_succ]; refine hK _ ?_; clear hK K
  refine nw_take (i := 3) (v := ?_) rfl (by kernel_rfl) (by kernel_rfl) (fun _ _ d _ _ h => by cases d <;> exact h) (by exact hNS) (by kernel_rfl) ?_ (fun K hK => ?_); rotate_left; (· (intro w' hSw; (try dsimp only at hSw); go_simp; with_reducible rfl)); simp only [Act.put, List.setIfInBounds_toArray, List.set_cons_zero, List.set_cons_succ]; refine hK _ ?_; clear hK K
  refine nw_take (i := 4) (v := ?_) rfl (by kernel_rfl) (by kernel_rfl) (fun _ _ d _ _ h => by cases d <;> exact h) (by exact hNS) (by kernel_rfl) ?_ (fun K hK => ?_); rotate_left; (· (intro w' hSw; (try dsimp only at hSw); go_simp; with_reducible rfl)); simp only [Act.put, List.setIfInBounds_toArray, List.set_cons_zero, List.set_cons_succ]; refine hK _ ?_; clear hK K
  refine nw_take (i := 5) (v := ?_) rfl (by kernel_rfl) (by kernel_rfl) (fun _ _ d _ _ h => by cases d <;> exact h) (by exact hNS) (by kernel_rfl) ?_ (fun K hK => ?_); rotate_left; (· (intro w' hSw; (try dsimp only at hSw); go_simp; with_reducible rfl)); simp only [Act.put, List.setIfInBounds_toArray, List.set_cons_zero, List.set_cons_succ]; refine hK _ ?_; clear hK K
  refine nw_take (i := 6) (v := ?_) rfl (by kernel_rfl) (by kernel_rfl) (fun _ _ d _ _ h => by cases d <;> exact h) (by exact hNS) (by kernel_rfl) ?_ (fun K hK => ?_); rotate_left; (· (intro w' hSw; (try dsimp only at hSw); go_simp; with_reducible rfl)); simp only [Act.put, List.setIfInBounds_toArray, List.set_cons_zero, List.set_cons_succ]; refine hK _ ?_; clear hK K
  refine nw_take (i := 7) (v := ?_) rfl (by kernel_rfl) (by kernel_rfl) (fun _ _ d _ _ h => by cases d <;> exact h) (by exact hNS) (by kernel_rfl) ?_ (fun K hK => ?_); rotate_left; (· (intro w' hSw; (try dsimp only at hSw); go_simp; with_reducible rfl)); simp only [Act.put, List.setIfInBounds_toArray, List.set_cons_zero, List.set_cons_succ]; refine hK _ ?_; clear hK K
  refine nw_take (i := 8) (v := ?_) rfl (by kernel_rfl) (by kernel_rfl) (fun _ _ d _ _ h => by cases d <;> exact h) (by exact hNS) (by kernel_rfl) ?_ (fun K hK => ?_); rotate_left; (· (intro w' hSw; (try dsimp only at hSw); go_simp; with_reducible rfl)); simp only [Act.put, List.setIfInBounds_toArray, List.set_cons_zero, List.set_cons_succ]; refine hK _ ?_; clear hK K
  refine nw_take (i := 9) (v := ?_) rfl (by kernel_rfl) (by kernel_rfl) (fun _ _ d _ _ h => by cases d <;> exact h) (by exact hNS) (by kernel_rfl) ?_ (fun K hK => ?_); rotate_left; (· (intro w' hSw; (try dsimp only at hSw); go_simp; with_reducible rfl)); simp only [Act.put, List.setIfInBounds_toArray, List.set_cons_zero, List.set_cons_succ]; refine hK _ ?_; clear hK K
  refine nw_take (i := 10) (v := ?_) rfl (by kernel_rfl) (by kernel_rfl) (fun _ _ d _ _ h => by cases d <;> exact h) (by exact hNS) (by kernel_rfl) ?_ (fun K hK => ?_); rotate_left; (· (intro w' hSw; (try dsimp only at hSw); go_simp; with_reducible rfl)); simp only [Act.put, List.setIfInBounds_toArray, List.set_cons_zero, List.set_cons_succ]; refine hK _ ?_; clear hK K
  refine nw_take (i := 11) (v := ?_) rfl (by kernel_rfl) (by kernel_rfl) (fun _ _ d _ _ h => by cases d <;> exact h) (by exact hNS) (by kernel_rfl) ?_ (fun K hK => ?_); rotate_left; (· (intro w' hSw; (try dsimp only at hSw); go_simp; with_reducible rfl)); simp only [Act.put, List.setIfInBounds_toArray, List.set_cons_zero, List.set_cons_succ]; refine hK _ ?_; clear hK K
  refine nw_take (i := 12) (v := ?_) rfl (by kernel_rfl) (by kernel_rfl) (fun _ _ d _ _ h => by cases d <;> exact h) (by exact hNS) (by kernel_rfl) ?_ (fun K hK => ?_); rotate_left; (· (intro w' hSw; (try dsimp only at hSw); go_simp; with_reducible rfl)); simp only [Act.put, List.setIfInBounds_toArray, List.set_cons_zero, List.set_cons_succ]; refine hK _ ?_; clear hK K
  refine nw_take (i := 13) (v := ?_) rfl (by kernel_rfl) (by kernel_rfl) (fun _ _ d _ _ h => by cases d <;> exact h) (by exact hNS) (by kernel_rfl) ?_ (fun K hK => ?_); rotate_left; (· (intro w' hSw; (try dsimp only at hSw); go_simp; with_reducible rfl)); simp only [Act.put, List.setIfInBounds_toArray, List.set_cons_zero, List.set_cons_succ]; refine hK _ ?_; clear hK K
  clear hNS
  refine nw_one (i := 14) (E := False) rfl (by kernel_rfl) (fun K hK => ?_) (by kernel_rfl)
  go_simp
  refine HR.out.mono ?_
  rintro e w7 ⟨v7, rfl, _, hb7⟩
  have e7 : w7.cell? ⟨p, 5, none⟩ = some (.slice (some ⟨gx, 0, none⟩) m cx) := (hb7.cell (World.block_lt_of_cell? _ _ e5)).trans e5
  have e8 : w7.cell? ⟨gx, i, none⟩ = some (.slice A l.length cv) := (hb7.cell (World.block_lt_of_cell? _ _ hk0')).trans hk0'
  have B7 := Lib.hid (below_all B6.out B6.out.size hb7)
  clear hb7
  refine hK.out _ _ ((fun _ => ⟨e7, e8⟩)) ?_
  clear hK K
  try simp only [Act.put, List.setIfInBounds_toArray, List.set_cons_zero, List.set_cons_succ]
  have hNS : w7.cell? ⟨p, 5, none⟩ = some (.slice (some ⟨gx, 0, none⟩) m cx) ∧ w7.cell? ⟨gx, i, none⟩ = some (.slice A l.length cv) := ⟨e7, e8⟩
  refine nw_take (i := 15) (v := ?_) rfl (by kernel_rfl) (by kernel_rfl) (fun _ _ d _ _ h => by cases d <;> exact h) (by exact hNS) (by kernel_rfl) ?_ (fun K hK => ?_); rotate_left; (· (intro w' hSw; (try dsimp only at hSw); go_simp; with_reducible rfl)); simp only [Act.put, List.setIfInBounds_toArray, List.set_cons_zero, List.set_cons_succ]; refine hK _ ?_; clear hK K
  refine nw_take (i := 16) (v := ?_) rfl (by kernel_rfl) (by kernel_rfl) (fun _ _ d _ _ h => by cases d <;> exact h) (by exact hNS) (by kernel_rfl) ?_ (fun K hK => ?_); rotate_left; (· (intro w' hSw; (try dsimp only at hSw); go_simp; with_reducible rfl)); simp only [Act.put, List.setIfInBounds_toArray, List.set_cons_zero, List.set_cons_succ]; refine hK _ ?_; clear hK K
  refine nw_take (i := 17) (v := ?_) rfl (by kernel_rfl) (by kernel_rfl) (fun _ _ d _ _ h => by cases d <;> exact h) (by exact hNS) (by kernel_rfl) ?_ (fun K hK => ?_); rotate_left; (· (intro w' hSw; (try dsimp only at hSw); go_simp; with_reducible rfl)); simp only [Act.put, List.setIfInBounds_toArray, List.set_cons_zero, List.set_cons_succ]; refine hK _ ?_; clear hK K
  refine nw_take (i := 18) (v := ?_) rfl (by kernel_rfl) (by kernel_rfl) (fun _ _ d _ _ h => by cases d <;> exact h) (by exact hNS) (by kernel_rfl) ?_ (fun K hK => ?_); rotate_left; (· (intro w' hSw; (try dsimp only at hSw); go_simp; with_reducible rfl)); simp only [Act.put, List.setIfInBounds_toArray, List.set_cons_zero, List.set_cons_succ]; refine hK _ ?_; clear hK K
  refine nw_take (i := 19) (v := ?_) rfl (by kernel_rfl) (by kernel_rfl) (fun _ _ d _ _ h => by cases d <;> exact h) (by exact hNS) (by kernel_rfl) ?_ (fun K hK => ?_); rotate_left; (· (intro w' hSw; (try dsimp only at hSw); go_simp; with_reducible rfl)); simp only [Act.put, List.setIfInBounds_toArray, List.set_cons_zero, List.set_cons_succ]; refine hK _ ?_; clear hK K
  clear hNS
  refine nw_end (by kernel_rfl) ?_
  have H7 := H.out.below B7.out
  have hB7 : B ≤ w7.heap.size := Nat.le_trans hB B7.out.size
  have HU := Lib.hid (rused_any w7 col B c p dp R (k : Int) ⟨L, H7⟩ HHN.out hB7)
  unfold ptr at HU
  clear H7 e5 e7 e8 hk0' hz0 HR
  go_wp2_with fail
  refine HU.out.mono ?_
  rintro e w8 ⟨rfl, col8, t8, L8, h8⟩
  obtain ⟨h9, t9⟩ := h8.askedSet few
  obtain ⟨w9, hw9⟩ : ∃ w9, w8.setCell ⟨p, 7, none⟩ (.int .i64 ((R.asked : Int) + 1)) = w9 := ⟨_, rfl⟩
  have hw9' : w8.setCell ⟨p, 7, none⟩ (.int .i64 (((R.used k).asked : Int) + 1)) = w9 := hw9
  rw [hw9'] at h9 t9
  have f8 : w8.cell? ⟨p, 7, none⟩ = some (.int .i64 R.asked) := h8.s.blk.cell 7
  have z8 : w8.frozen? ⟨p, 7, none⟩ = false := h8.s.blk.frozen 7
  have f9 : w9.cell? ⟨p, 0, none⟩ = some (.pointer (some ⟨dp, 0, none⟩)) := h9.s.blk.cell 0
  have HD := rdread_any w9 col8 B (c + 4) dp R.d (k : Int) h9.d
  have hdh : R.d.has (k : Int) = true := by unfold RD.has; rw [H.out.dn]; exact HHN.out
  rw [show R.d.readE (k : Int) = 0 by rw [RD.readE, if_pos hdh], show R.d.readB (k : Int) = R.d.get k by rw [RD.readB, if_pos hdh]] at HD
  have HD := Lib.hid HD
  have H9 := Lib.hid h9
  have T9 := Lib.hid (((Tch.of_below (lo := c) (hi := c + 7) B7.out).trans (t8.mono (by omega) (by omega))).trans (t9.mono (by omega) (by omega)))
  have HW9 := Lib.hid hw9
  have hBw9 : w.heap.size ≤ w9.heap.size := T9.out.size
  clear t8 h8 h9 t9 hw9 hw9' hdh HU
  unfold ptr at HD
  go_wp2_with (first | rw [HW9.out] | fail)
  refine HD.out.mono ?_
  rintro e wz ⟨vz, rfl, hbz, hoz⟩
  have F1 := Lib.hid (T9.out.trans (Tch.of_below hbz))
  have F2 := Lib.hid (H9.out.below hbz)
  have F3 := Lib.hid (show Row wz col8 w.heap.size 0 5 1 vz (R.d.get k).length (bvl (R.d.get k)) from ⟨own_mono hoz hBw9, fun g e => T9.out.tidy HT0.out g (hoz.lt g e).1⟩)
  clear hoz hbz HD
  go_wp2_with fail
  go_ret2
  exact ⟨vz, col8, rfl, F1.out, ⟨_, F2.out⟩, F3.out⟩
theorem rread_all (w : World) (col : Col) (B c p dp : Nat) (R : RS) (n : Int) (h : RStoreAt w col B c p dp R) (hB : B ≤ w.heap.size) (ht0 : ∀ b, w.heap.size ≤ b → col b = 0) (few : R.st.length + R.found + R.asked + 1 ≤ 1000000000) :
    Calls Try.prog 53 #[ptr p, .int .i64 n] w fun e w' => RRead w col B c p dp (R.readS n) (R.readB n) (R.readE n) e w' := by
  cases hn : R.has n with
  | false => exact rread_no w col B c p dp R n h hn
  | true =>
    have hn2 : 0 ≤ n ∧ n < (R.n : Int) := of_decide_eq_true hn
    obtain ⟨k, rfl⟩ := Int.eq_ofNat_of_zero_le hn2.1
    unfold RS.readS RS.readB RS.readE
    rw [if_pos hn, if_pos hn, if_pos hn]
    unfold RS.get
    cases hg : R.now.1 (k : Int) with
    | some bs => exact rread_now w col B c p dp R k bs h hn hg hB ht0 few
    | none =>
      cases hw : R.wait (k : Int) with
      | some bs => exact rread_wait w col B c p dp R k bs h hn hg hw hB ht0 few
      | none =>
        simp only
        cases hc : (R.cache (R.of (k : Int))).contains (k : Int) with
        | true => rw [if_pos rfl]; exact rread_hit w col B c p dp R k h hn hg hw hc hB ht0 few
        | false => rw [if_neg (by decide)]; exact rread_miss w col B c p dp R k h hn hg hw hc hB ht0 few
end Go.Proofs.Ytomoliickggghaa.Mem
