
/-
  layer 6's document (hayrickref06): New.
  layer 6's document (hayrickref06): the calls, whatever is asked.
  layer 6, plain: the store and the document's store answer alike.
  layer 6's law StorePlays: two stores side by side; spoil.
-/
import Derived.Test.YtomoliickggghaaKR6N13
import Derived.Test.YtomoliickggghaaKR6N10
namespace Go.Proofs.Ytomoliickggghaa
open Go.RowKit
section
variable {P : Program} {ops : Array Oper} {md : Region.Mode} {Q : Exit → Act → World → Prop} {S : World → Prop} {need : Nat → Bool}
/-- One that may come up next is carried out. -/
def NAlt (P : Program) (md : Region.Mode) (ops : Array Oper) (Q : Exit → Act → World → Prop) (S : World → Prop) (need : Nat → Bool) (fuel : Nat) (listed : Array Bool) (a : Act) (w : World) (i : Nat) : Prop :=
  ∃ oi, ops[i]? = some oi ∧ ∀ K : Act → World → Prop, Hid (∀ a' w', (need i = true → S w') → NW P md ops Q S need fuel (listed.setIfInBounds i true) a' w' → K a' w') →
      if Region.wanted oi (yielded ops a.tmps) = true then oi.wp P a w K Q else K (a.put oi.dst undef) w
theorem nalt {i fuel : Nat} {oi : Oper} {E : Prop} {listed : Array Bool} {a : Act} {w : World} (hi : ops[i]? = some oi)
    (h : ∀ K : Act → World → Prop, Hid (∀ a' w', (need i = true → S w') → NW P md ops Q S need fuel (listed.setIfInBounds i true) a' w' → K a' w') →
      if Region.wanted oi (yielded ops a.tmps) = true then oi.wp P a w K Q else E) (hw : Region.wanted oi (yielded ops a.tmps) = true) : NAlt P md ops Q S need fuel listed a w i :=
  ⟨oi, hi, fun K hK => by have := h K hK; rw [if_pos hw] at this ⊢; exact this⟩
theorem nw_alts {rs : List Nat} {fuel : Nat} {listed : Array Bool} {a : Act} {w : World} (hr : Region.ready md ops listed = rs) (hne : rs ≠ []) (h : ∀ i ∈ rs, NAlt P md ops Q S need fuel listed a w i) : NW P md ops Q S need (fuel + 1) listed a w :=
  nw_branch hr hne h
end
end Go.Proofs.Ytomoliickggghaa
namespace Go.Proofs.Ytomoliickggghaa.Mem
open Go.RowKit Go.Proofs.Ytomoliickggghaa Go.Proofs.Ytomoliickggghaa.Wire
set_option maxHeartbeats 16000000
set_option maxRecDepth 100000
set_option linter.unusedVariables false
set_option linter.unusedSimpArgs false

theorem rnew_no (w : World) (col : Col) (B c p : Nat) (d : RD) (sh rm : Int) (h : RDiskAt w col B c p d) (hd : 1 ≤ d.l.length) (hb : sh < 1 ∨ 16 < sh ∨ rm < 1 ∨ 256 < rm) :
    Calls Try.prog 32 #[ptr p, .int .i64 sh, .int .i64 rm] w fun e w' => e = .returned (.tuple #[.pointer none, .int .i64 22]) ∧ w = w' := by
  obtain ⟨vl, vp, vs, h1, h2, _⟩ := h.ex
  have hN := h.n
  obtain ⟨gl, cl, _, hvl, _⟩ := own_form h2.own hd
  have c0 : w.cell? ⟨p, 0, none⟩ = some (.slice (some ⟨gl, 0, none⟩) d.l.length cl) := by rw [← hvl]; exact h1.blk.cell 0
  have hq : (((d.l.length : Nat) : Int) == 0) = false := by rw [beq_eq_false_iff_ne]; omega
  clear h h1 h2 hvl
  generalize d.l.length = N at *
  unfold ptr at *
  by_cases k1 : sh < 1
  · clear hb
    go_enter Try.func32, Try.ntmps32
    go_wp2_with fail
    go_ret2
    exact ⟨rfl, rfl⟩
  by_cases k2 : 16 < sh
  · clear hb
    go_enter Try.func32, Try.ntmps32
    go_wp2_with fail
    go_ret2
    exact ⟨rfl, rfl⟩
  by_cases k3 : rm < 1
  · clear hb
    go_enter Try.func32, Try.ntmps32
    go_wp2_with fail
    go_ret2
    exact ⟨rfl, rfl⟩
  have k4 : 256 < rm := by omega
  clear hb
  go_enter Try.func32, Try.ntmps32
  go_wp2_with fail
  go_ret2
  exact ⟨rfl, rfl⟩
theorem infoLists : (Try.prog.info? 42).map (fun i => (i.zero, i.size, i.bytes)) = some (some (.slice none 0 0), 1, 24) := by kernel_rfl
theorem make_lists (N : Nat) (hN : N ≤ 1048576) (w : World) :
    (Instr.makeSlice 72 (.int .i64 (N : Int)) (.int .i64 (N : Int))).run Try.prog w = .ok (.slice (some ⟨w.heap.size, 0, none⟩) N N) (w.alloc (.cells (nils N) 42)) := by
  obtain ⟨i0, hi, hz0, hz1, hz2⟩ := info_parts infoLists
  have := run_make (P := Try.prog) w 72 42 i0 (.slice none 0 0) Try.underlying72 hi hz0 .i64 .i64 N N (by omega) (by omega) (by rw [hz2]; omega) (by omega)
  rw [hz1, Nat.mul_one, Int.toNat_natCast, made_nils] at this
  exact this
/-- What is made so far. -/
structure NewI (w0 : World) (col0 : Col) (B c N sh : Nat) (v4 v6 v8 v10 v12 : Option Value) (w : World) : Prop where
  ex : ∃ col, Tch c (c + 4) col0 col w0 w ∧ (∀ v, v4 = some v → OptRow w col B 1 v N (fun _ => none)) ∧ (∀ v, v6 = some v → Row w col B 1 4 1 v N (bools (fun _ => false) N)) ∧
    (∀ v a b, v8 = some v → v4 = some a → v6 = some b → Row w col B (c + 1) 96 2 v 1 [a, b]) ∧ (∀ v, v10 = some v → OptRow w col B (c + 2) v N (fun _ => none)) ∧
    (∀ v, v12 = some v → Row w col B (c + 3) 42 1 v sh (List.replicate sh (.slice none 0 0)))
section
variable {w0 w w' : World} {col0 : Col} {B c N sh g : Nat} {v4 v6 v8 v10 v12 : Option Value}
theorem new_paint {w w' : World} {col : Col} {g r lo hi : Nat} {o : Obj} (hw : w.alloc o = w') (hg : w.heap.size = g) (hr : r < 16 ∨ (lo ≤ r ∧ r < hi)) : Tch lo hi col (paint col g r) w w' := by
  rw [← hw]
  exact ((Tch.refl _ _ _ _).alloc _).paint (by omega) (by simp; omega) hr
theorem NewI.a4 (h : NewI w0 col0 B c N sh none v6 none v10 v12 w) (hc : 16 ≤ c) (hN : N ≤ 4096) (hB : B ≤ w0.heap.size) (hw : w.alloc (.cells (nils N) 34) = w') (hg : w.heap.size = g) :
    NewI w0 col0 B c N sh (some (.slice (some ⟨g, 0, none⟩) N N)) v6 none v10 v12 w' := by
  obtain ⟨col, ht, h4, h6, h8, h10, h12⟩ := h.ex
  have t : Tch 16 16 col (paint col g 1) w w' := new_paint hw hg (by omega)
  refine ⟨_, ht.trans (t.any (Nat.le_refl _)), fun v e => ?_, fun v e => (h6 v e).keep t (by omega), fun v a b e => by (cases e), fun v e => (h10 v e).keep t (by omega) (by omega), fun v e => (h12 v e).keep t (by omega)⟩
  injection e with e
  subst e
  have := OptRow.fresh0 (col := paint col g 1) (B := B) (Nat.le_trans hB ht.size) (by omega) hw (r := 1) (by rw [hg]; exact paint_self _ _ _)
  rw [hg] at this
  exact this
theorem NewI.a6 (h : NewI w0 col0 B c N sh v4 none none v10 v12 w) (hc : 16 ≤ c) (hN : N ≤ 4096) (hB : B ≤ w0.heap.size) (hw : w.alloc (.cells (falses N) 4) = w') (hg : w.heap.size = g) :
    NewI w0 col0 B c N sh v4 (some (.slice (some ⟨g, 0, none⟩) N N)) none v10 v12 w' := by
  obtain ⟨col, ht, h4, h6, h8, h10, h12⟩ := h.ex
  have t : Tch 16 16 col (paint col g 1) w w' := new_paint hw hg (by omega)
  refine ⟨_, ht.trans (t.any (Nat.le_refl _)), fun v e => (h4 v e).keep t (by omega) (by omega), fun v e => ?_, fun v a b e => by (cases e), fun v e => (h10 v e).keep t (by omega) (by omega), fun v e => (h12 v e).keep t (by omega)⟩
  injection e with e
  subst e
  have := World.ownsRow_lit (base := B) (e := 4) (size := 1) w (falses N) N (Nat.le_trans hB ht.size) (by unfold maxLen; omega) (by simp [falses])
  rw [hw, hg] at this
  exact ⟨by rw [bools_false]; exact this, fun g e => by injection e with e; subst e; exact paint_self _ _ _⟩
theorem NewI.a8 {g4 g6 n4 n6 c4 c6 : Nat} (h : NewI w0 col0 B c N sh (some (.slice (some ⟨g4, 0, none⟩) n4 c4)) (some (.slice (some ⟨g6, 0, none⟩) n6 c6)) none v10 v12 w) (hc : 16 ≤ c) (hN : N ≤ 4096) (hB : B ≤ w0.heap.size)
    (hw : w.alloc (.cells #[.slice (some ⟨g4, 0, none⟩) n4 c4, .slice (some ⟨g6, 0, none⟩) n6 c6] 96) = w') (hg : w.heap.size = g) :
    NewI w0 col0 B c N sh (some (.slice (some ⟨g4, 0, none⟩) n4 c4)) (some (.slice (some ⟨g6, 0, none⟩) n6 c6)) (some (.slice (some ⟨g, 0, none⟩) 1 1)) v10 v12 w' := by
  obtain ⟨col, ht, h4, h6, h8, h10, h12⟩ := h.ex
  have t : Tch (c + 1) (c + 2) col (paint col g (c + 1)) w w' := new_paint hw hg (by omega)
  refine ⟨_, ht.trans (t.mono (by omega) (by omega)), fun v e => (h4 v e).keep t (by omega) (by omega), fun v e => (h6 v e).keep t (by omega), fun v a b e e2 e3 => ?_, fun v e => (h10 v e).keep t (by omega) (by omega), fun v e => (h12 v e).keep t (by omega)⟩
  injection e with e
  injection e2 with e2
  injection e3 with e3
  subst e e2 e3
  have := lit_ownN w 96 2 [.slice (some ⟨g4, 0, none⟩) n4 c4, .slice (some ⟨g6, 0, none⟩) n6 c6] 1 rfl (by unfold maxLen; omega)
  rw [show ([Value.slice (some ⟨g4, 0, none⟩) n4 c4, Value.slice (some ⟨g6, 0, none⟩) n6 c6]).toArray = #[Value.slice (some ⟨g4, 0, none⟩) n4 c4, Value.slice (some ⟨g6, 0, none⟩) n6 c6] from rfl, hw, hg] at this
  exact ⟨own_mono this (by have := ht.size; omega), fun g e => by injection e with e; subst e; exact paint_self _ _ _⟩
theorem NewI.a10 (h : NewI w0 col0 B c N sh v4 v6 v8 none v12 w) (hc : 16 ≤ c) (hN : N ≤ 4096) (hB : B ≤ w0.heap.size) (hw : w.alloc (.cells (nils N) 34) = w') (hg : w.heap.size = g) :
    NewI w0 col0 B c N sh v4 v6 v8 (some (.slice (some ⟨g, 0, none⟩) N N)) v12 w' := by
  obtain ⟨col, ht, h4, h6, h8, h10, h12⟩ := h.ex
  have t : Tch (c + 2) (c + 3) col (paint col g (c + 2)) w w' := new_paint hw hg (by omega)
  refine ⟨_, ht.trans (t.mono (by omega) (by omega)), fun v e => (h4 v e).keep t (by omega) (by omega), fun v e => (h6 v e).keep t (by omega), fun v a b e e2 e3 => (h8 v a b e e2 e3).keep t (by omega), fun v e => ?_, fun v e => (h12 v e).keep t (by omega)⟩
  injection e with e
  subst e
  have := OptRow.fresh0 (col := paint col g (c + 2)) (B := B) (Nat.le_trans hB ht.size) (by omega) hw (r := c + 2) (by rw [hg]; exact paint_self _ _ _)
  rw [hg] at this
  exact this
theorem NewI.a12 (h : NewI w0 col0 B c N sh v4 v6 v8 v10 none w) (hc : 16 ≤ c) (hs : sh ≤ 16) (hB : B ≤ w0.heap.size) (hw : w.alloc (.cells (nils sh) 42) = w') (hg : w.heap.size = g) :
    NewI w0 col0 B c N sh v4 v6 v8 v10 (some (.slice (some ⟨g, 0, none⟩) sh sh)) w' := by
  obtain ⟨col, ht, h4, h6, h8, h10, h12⟩ := h.ex
  have t : Tch (c + 3) (c + 4) col (paint col g (c + 3)) w w' := new_paint hw hg (by omega)
  refine ⟨_, ht.trans (t.mono (by omega) (by omega)), fun v e => (h4 v e).keep t (by omega) (by omega), fun v e => (h6 v e).keep t (by omega), fun v a b e e2 e3 => (h8 v a b e e2 e3).keep t (by omega), fun v e => (h10 v e).keep t (by omega) (by omega), fun v e => ?_⟩
  injection e with e
  subst e
  have hl : (List.replicate sh (Value.slice none 0 0)).length = sh := by simp
  have := lit_ownN w 42 1 (List.replicate sh (Value.slice none 0 0)) sh (by rw [hl, Nat.mul_one]) (by unfold maxLen; omega)
  rw [show (List.replicate sh (Value.slice none 0 0)).toArray = nils sh from rfl, hw, hg] at this
  exact ⟨own_mono this (by have := ht.size; omega), fun g e => by injection e with e; subst e; exact paint_self _ _ _⟩
end
def RS.fresh (d : RD) (N sh rm : Nat) : RS := { n := N, room := rm, st := [((fun _ => none), fun _ => false)], wait := fun _ => none, ca := List.replicate sh [], found := 0, asked := 0, d := d }
def RNew (w : World) (col : Col) (B c dp : Nat) (R : RS) (e : Ending) (w' : World) : Prop := ∃ p col', e = .returned (.tuple #[ptr p, .int .i64 0]) ∧ Tch c (c + 7) col col' w w' ∧ RStoreAt w' col' B c p dp R ∧ w.heap.size ≤ p
theorem NewI.fin {w0 w w' : World} {col0 : Col} {B c N sh rm g dp : Nat} {v4 v6 v8 v10 v12 : Value} {d : RD} (h : NewI w0 col0 B c N sh (some v4) (some v6) (some v8) (some v10) (some v12) w) (hc : 16 ≤ c) (hB : B ≤ w0.heap.size) (hd : RDiskAt w0 col0 B (c + 4) dp d) (hdn : d.l.length = N)
    (hs1 : 1 ≤ sh) (hs2 : sh ≤ 16) (hr1 : 1 ≤ rm) (hr2 : rm ≤ 256) (hw : w.alloc (.cells #[ptr dp, .int .i64 N, .int .i64 rm, v8, v10, v12, .int .i64 0, .int .i64 0] 74) = w') (hg : w.heap.size = g) :
    ∃ col', Tch c (c + 7) col0 col' w0 w' ∧ RStoreAt w' col' B c g dp (RS.fresh d N sh rm) ∧ w0.heap.size ≤ g := by
  obtain ⟨col, ht, h4, h6, h8, h10, h12⟩ := h.ex
  have t : Tch c (c + 1) col (paint col g c) w w' := new_paint hw hg (by omega)
  have hsz := ht.size
  refine ⟨_, (ht.trans (t.mono (by omega) (by omega))).mono (by omega) (by omega), ⟨⟨v8, [(v4, v6)], v10, v12, List.replicate sh (.slice none 0 0)⟩, ⟨⟨?_, paint_self _ _ _, by omega⟩, (h8 v8 v4 v6 rfl rfl rfl).keep t (by omega), rfl, fun i x y h1 h2 => ?_, (h10 v10 rfl).keep t (by omega) (by omega), ?_, fun i v l h1 h2 => ?_,
    ((hd.keep ht (by omega) (by omega)).keep t (by omega) (by omega)), hdn, hc, Nat.le_refl _, by show 1 ≤ (List.replicate sh ([] : List Int)).length ∧ (List.replicate sh ([] : List Int)).length ≤ 16; rw [List.length_replicate]; omega, fun l hl => ?_, ⟨hr1, hr2⟩, by show 1 + 0 + 0 ≤ 1000000000; omega⟩⟩, by omega⟩
  · rw [← hw, ← hg]; exact Blk.new _ _ _
  · cases i with
    | zero =>
      injection h1 with h1
      injection h2 with h2
      subst h1 h2
      exact ⟨(h4 v4 rfl).keep t (by omega) (by omega), (h6 v6 rfl).keep t (by omega)⟩
    | succ i => cases h1
  · show Row _ _ B (c + 3) 42 1 v12 (List.replicate sh ([] : List Int)).length _
    rw [List.length_replicate]
    exact (h12 v12 rfl).keep t (by omega)
  · obtain ⟨_, rfl⟩ := replicate_get h1
    obtain ⟨_, rfl⟩ := replicate_get (show (List.replicate sh ([] : List Int))[i]? = some l from h2)
    exact Row.nil _ _ _ _ _ _
  · have hl2 : l ∈ List.replicate sh ([] : List Int) := hl
    rw [List.eq_of_mem_replicate hl2]; simp
theorem rnew_any (w : World) (col : Col) (B c dp sh rm : Nat) (d : RD) (h : RDiskAt w col B (c + 4) dp d) (hc : 16 ≤ c) (hd : 1 ≤ d.l.length) (hB : B ≤ w.heap.size) (hs1 : 1 ≤ sh) (hs2 : sh ≤ 16) (hr1 : 1 ≤ rm) (hr2 : rm ≤ 256) :
    Calls Try.prog 32 #[ptr dp, .int .i64 sh, .int .i64 rm] w fun e w' => RNew w col B c dp (RS.fresh d d.l.length sh rm) e w' := by
  obtain ⟨vl, vp, vs, h1, h2, _⟩ := h.ex
  have hN := h.n
  obtain ⟨gl, cl, _, hvl, _⟩ := own_form h2.own hd
  have c0 : w.cell? ⟨dp, 0, none⟩ = some (.slice (some ⟨gl, 0, none⟩) d.l.length cl) := by rw [← hvl]; exact h1.blk.cell 0
  have hq : (((d.l.length : Nat) : Int) == 0) = false := by rw [beq_eq_false_iff_ne]; omega
  have H := Lib.hid h
  obtain ⟨N, hNe⟩ : ∃ N, d.l.length = N := ⟨_, rfl⟩
  have HDN := Lib.hid hNe
  rw [hNe] at c0 hq hN hd ⊢
  have k1 : ¬ (sh : Int) < 1 := by omega
  have k2 : ¬ (16 : Int) < (sh : Int) := by omega
  have k3 : ¬ (rm : Int) < 1 := by omega
  have k4 : ¬ (256 : Int) < (rm : Int) := by omega
  have hm1 := make_rows N (by omega)
  have hm2 := make_falses N (by omega)
  have hm3 := make_lists sh (by omega)
  obtain ⟨w0, hw0⟩ : ∃ w0, w.drew = w0 := ⟨_, rfl⟩
  have t0 : Tch c (c + 7) col col w w0 := by rw [← hw0]; exact (Tch.refl _ _ _ _).drew
  have H0 := Lib.hid (show RDiskAt w0 col B (c + 4) dp d by rw [← hw0]; exact h.keep (lo := 16) (hi := 16) ((Tch.refl _ _ _ _).drew) (by omega) (by omega))
  have hB0 : B ≤ w0.heap.size := Nat.le_trans hB t0.size
  have T0 := Lib.hid t0
  have HW0 := Lib.hid hw0
  have I0 := Lib.hid (show NewI w0 col B c N sh none none none none none w0 from ⟨col, Tch.refl _ _ _ _, fun v e => by (cases e), fun v e => by (cases e), fun v a b e => by (cases e), fun v e => by (cases e), fun v e => by (cases e)⟩)
  have FINE := Lib.hid (show ∀ (v8 v10 v12 : Value) (v4 v6 : Value) (w5 w6 : World) (g : Nat), NewI w0 col B c N sh (some v4) (some v6) (some v8) (some v10) (some v12) w5 → w5.alloc (.cells #[ptr dp, .int .i64 N, .int .i64 rm, v8, v10, v12, .int .i64 0, .int .i64 0] 74) = w6 → w5.heap.size = g → RNew w col B c dp (RS.fresh d N sh rm) (.returned (.tuple #[ptr g, .int .i64 0])) w6 from fun v8 v10 v12 v4 v6 w5 w6 g hi hw hg => by
    obtain ⟨col', q1, q2, q3⟩ := hi.fin hc hB0 H0.out HDN.out hs1 hs2 hr1 hr2 hw hg
    exact ⟨g, col', rfl, T0.out.trans q1, q2, Nat.le_trans T0.out.size q3⟩)
  clear h h1 h2 hvl hNe hw0 t0 H H0 T0 HDN
  unfold ptr at *
  go_enter Try.func32, Try.ntmps32
  go_upto_region 4 with fail
  have hNS : True := trivial
  refine region_need_at (v := w0) (fun _ => True) (fun _ => true) HW0.out (by kernel_rfl) ?_
  refine nw_take (i := 0) (v := ?_) rfl (by kernel_rfl) (by kernel_rfl) (fun _ _ d _ _ h => by cases d <;> exact h) (by exact hNS) (by kernel_rfl) ?_ (fun K hK => ?_); rotate_left; (· (intro w' hSw; (try dsimp only at hSw); go_simp; with_reducible rfl)); simp only [Act.put, List.setIfInBounds_toArray, List.set_cons_zero, List.set_cons_succ]; refine hK _ ?_; clear hK K
  refine nw_take (i := 1) (v := ?_) rfl (by kernel_rfl) (by kernel_rfl) (fun _ _ d _ _ h => by cases d <;> exact h) (by exact hNS) (by kernel_rfl) ?_ (fun K hK => ?_); rotate_left; (· (intro w' hSw; (try dsimp only at hSw); go_simp; with_reducible rfl)); simp only [Act.put, List.setIfInBounds_toArray, List.set_cons_zero, List.set_cons_succ]; refine hK _ ?_; clear hK K
  refine nw_take (i := 2) (v := ?_) rfl (by kernel_rfl) (by kernel_rfl) (fun _ _ d _ _ h => by cases d <;> exact h) (by exact hNS) (by kernel_rfl) ?_ (fun K hK => ?_); rotate_left; (· (intro w' hSw; (try dsimp only at hSw); go_simp; with_reducible rfl)); simp only [Act.put, List.setIfInBounds_toArray, List.set_cons_zero, List.set_cons_succ]; refine hK _ ?_; clear hK K
  refine nw_take (i := 3) (v := ?_) rfl (by kernel_rfl) (by kernel_rfl) (fun _ _ d _ _ h => by cases d <;> exact h) (by exact hNS) (by kernel_rfl) ?_ (fun K hK => ?_); rotate_left; (· (intro w' hSw; (try dsimp only at hSw); go_simp; with_reducible rfl)); simp only [Act.put, List.setIfInBounds_toArray, List.set_cons_zero, List.set_cons_succ]; refine hK _ ?_; clear hK K
  refine nw_take (i := 5) (v := ?_) rfl (by kernel_rfl) (by kernel_rfl) (fun _ _ d _ _ h => by cases d <;> exact h) (by exact hNS) (by kernel_rfl) ?_ (fun K hK => ?_); rotate_left; (· (intro w' hSw; (try dsimp only at hSw); go_simp; with_reducible rfl)); simp only [Act.put, List.setIfInBounds_toArray, List.set_cons_zero, List.set_cons_succ]; refine hK _ ?_; clear hK K
  refine nw_take (i := 9) (v := ?_) rfl (by kernel_rfl) (by kernel_rfl) (fun _ _ d _ _ h => by cases d <;> exact h) (by exact hNS) (by kernel_rfl) ?_ (fun K hK => ?_); rotate_left; (· (intro w' hSw; (try dsimp only at hSw); go_simp; with_reducible rfl)); simp only [Act.put, List.setIfInBounds_toArray, List.set_cons_zero, List.set_cons_succ]; refine hK _ ?_; clear hK K
  refine nw_take (i := 11) (v := ?_) rfl (by kernel_rfl) (by kernel_rfl) (fun _ _ d _ _ h => by cases d <;> exact h) (by exact hNS) (by kernel_rfl) ?_ (fun K hK => ?_); rotate_left; (· (intro w' hSw; (try dsimp only at hSw); go_simp; with_reducible rfl)); simp only [Act.put, List.setIfInBounds_toArray, List.set_cons_zero, List.set_cons_succ]; refine hK _ ?_; clear hK K
  clear HW0 c0 hq
  refine nw_alts (rs := [4, 6, 10, 12]) (by kernel_rfl) (by simp) (List.forall_mem_cons.2 ⟨nalt (E := False) rfl (fun K hK => ?_) (by kernel_rfl), List.forall_mem_cons.2 ⟨nalt (E := False) rfl (fun K hK => ?_) (by kernel_rfl), List.forall_mem_cons.2 ⟨nalt (E := False) rfl (fun K hK => ?_) (by kernel_rfl), List.forall_mem_cons.2 ⟨nalt (E := False) rfl (fun K hK => ?_) (by kernel_rfl), fun _ h => absurd h (by simp)⟩⟩⟩⟩)
  · go_simp
    obtain ⟨w1, hw⟩ : ∃ x, w0.alloc (.cells (nils N) 34) = x := ⟨_, rfl⟩
    obtain ⟨g4, hg⟩ : ∃ x, w0.heap.size = x := ⟨_, rfl⟩
    have I1 := Lib.hid (I0.out.a4 hc (by omega) hB0 hw hg)
    rw [hw, hg]
    clear hw hg I0
    refine hK.out _ _ ((fun _ => trivial)) ?_
    clear hK K
    try simp only [Act.put, List.setIfInBounds_toArray, List.set_cons_zero, List.set_cons_succ]
    refine nw_alts (rs := [6, 10, 12]) (by kernel_rfl) (by simp) (List.forall_mem_cons.2 ⟨nalt (E := False) rfl (fun K hK => ?_) (by kernel_rfl), List.forall_mem_cons.2 ⟨nalt (E := False) rfl (fun K hK => ?_) (by kernel_rfl), List.forall_mem_cons.2 ⟨nalt (E := False) rfl (fun K hK => ?_) (by kernel_rfl), fun _ h => absurd h (by simp)⟩⟩⟩)
    · go_simp
      obtain ⟨w2, hw⟩ : ∃ x, w1.alloc (.cells (falses N) 4) = x := ⟨_, rfl⟩
      obtain ⟨g6, hg⟩ : ∃ x, w1.heap.size = x := ⟨_, rfl⟩
      have I2 := Lib.hid (I1.out.a6 hc (by omega) hB0 hw hg)
      rw [hw, hg]
      clear hw hg I1
      refine hK.out _ _ ((fun _ => trivial)) ?_
      clear hK K
      try simp only [Act.put, List.setIfInBounds_toArray, List.set_cons_zero, List.set_cons_succ]
      refine nw_take (i := 7) (v := ?_) rfl (by kernel_rfl) (by kernel_rfl) (fun _ _ d _ _ h => by cases d <;> exact h) (by exact hNS) (by kernel_rfl) ?_ (fun K hK => ?_); rotate_left; (· (intro w' hSw; (try dsimp only at hSw); go_simp; with_reducible rfl)); simp only [Act.put, List.setIfInBounds_toArray, List.set_cons_zero, List.set_cons_succ]; refine hK _ ?_; clear hK K
      refine nw_alts (rs := [8, 10, 12]) (by kernel_rfl) (by simp) (List.forall_mem_cons.2 ⟨nalt (E := False) rfl (fun K hK => ?_) (by kernel_rfl), List.forall_mem_cons.2 ⟨nalt (E := False) rfl (fun K hK => ?_) (by kernel_rfl), List.forall_mem_cons.2 ⟨nalt (E := False) rfl (fun K hK => ?_) (by kernel_rfl), fun _ h => absurd h (by simp)⟩⟩⟩)
      · go_simp
        obtain ⟨w3, hw⟩ : ∃ x, w2.alloc (.cells #[.slice (some ⟨g4, 0, none⟩) N N, .slice (some ⟨g6, 0, none⟩) N N] 96) = x := ⟨_, rfl⟩
        obtain ⟨g8, hg⟩ : ∃ x, w2.heap.size = x := ⟨_, rfl⟩
        have I3 := Lib.hid (I2.out.a8 hc (by omega) hB0 hw hg)
        rw [hw, hg]
        clear hw hg I2
        refine hK.out _ _ ((fun _ => trivial)) ?_
        clear hK K
        try simp only [Act.put, List.setIfInBounds_toArray, List.set_cons_zero, List.set_cons_succ]
        refine nw_alts (rs := [10, 12]) (by kernel_rfl) (by simp) (List.forall_mem_cons.2 ⟨nalt (E := False) rfl (fun K hK => ?_) (by kernel_rfl), List.forall_mem_cons.2 ⟨nalt (E := False) rfl (fun K hK => ?_) (by kernel_rfl), fun _ h => absurd h (by simp)⟩⟩)
        · go_simp
          obtain ⟨w4, hw⟩ : ∃ x, w3.alloc (.cells (nils N) 34) = x := ⟨_, rfl⟩
          obtain ⟨g10, hg⟩ : ∃ x, w3.heap.size = x := ⟨_, rfl⟩
          have I4 := Lib.hid (I3.out.a10 hc (by omega) hB0 hw hg)
          rw [hw, hg]
          clear hw hg I3
          refine hK.out _ _ ((fun _ => trivial)) ?_
          clear hK K
          try simp only [Act.put, List.setIfInBounds_toArray, List.set_cons_zero, List.set_cons_succ]
          refine nw_one (i := 12) (E := False) rfl (by kernel_rfl) (fun K hK => ?_) (by kernel_rfl)
          go_simp
          obtain ⟨w5, hw⟩ : ∃ x, w4.alloc (.cells (nils sh) 42) = x := ⟨_, rfl⟩
          obtain ⟨g12, hg⟩ : ∃ x, w4.heap.size = x := ⟨_, rfl⟩
          have I5 := Lib.hid (I4.out.a12 hc (by omega) hB0 hw hg)
          rw [hw, hg]
          clear hw hg I4
          refine hK.out _ _ ((fun _ => trivial)) ?_
          clear hK K
          try simp only [Act.put, List.setIfInBounds_toArray, List.set_cons_zero, List.set_cons_succ]
          refine nw_take (i := 13) (v := ?_) rfl (by kernel_rfl) (by kernel_rfl) (fun _ _ d _ _ h => by cases d <;> exact h) (by exact hNS) (by kernel_rfl) ?_ (fun K hK => ?_); rotate_left; (· (intro w' hSw; (try dsimp only at hSw); go_simp; with_reducible rfl)); simp only [Act.put, List.setIfInBounds_toArray, List.set_cons_zero, List.set_cons_succ]; refine hK _ ?_; clear hK K
          refine nw_one (i := 14) (E := False) rfl (by kernel_rfl) (fun K hK => ?_) (by kernel_rfl)
          go_simp
          obtain ⟨wf, hwf⟩ : ∃ x, w5.alloc (.cells #[.pointer (some ⟨dp, 0, none⟩), .int .i64 N, .int .i64 rm, .slice (some ⟨g8, 0, none⟩) 1 1, .slice (some ⟨g10, 0, none⟩) N N, .slice (some ⟨g12, 0, none⟩) sh sh, .int .i64 0, .int .i64 0] 74) = x := ⟨_, rfl⟩
          obtain ⟨pf, hpf⟩ : ∃ x, w5.heap.size = x := ⟨_, rfl⟩
          have FIN := Lib.hid (FINE.out _ _ _ _ _ _ _ _ I5.out hwf hpf)
          rw [hwf, hpf]
          clear hwf hpf I5 FINE
          refine hK.out _ _ ((fun _ => trivial)) ?_
          clear hK K
          try simp only [Act.put, List.setIfInBounds_toArray, List.set_cons_zero, List.set_cons_succ]
          refine nw_one (i := 15) (E := False) rfl (by kernel_rfl) (fun K hK => ?_) (by kernel_rfl)
          go_simp
          refine hK.out _ _ ((fun _ => trivial)) ?_
          clear hK K
          try simp only [Act.put, List.setIfInBounds_toArray, List.set_cons_zero, List.set_cons_succ]
          refine nw_one (i := 16) (E := False) rfl (by kernel_rfl) (fun K hK => ?_) (by kernel_rfl)
          go_simp
          refine hK.out _ _ ((fun _ => trivial)) ?_
          clear hK K
          try simp only [Act.put, List.setIfInBounds_toArray, List.set_cons_zero, List.set_cons_succ]
          refine nw_end (by kernel_rfl) ?_
          go_wp2_with fail
          go_ret2
          exact FIN.out
        · go_simp
          obtain ⟨w4, hw⟩ : ∃ x, w3.alloc (.cells (nils sh) 42) = x := ⟨_, rfl⟩
          obtain ⟨g12, hg⟩ : ∃ x, w3.heap.size = x := ⟨_, rfl⟩
          have I4 := Lib.hid (I3.out.a12 hc (by omega) hB0 hw hg)
          rw [hw, hg]
          clear hw hg I3
          refine hK.out _ _ ((fun _ => trivial)) ?_
          clear hK K
          try simp only [Act.put, List.setIfInBounds_toArray, List.set_cons_zero, List.set_cons_succ]
          refine nw_one (i := 10) (E := False) rfl (by kernel_rfl) (fun K hK => ?_) (by kernel_rfl)
          go_simp
          obtain ⟨w5, hw⟩ : ∃ x, w4.alloc (.cells (nils N) 34) = x := ⟨_, rfl⟩
          obtain ⟨g10, hg⟩ : ∃ x, w4.heap.size = x := ⟨_, rfl⟩
          have I5 := Lib.hid (I4.out.a10 hc (by omega) hB0 hw hg)
          rw [hw, hg]
          clear hw hg I4
          refine hK.out _ _ ((fun _ => trivial)) ?_
          clear hK K
          try simp only [Act.put, List.setIfInBounds_toArray, List.set_cons_zero, List.set_cons_succ]
          refine nw_take (i := 13) (v := ?_) rfl (by kernel_rfl) (by kernel_rfl) (fun _ _ d _ _ h => by cases d <;> exact h) (by exact hNS) (by kernel_rfl) ?_ (fun K hK => ?_); rotate_left; (· (intro w' hSw; (try dsimp only at hSw); go_simp; with_reducible rfl)); simp only [Act.put, List.setIfInBounds_toArray, List.set_cons_zero, List.set_cons_succ]; refine hK _ ?_; clear hK K
          refine nw_one (i := 14) (E := False) rfl (by kernel_rfl) (fun K hK => ?_) (by kernel_rfl)
          go_simp
          obtain ⟨wf, hwf⟩ : ∃ x, w5.alloc (.cells #[.pointer (some ⟨dp, 0, none⟩), .int .i64 N, .int .i64 rm, .slice (some ⟨g8, 0, none⟩) 1 1, .slice (some ⟨g10, 0, none⟩) N N, .slice (some ⟨g12, 0, none⟩) sh sh, .int .i64 0, .int .i64 0] 74) = x := ⟨_, rfl⟩
          obtain ⟨pf, hpf⟩ : ∃ x, w5.heap.size = x := ⟨_, rfl⟩
          have FIN := Lib.hid (FINE.out _ _ _ _ _ _ _ _ I5.out hwf hpf)
          rw [hwf, hpf]
          clear hwf hpf I5 FINE
          refine hK.out _ _ ((fun _ => trivial)) ?_
          clear hK K
          try simp only [Act.put, List.setIfInBounds_toArray, List.set_cons_zero, List.set_cons_succ]
          refine nw_one (i := 15) (E := False) rfl (by kernel_rfl) (fun K hK => ?_) (by kernel_rfl)
          go_simp
          refine hK.out _ _ ((fun _ => trivial)) ?_
          clear hK K
          try simp only [Act.put, List.setIfInBounds_toArray, List.set_cons_zero, List.set_cons_succ]
          refine nw_one (i := 16) (E := False) rfl (by kernel_rfl) (fun K hK => ?_) (by kernel_rfl)
          go_simp
          refine hK.out _ _ ((fun _ => trivial)) ?_
          clear hK K
          try simp only [Act.put, List.setIfInBounds_toArray, List.set_cons_zero, List.set_cons_succ]
          refine nw_end (by kernel_rfl) ?_
          go_wp2_with fail
          go_ret2
          exact FIN.out
      · go_simp
        obtain ⟨w3, hw⟩ : ∃ x, w2.alloc (.cells (nils N) 34) = x := ⟨_, rfl⟩
        obtain ⟨g10, hg⟩ : ∃ x, w2.heap.size = x := ⟨_, rfl⟩
        have I3 := Lib.hid (I2.out.a10 hc (by omega) hB0 hw hg)
        rw [hw, hg]
        clear hw hg I2
        refine hK.out _ _ ((fun _ => trivial)) ?_
        clear hK K
        try simp only [Act.put, List.setIfInBounds_toArray, List.set_cons_zero, List.set_cons_succ]
        refine nw_alts (rs := [8, 12]) (by kernel_rfl) (by simp) (List.forall_mem_cons.2 ⟨nalt (E := False) rfl (fun K hK => ?_) (by kernel_rfl), List.forall_mem_cons.2 ⟨nalt (E := False) rfl (fun K hK => ?_) (by kernel_rfl), fun _ h => absurd h (by simp)⟩⟩)
        · go_simp
          obtain ⟨w4, hw⟩ : ∃ x, w3.alloc (.cells #[.slice (some ⟨g4, 0, none⟩) N N, .slice (some ⟨g6, 0, none⟩) N N] 96) = x := ⟨_, rfl⟩
          obtain ⟨g8, hg⟩ : ∃ x, w3.heap.size = x := ⟨_, rfl⟩
          have I4 := Lib.hid (I3.out.a8 hc (by omega) hB0 hw hg)
          rw [hw, hg]
          clear hw hg I3
          refine hK.out _ _ ((fun _ => trivial)) ?_
          clear hK K
          try simp only [Act.put, List.setIfInBounds_toArray, List.set_cons_zero, List.set_cons_succ]
          refine nw_one (i := 12) (E := False) rfl (by kernel_rfl) (fun K hK => ?_) (by kernel_rfl)
          go_simp
          obtain ⟨w5, hw⟩ : ∃ x, w4.alloc (.cells (nils sh) 42) = x := ⟨_, rfl⟩
          obtain ⟨g12, hg⟩ : ∃ x, w4.heap.size = x := ⟨_, rfl⟩
          have I5 := Lib.hid (I4.out.a12 hc (by omega) hB0 hw hg)
          rw [hw, hg]
          clear hw hg I4
          refine hK.out _ _ ((fun _ => trivial)) ?_
          clear hK K
          try simp only [Act.put, List.setIfInBounds_toArray, List.set_cons_zero, List.set_cons_succ]
          refine nw_take (i := 13) (v := ?_) rfl (by kernel_rfl) (by kernel_rfl) (fun _ _ d _ _ h => by cases d <;> exact h) (by exact hNS) (by kernel_rfl) ?_ (fun K hK => ?_); rotate_left; (· (intro w' hSw; (try dsimp only at hSw); go_simp; with_reducible rfl)); simp only [Act.put, List.setIfInBounds_toArray, List.set_cons_zero, List.set_cons_succ]; refine hK _ ?_; clear hK K
          refine nw_one (i := 14) (E := False) rfl (by kernel_rfl) (fun K hK => ?_) (by kernel_rfl)
          go_simp
          obtain ⟨wf, hwf⟩ : ∃ x, w5.alloc (.cells #[.pointer (some ⟨dp, 0, none⟩), .int .i64 N, .int .i64 rm, .slice (some ⟨g8, 0, none⟩) 1 1, .slice (some ⟨g10, 0, none⟩) N N, .slice (some ⟨g12, 0, none⟩) sh sh, .int .i64 0, .int .i64 0] 74) = x := ⟨_, rfl⟩
          obtain ⟨pf, hpf⟩ : ∃ x, w5.heap.size = x := ⟨_, rfl⟩
          have FIN := Lib.hid (FINE.out _ _ _ _ _ _ _ _ I5.out hwf hpf)
          rw [hwf, hpf]
          clear hwf hpf I5 FINE
          refine hK.out _ _ ((fun _ => trivial)) ?_
          clear hK K
          try simp only [Act.put, List.setIfInBounds_toArray, List.set_cons_zero, List.set_cons_succ]
          refine nw_one (i := 15) (E := False) rfl (by kernel_rfl) (fun K hK => ?_) (by kernel_rfl)
          go_simp
          refine hK.out _ _ ((fun _ => trivial)) ?_
          clear hK K
          try simp only [Act.put, List.setIfInBounds_toArray, List.set_cons_zero, List.set_cons_succ]
          refine nw_one (i := 16) (E := False) rfl (by kernel_rfl) (fun K hK => ?_) (by kernel_rfl)
          go_simp
          refine hK.out _ _ ((fun _ => trivial)) ?_
          clear hK K
          try simp only [Act.put, List.setIfInBounds_toArray, List.set_cons_zero, List.set_cons_succ]
          refine nw_end (by kernel_rfl) ?_
          go_wp2_with fail
          go_ret2
          exact FIN.out
        · go_simp
          obtain ⟨w4, hw⟩ : ∃ x, w3.alloc (.cells (nils sh) 42) = x := ⟨_, rfl⟩
          obtain ⟨g12, hg⟩ : ∃ x, w3.heap.size = x := ⟨_, rfl⟩
          have I4 := Lib.hid (I3.out.a12 hc (by omega) hB0 hw hg)
          rw [hw, hg]
          clear hw hg I3
          refine hK.out _ _ ((fun _ => trivial)) ?_
          clear hK K
          try simp only [Act.put, List.setIfInBounds_toArray, List.set_cons_zero, List.set_cons_succ]
          refine nw_one (i := 8) (E := False) rfl (by kernel_rfl) (fun K hK => ?_) (by kernel_rfl)
          go_simp
          obtain ⟨w5, hw⟩ : ∃ x, w4.alloc (.cells #[.slice (some ⟨g4, 0, none⟩) N N, .slice (some ⟨g6, 0, none⟩) N N] 96) = x := ⟨_, rfl⟩
          obtain ⟨g8, hg⟩ : ∃ x, w4.heap.size = x := ⟨_, rfl⟩
          have I5 := Lib.hid (I4.out.a8 hc (by omega) hB0 hw hg)
          rw [hw, hg]
          clear hw hg I4
          refine hK.out _ _ ((fun _ => trivial)) ?_
          clear hK K
          try simp only [Act.put, List.setIfInBounds_toArray, List.set_cons_zero, List.set_cons_succ]
          refine nw_take (i := 13) (v := ?_) rfl (by kernel_rfl) (by kernel_rfl) (fun _ _ d _ _ h => by cases d <;> exact h) (by exact hNS) (by kernel_rfl) ?_ (fun K hK => ?_); rotate_left; (· (intro w' hSw; (try dsimp only at hSw); go_simp; with_reducible rfl)); simp only [Act.put, List.setIfInBounds_toArray, List.set_cons_zero, List.set_cons_succ]; refine hK _ ?_; clear hK K
          refine nw_one (i := 14) (E := False) rfl (by kernel_rfl) (fun K hK => ?_) (by kernel_rfl)
          go_simp
          obtain ⟨wf, hwf⟩ : ∃ x, w5.alloc (.cells #[.pointer (some ⟨dp, 0, none⟩), .int .i64 N, .int .i64 rm, .slice (some ⟨g8, 0, none⟩) 1 1, .slice (some ⟨g10, 0, none⟩) N N, .slice (some ⟨g12, 0, none⟩) sh sh, .int .i64 0, .int .i64 0] 74) = x := ⟨_, rfl⟩
          obtain ⟨pf, hpf⟩ : ∃ x, w5.heap.size = x := ⟨_, rfl⟩
          have FIN := Lib.hid (FINE.out _ _ _ _ _ _ _ _ I5.out hwf hpf)
          rw [hwf, hpf]
          clear hwf hpf I5 FINE
          refine hK.out _ _ ((fun _ => trivial)) ?_
          clear hK K
          try simp only [Act.put, List.setIfInBounds_toArray, List.set_cons_zero, List.set_cons_succ]
          refine nw_one (i := 15) (E := False) rfl (by kernel_rfl) (fun K hK => ?_) (by kernel_rfl)
          go_simp
          refine hK.out _ _ ((fun _ => trivial)) ?_
          clear hK K
          try simp only [Act.put, List.setIfInBounds_toArray, List.set_cons_zero, List.set_cons_succ]
          refine nw_one (i := 16) (E := False) rfl (by kernel_rfl) (fun K hK => ?_) (by kernel_rfl)
          go_simp
          refine hK.out _ _ ((fun _ => trivial)) ?_
          clear hK K
          try simp only [Act.put, List.setIfInBounds_toArray, List.set_cons_zero, List.set_cons_succ]
          refine nw_end (by kernel_rfl) ?_
          go_wp2_with fail
          go_ret2
          exact FIN.out
      · go_simp
        obtain ⟨w3, hw⟩ : ∃ x, w2.alloc (.cells (nils sh) 42) = x := ⟨_, rfl⟩
        obtain ⟨g12, hg⟩ : ∃ x, w2.heap.size = x := ⟨_, rfl⟩
        have I3 := Lib.hid (I2.out.a12 hc (by omega) hB0 hw hg)
        rw [hw, hg]
        clear hw hg I2
        refine hK.out _ _ ((fun _ => trivial)) ?_
        clear hK K
        try simp only [Act.put, List.setIfInBounds_toArray, List.set_cons_zero, List.set_cons_succ]
        refine nw_alts (rs := [8, 10]) (by kernel_rfl) (by simp) (List.forall_mem_cons.2 ⟨nalt (E := False) rfl (fun K hK => ?_) (by kernel_rfl), List.forall_mem_cons.2 ⟨nalt (E := False) rfl (fun K hK => ?_) (by kernel_rfl), fun _ h => absurd h (by simp)⟩⟩)
        · go_simp
          obtain ⟨w4, hw⟩ : ∃ x, w3.alloc (.cells #[.slice (some ⟨g4, 0, none⟩) N N, .slice (some ⟨g6, 0, none⟩) N N] 96) = x := ⟨_, rfl⟩
          obtain ⟨g8, hg⟩ : ∃ x, w3.heap.size = x := ⟨_, rfl⟩
          have I4 := Lib.hid (I3.out.a8 hc (by omega) hB0 hw hg)
          rw [hw, hg]
          clear hw hg I3
          refine hK.out _ _ ((fun _ => trivial)) ?_
          clear hK K
          try simp only [Act.put, List.setIfInBounds_toArray, List.set_cons_zero, List.set_cons_succ]
          refine nw_one (i := 10) (E := False) rfl (by kernel_rfl) (fun K hK => ?_) (by kernel_rfl)
          go_simp
          obtain ⟨w5, hw⟩ : ∃ x, w4.alloc (.cells (nils N) 34) = x := ⟨_, rfl⟩
          obtain ⟨g10, hg⟩ : ∃ x, w4.heap.size = x := ⟨_, rfl⟩
          have I5 := Lib.hid (I4.out.a10 hc (by omega) hB0 hw hg)
          rw [hw, hg]
          clear hw hg I4
          refine hK.out _ _ ((fun _ => trivial)) ?_
          clear hK K
          try simp only [Act.put, List.setIfInBounds_toArray, List.set_cons_zero, List.set_cons_succ]
          refine nw_take (i := 13) (v := ?_) rfl (by kernel_rfl) (by kernel_rfl) (fun _ _ d _ _ h => by cases d <;> exact h) (by exact hNS) (by kernel_rfl) ?_ (fun K hK => ?_); rotate_left; (· (intro w' hSw; (try dsimp only at hSw); go_simp; with_reducible rfl)); simp only [Act.put, List.setIfInBounds_toArray, List.set_cons_zero, List.set_cons_succ]; refine hK _ ?_; clear hK K
          refine nw_one (i := 14) (E := False) rfl (by kernel_rfl) (fun K hK => ?_) (by kernel_rfl)
          go_simp
          obtain ⟨wf, hwf⟩ : ∃ x, w5.alloc (.cells #[.pointer (some ⟨dp, 0, none⟩), .int .i64 N, .int .i64 rm, .slice (some ⟨g8, 0, none⟩) 1 1, .slice (some ⟨g10, 0, none⟩) N N, .slice (some ⟨g12, 0, none⟩) sh sh, .int .i64 0, .int .i64 0] 74) = x := ⟨_, rfl⟩
          obtain ⟨pf, hpf⟩ : ∃ x, w5.heap.size = x := ⟨_, rfl⟩
          have FIN := Lib.hid (FINE.out _ _ _ _ _ _ _ _ I5.out hwf hpf)
          rw [hwf, hpf]
          clear hwf hpf I5 FINE
          refine hK.out _ _ ((fun _ => trivial)) ?_
          clear hK K
          try simp only [Act.put, List.setIfInBounds_toArray, List.set_cons_zero, List.set_cons_succ]
          refine nw_one (i := 15) (E := False) rfl (by kernel_rfl) (fun K hK => ?_) (by kernel_rfl)
          go_simp
          refine hK.out _ _ ((fun _ => trivial)) ?_
          clear hK K
          try simp only [Act.put, List.setIfInBounds_toArray, List.set_cons_zero, List.set_cons_succ]
          refine nw_one (i := 16) (E := False) rfl (by kernel_rfl) (fun K hK => ?_) (by kernel_rfl)
          go_simp
          refine hK.out _ _ ((fun _ => trivial)) ?_
          clear hK K
          try simp only [Act.put, List.setIfInBounds_toArray, List.set_cons_zero, List.set_cons_succ]
          refine nw_end (by kernel_rfl) ?_
          go_wp2_with fail
          go_ret2
          exact FIN.out
        · go_simp
          obtain ⟨w4, hw⟩ : ∃ x, w3.alloc (.cells (nils N) 34) = x := ⟨_, rfl⟩
          obtain ⟨g10, hg⟩ : ∃ x, w3.heap.size = x := ⟨_, rfl⟩
          have I4 := Lib.hid (I3.out.a10 hc (by omega) hB0 hw hg)
          rw [hw, hg]
          clear hw hg I3
          refine hK.out _ _ ((fun _ => trivial)) ?_
          clear hK K
          try simp only [Act.put, List.setIfInBounds_toArray, List.set_cons_zero, List.set_cons_succ]
          refine nw_one (i := 8) (E := False) rfl (by kernel_rfl) (fun K hK => ?_) (by kernel_rfl)
          go_simp
          obtain ⟨w5, hw⟩ : ∃ x, w4.alloc (.cells #[.slice (some ⟨g4, 0, none⟩) N N, .slice (some ⟨g6, 0, none⟩) N N] 96) = x := ⟨_, rfl⟩
          obtain ⟨g8, hg⟩ : ∃ x, w4.heap.size = x := ⟨_, rfl⟩
          have I5 := Lib.hid (I4.out.a8 hc (by omega) hB0 hw hg)
          rw [hw, hg]
          clear hw hg I4
          refine hK.out _ _ ((fun _ => trivial)) ?_
          clear hK K
          try simp only [Act.put, List.setIfInBounds_toArray, List.set_cons_zero, List.set_cons_succ]
          refine nw_take (i := 13) (v := ?_) rfl (by kernel_rfl) (by kernel_rfl) (fun _ _ d _ _ h => by cases d <;> exact h) (by exact hNS) (by kernel_rfl) ?_ (fun K hK => ?_); rotate_left; (· (intro w' hSw; (try dsimp only at hSw); go_simp; with_reducible rfl)); simp only [Act.put, List.setIfInBounds_toArray, List.set_cons_zero, List.set_cons_succ]; refine hK _ ?_; clear hK K
          refine nw_one (i := 14) (E := False) rfl (by kernel_rfl) (fun K hK => ?_) (by kernel_rfl)
          go_simp
          obtain ⟨wf, hwf⟩ : ∃ x, w5.alloc (.cells #[.pointer (some ⟨dp, 0, none⟩), .int .i64 N, .int .i64 rm, .slice (some ⟨g8, 0, none⟩) 1 1, .slice (some ⟨g10, 0, none⟩) N N, .slice (some ⟨g12, 0, none⟩) sh sh, .int .i64 0, .int .i64 0] 74) = x := ⟨_, rfl⟩
          obtain ⟨pf, hpf⟩ : ∃ x, w5.heap.size = x := ⟨_, rfl⟩
          have FIN := Lib.hid (FINE.out _ _ _ _ _ _ _ _ I5.out hwf hpf)
          rw [hwf, hpf]
          clear hwf hpf I5 FINE
          refine hK.out _ _ ((fun _ => trivial)) ?_
          clear hK K
          try simp only [Act.put, List.setIfInBounds_toArray, List.set_cons_zero, List.set_cons_succ]
          refine nw_one (i := 15) (E := False) rfl (by kernel_rfl) (fun K hK => ?_) (by kernel_rfl)
          go_simp
          refine hK.out _ _ ((fun _ => trivial)) ?_
          clear hK K
          try simp only [Act.put, List.setIfInBounds_toArray, List.set_cons_zero, List.set_cons_succ]
          refine nw_one (i := 16) (E := False) rfl (by kernel_rfl) (fun K hK => ?_) (by kernel_rfl)
          go_simp
          refine hK.out _ _ ((fun _ => trivial)) ?_
          clear hK K
          try simp only [Act.put, List.setIfInBounds_toArray, List.set_cons_zero, List.set_cons_succ]
          refine nw_end (by kernel_rfl) ?_
          go_wp2_with fail
          go_ret2
          exact FIN.out
    · go_simp
      obtain ⟨w2, hw⟩ : ∃ x, w1.alloc (.cells (nils N) 34) = x := ⟨_, rfl⟩
      obtain ⟨g10, hg⟩ : ∃ x, w1.heap.size = x := ⟨_, rfl⟩
      have I2 := Lib.hid (I1.out.a10 hc (by omega) hB0 hw hg)
      rw [hw, hg]
      clear hw hg I1
      refine hK.out _ _ ((fun _ => trivial)) ?_
      clear hK K
      try simp only [Act.put, List.setIfInBounds_toArray, List.set_cons_zero, List.set_cons_succ]
      refine nw_alts (rs := [6, 12]) (by kernel_rfl) (by simp) (List.forall_mem_cons.2 ⟨nalt (E := False) rfl (fun K hK => ?_) (by kernel_rfl), List.forall_mem_cons.2 ⟨nalt (E := False) rfl (fun K hK => ?_) (by kernel_rfl), fun _ h => absurd h (by simp)⟩⟩)
      · go_simp
        obtain ⟨w3, hw⟩ : ∃ x, w2.alloc (.cells (falses N) 4) = x := ⟨_, rfl⟩
        obtain ⟨g6, hg⟩ : ∃ x, w2.heap.size = x := ⟨_, rfl⟩
        have I3 := Lib.hid (I2.out.a6 hc (by omega) hB0 hw hg)
        rw [hw, hg]
        clear hw hg I2
        refine hK.out _ _ ((fun _ => trivial)) ?_
        clear hK K
        try simp only [Act.put, List.setIfInBounds_toArray, List.set_cons_zero, List.set_cons_succ]
        refine nw_take (i := 7) (v := ?_) rfl (by kernel_rfl) (by kernel_rfl) (fun _ _ d _ _ h => by cases d <;> exact h) (by exact hNS) (by kernel_rfl) ?_ (fun K hK => ?_); rotate_left; (· (intro w' hSw; (try dsimp only at hSw); go_simp; with_reducible rfl)); simp only [Act.put, List.setIfInBounds_toArray, List.set_cons_zero, List.set_cons_succ]; refine hK _ ?_; clear hK K
        refine nw_alts (rs := [8, 12]) (by kernel_rfl) (by simp) (List.forall_mem_cons.2 ⟨nalt (E := False) rfl (fun K hK => ?_) (by kernel_rfl), List.forall_mem_cons.2 ⟨nalt (E := False) rfl (fun K hK => ?_) (by kernel_rfl), fun _ h => absurd h (by simp)⟩⟩)
        · go_simp
          obtain ⟨w4, hw⟩ : ∃ x, w3.alloc (.cells #[.slice (some ⟨g4, 0, none⟩) N N, .slice (some ⟨g6, 0, none⟩) N N] 96) = x := ⟨_, rfl⟩
          obtain ⟨g8, hg⟩ : ∃ x, w3.heap.size = x := ⟨_, rfl⟩
          have I4 := Lib.hid (I3.out.a8 hc (by omega) hB0 hw hg)
          rw [hw, hg]
          clear hw hg I3
          refine hK.out _ _ ((fun _ => trivial)) ?_
          clear hK K
          try simp only [Act.put, List.setIfInBounds_toArray, List.set_cons_zero, List.set_cons_succ]
          refine nw_one (i := 12) (E := False) rfl (by kernel_rfl) (fun K hK => ?_) (by kernel_rfl)
          go_simp
          obtain ⟨w5, hw⟩ : ∃ x, w4.alloc (.cells (nils sh) 42) = x := ⟨_, rfl⟩
          obtain ⟨g12, hg⟩ : ∃ x, w4.heap.size = x := ⟨_, rfl⟩
          have I5 := Lib.hid (I4.out.a12 hc (by omega) hB0 hw hg)
          rw [hw, hg]
          clear hw hg I4
          refine hK.out _ _ ((fun _ => trivial)) ?_
          clear hK K
          try simp only [Act.put, List.setIfInBounds_toArray, List.set_cons_zero, List.set_cons_succ]
          refine nw_take (i := 13) (v := ?_) rfl (by kernel_rfl) (by kernel_rfl) (fun _ _ d _ _ h => by cases d <;> exact h) (by exact hNS) (by kernel_rfl) ?_ (fun K hK => ?_); rotate_left; (· (intro w' hSw; (try dsimp only at hSw); go_simp; with_reducible rfl)); simp only [Act.put, List.setIfInBounds_toArray, List.set_cons_zero, List.set_cons_succ]; refine hK _ ?_; clear hK K
          refine nw_one (i := 14) (E := False) rfl (by kernel_rfl) (fun K hK => ?_) (by kernel_rfl)
          go_simp
          obtain ⟨wf, hwf⟩ : ∃ x, w5.alloc (.cells #[.pointer (some ⟨dp, 0, none⟩), .int .i64 N, .int .i64 rm, .slice (some ⟨g8, 0, none⟩) 1 1, .slice (some ⟨g10, 0, none⟩) N N, .slice (some ⟨g12, 0, none⟩) sh sh, .int .i64 0, .int .i64 0] 74) = x := ⟨_, rfl⟩
          obtain ⟨pf, hpf⟩ : ∃ x, w5.heap.size = x := ⟨_, rfl⟩
          have FIN := Lib.hid (FINE.out _ _ _ _ _ _ _ _ I5.out hwf hpf)
          rw [hwf, hpf]
          clear hwf hpf I5 FINE
          refine hK.out _ _ ((fun _ => trivial)) ?_
          clear hK K
          try simp only [Act.put, List.setIfInBounds_toArray, List.set_cons_zero, List.set_cons_succ]
          refine nw_one (i := 15) (E := False) rfl (by kernel_rfl) (fun K hK => ?_) (by kernel_rfl)
          go_simp
          refine hK.out _ _ ((fun _ => trivial)) ?_
          clear hK K
          try simp only [Act.put, List.setIfInBounds_toArray, List.set_cons_zero, List.set_cons_succ]
          refine nw_one (i := 16) (E := False) rfl (by kernel_rfl) (fun K hK => ?_) (by kernel_rfl)
          go_simp
          refine hK.out _ _ ((fun _ => trivial)) ?_
          clear hK K
          try simp only [Act.put, List.setIfInBounds_toArray, List.set_cons_zero, List.set_cons_succ]
          refine nw_end (by kernel_rfl) ?_
          go_wp2_with fail
          go_ret2
          exact FIN.out
        · go_simp
          obtain ⟨w4, hw⟩ : ∃ x, w3.alloc (.cells (nils sh) 42) = x := ⟨_, rfl⟩
          obtain ⟨g12, hg⟩ : ∃ x, w3.heap.size = x := ⟨_, rfl⟩
          have I4 := Lib.hid (I3.out.a12 hc (by omega) hB0 hw hg)
          rw [hw, hg]
          clear hw hg I3
          refine hK.out _ _ ((fun _ => trivial)) ?_
          clear hK K
          try simp only [Act.put, List.setIfInBounds_toArray, List.set_cons_zero, List.set_cons_succ]
          refine nw_one (i := 8) (E := False) rfl (by kernel_rfl) (fun K hK => ?_) (by kernel_rfl)
          go_simp
          obtain ⟨w5, hw⟩ : ∃ x, w4.alloc (.cells #[.slice (some ⟨g4, 0, none⟩) N N, .slice (some ⟨g6, 0, none⟩) N N] 96) = x := ⟨_, rfl⟩
          obtain ⟨g8, hg⟩ : ∃ x, w4.heap.size = x := ⟨_, rfl⟩
          have I5 := Lib.hid (I4.out.a8 hc (by omega) hB0 hw hg)
          rw [hw, hg]
          clear hw hg I4
          refine hK.out _ _ ((fun _ => trivial)) ?_
          clear hK K
          try simp only [Act.put, List.setIfInBounds_toArray, List.set_cons_zero, List.set_cons_succ]
          refine nw_take (i := 13) (v := ?_) rfl (by kernel_rfl) (by kernel_rfl) (fun _ _ d _ _ h => by cases d <;> exact h) (by exact hNS) (by kernel_rfl) ?_ (fun K hK => ?_); rotate_left; (· (intro w' hSw; (try dsimp only at hSw); go_simp; with_reducible rfl)); simp only [Act.put, List.setIfInBounds_toArray, List.set_cons_zero, List.set_cons_succ]; refine hK _ ?_; clear hK K
          refine nw_one (i := 14) (E := False) rfl (by kernel_rfl) (fun K hK => ?_) (by kernel_rfl)
          go_simp
          obtain ⟨wf, hwf⟩ : ∃ x, w5.alloc (.cells #[.pointer (some ⟨dp, 0, none⟩), .int .i64 N, .int .i64 rm, .slice (some ⟨g8, 0, none⟩) 1 1, .slice (some ⟨g10, 0, none⟩) N N, .slice (some ⟨g12, 0, none⟩) sh sh, .int .i64 0, .int .i64 0] 74) = x := ⟨_, rfl⟩
          obtain ⟨pf, hpf⟩ : ∃ x, w5.heap.size = x := ⟨_, rfl⟩
          have FIN := Lib.hid (FINE.out _ _ _ _ _ _ _ _ I5.out hwf hpf)
          rw [hwf, hpf]
          clear hwf hpf I5 FINE
          refine hK.out _ _ ((fun _ => trivial)) ?_
          clear hK K
          try simp only [Act.put, List.setIfInBounds_toArray, List.set_cons_zero, List.set_cons_succ]
          refine nw_one (i := 15) (E := False) rfl (by kernel_rfl) (fun K hK => ?_) (by kernel_rfl)
          go_simp
          refine hK.out _ _ ((fun _ => trivial)) ?_
          clear hK K
          try simp only [Act.put, List.setIfInBounds_toArray, List.set_cons_zero, List.set_cons_succ]
          refine nw_one (i := 16) (E := False) rfl (by kernel_rfl) (fun K hK => ?_) (by kernel_rfl)
          go_simp
          refine hK.out _ _ ((fun _ => trivial)) ?_
          clear hK K
          try simp only [Act.put, List.setIfInBounds_toArray, List.set_cons_zero, List.set_cons_succ]
          refine nw_end (by kernel_rfl) ?_
          go_wp2_with fail
          go_ret2
          exact FIN.out
      · go_simp
        obtain ⟨w3, hw⟩ : ∃ x, w2.alloc (.cells (nils sh) 42) = x := ⟨_, rfl⟩
        obtain ⟨g12, hg⟩ : ∃ x, w2.heap.size = x := ⟨_, rfl⟩
        have I3 := Lib.hid (I2.out.a12 hc (by omega) hB0 hw hg)
        rw [hw, hg]
        clear hw hg I2
        refine hK.out _ _ ((fun _ => trivial)) ?_
        clear hK K
        try simp only [Act.put, List.setIfInBounds_toArray, List.set_cons_zero, List.set_cons_succ]
        refine nw_one (i := 6) (E := False) rfl (by kernel_rfl) (fun K hK => ?_) (by kernel_rfl)
        go_simp
        obtain ⟨w4, hw⟩ : ∃ x, w3.alloc (.cells (falses N) 4) = x := ⟨_, rfl⟩
        obtain ⟨g6, hg⟩ : ∃ x, w3.heap.size = x := ⟨_, rfl⟩
        have I4 := Lib.hid (I3.out.a6 hc (by omega) hB0 hw hg)
        rw [hw, hg]
        clear hw hg I3
        refine hK.out _ _ ((fun _ => trivial)) ?_
        clear hK K
        try simp only [Act.put, List.setIfInBounds_toArray, List.set_cons_zero, List.set_cons_succ]
        refine nw_take (i := 7) (v := ?_) rfl (by kernel_rfl) (by kernel_rfl) (fun _ _ d _ _ h => by cases d <;> exact h) (by exact hNS) (by kernel_rfl) ?_ (fun K hK => ?_); rotate_left; (· (intro w' hSw; (try dsimp only at hSw); go_simp; with_reducible rfl)); simp only [Act.put, List.setIfInBounds_toArray, List.set_cons_zero, List.set_cons_succ]; refine hK _ ?_; clear hK K
        refine nw_one (i := 8) (E := False) rfl (by kernel_rfl) (fun K hK => ?_) (by kernel_rfl)
        go_simp
        obtain ⟨w5, hw⟩ : ∃ x, w4.alloc (.cells #[.slice (some ⟨g4, 0, none⟩) N N, .slice (some ⟨g6, 0, none⟩) N N] 96) = x := ⟨_, rfl⟩
        obtain ⟨g8, hg⟩ : ∃ x, w4.heap.size = x := ⟨_, rfl⟩
        have I5 := Lib.hid (I4.out.a8 hc (by omega) hB0 hw hg)
        rw [hw, hg]
        clear hw hg I4
        refine hK.out _ _ ((fun _ => trivial)) ?_
        clear hK K
        try simp only [Act.put, List.setIfInBounds_toArray, List.set_cons_zero, List.set_cons_succ]
        refine nw_take (i := 13) (v := ?_) rfl (by kernel_rfl) (by kernel_rfl) (fun _ _ d _ _ h => by cases d <;> exact h) (by exact hNS) (by kernel_rfl) ?_ (fun K hK => ?_); rotate_left; (· (intro w' hSw; (try dsimp only at hSw); go_simp; with_reducible rfl)); simp only [Act.put, List.setIfInBounds_toArray, List.set_cons_zero, List.set_cons_succ]; refine hK _ ?_; clear hK K
        refine nw_one (i := 14) (E := False) rfl (by kernel_rfl) (fun K hK => ?_) (by kernel_rfl)
        go_simp
        obtain ⟨wf, hwf⟩ : ∃ x, w5.alloc (.cells #[.pointer (some ⟨dp, 0, none⟩), .int .i64 N, .int .i64 rm, .slice (some ⟨g8, 0, none⟩) 1 1, .slice (some ⟨g10, 0, none⟩) N N, .slice (some ⟨g12, 0, none⟩) sh sh, .int .i64 0, .int .i64 0] 74) = x := ⟨_, rfl⟩
        obtain ⟨pf, hpf⟩ : ∃ x, w5.heap.size = x := ⟨_, rfl⟩
        have FIN := Lib.hid (FINE.out _ _ _ _ _ _ _ _ I5.out hwf hpf)
        rw [hwf, hpf]
        clear hwf hpf I5 FINE
        refine hK.out _ _ ((fun _ => trivial)) ?_
        clear hK K
        try simp only [Act.put, List.setIfInBounds_toArray, List.set_cons_zero, List.set_cons_succ]
        refine nw_one (i := 15) (E := False) rfl (by kernel_rfl) (fun K hK => ?_) (by kernel_rfl)
        go_simp
        refine hK.out _ _ ((fun _ => trivial)) ?_
        clear hK K
        try simp only [Act.put, List.setIfInBounds_toArray, List.set_cons_zero, List.set_cons_succ]
        refine nw_one (i := 16) (E := False) rfl (by kernel_rfl) (fun K hK => ?_) (by kernel_rfl)
        go_simp
        refine hK.out _ _ ((fun _ => trivial)) ?_
        clear hK K
        try simp only [Act.put, List.setIfInBounds_toArray, List.set_cons_zero, List.set_cons_succ]
        refine nw_end (by kernel_rfl) ?_
        go_wp2_with fail
        go_ret2
        exact FIN.out
    · go_simp
      obtain ⟨w2, hw⟩ : ∃ x, w1.alloc (.cells (nils sh) 42) = x := ⟨_, rfl⟩
      obtain ⟨g12, hg⟩ : ∃ x, w1.heap.size = x := ⟨_, rfl⟩
      have I2 := Lib.hid (I1.out.a12 hc (by omega) hB0 hw hg)
      rw [hw, hg]
      clear hw hg I1
      refine hK.out _ _ ((fun _ => trivial)) ?_
      clear hK K
      try simp only [Act.put, List.setIfInBounds_toArray, List.set_cons_zero, List.set_cons_succ]
      refine nw_alts (rs := [6, 10]) (by kernel_rfl) (by simp) (List.forall_mem_cons.2 ⟨nalt (E := False) rfl (fun K hK => ?_) (by kernel_rfl), List.forall_mem_cons.2 ⟨nalt (E := False) rfl (fun K hK => ?_) (by kernel_rfl), fun _ h => absurd h (by simp)⟩⟩)
      · go_simp
        obtain ⟨w3, hw⟩ : ∃ x, w2.alloc (.cells (falses N) 4) = x := ⟨_, rfl⟩
        obtain ⟨g6, hg⟩ : ∃ x, w2.heap.size = x := ⟨_, rfl⟩
        have I3 := Lib.hid (I2.out.a6 hc (by omega) hB0 hw hg)
        rw [hw, hg]
        clear hw hg I2
        refine hK.out _ _ ((fun _ => trivial)) ?_
        clear hK K
        try simp only [Act.put, List.setIfInBounds_toArray, List.set_cons_zero, List.set_cons_succ]
        refine nw_take (i := 7) (v := ?_) rfl (by kernel_rfl) (by kernel_rfl) (fun _ _ d _ _ h => by cases d <;> exact h) (by exact hNS) (by kernel_rfl) ?_ (fun K hK => ?_); rotate_left; (· (intro w' hSw; (try dsimp only at hSw); go_simp; with_reducible rfl)); simp only [Act.put, List.setIfInBounds_toArray, List.set_cons_zero, List.set_cons_succ]; refine hK _ ?_; clear hK K
        refine nw_alts (rs := [8, 10]) (by kernel_rfl) (by simp) (List.forall_mem_cons.2 ⟨nalt (E := False) rfl (fun K hK => ?_) (by kernel_rfl), List.forall_mem_cons.2 ⟨nalt (E := False) rfl (fun K hK => ?_) (by kernel_rfl), fun _ h => absurd h (by simp)⟩⟩)
        · go_simp
          obtain ⟨w4, hw⟩ : ∃ x, w3.alloc (.cells #[.slice (some ⟨g4, 0, none⟩) N N, .slice (some ⟨g6, 0, none⟩) N N] 96) = x := ⟨_, rfl⟩
          obtain ⟨g8, hg⟩ : ∃ x, w3.heap.size = x := ⟨_, rfl⟩
          have I4 := Lib.hid (I3.out.a8 hc (by omega) hB0 hw hg)
          rw [hw, hg]
          clear hw hg I3
          refine hK.out _ _ ((fun _ => trivial)) ?_
          clear hK K
          try simp only [Act.put, List.setIfInBounds_toArray, List.set_cons_zero, List.set_cons_succ]
          refine nw_one (i := 10) (E := False) rfl (by kernel_rfl) (fun K hK => ?_) (by kernel_rfl)
          go_simp
          obtain ⟨w5, hw⟩ : ∃ x, w4.alloc (.cells (nils N) 34) = x := ⟨_, rfl⟩
          obtain ⟨g10, hg⟩ : ∃ x, w4.heap.size = x := ⟨_, rfl⟩
          have I5 := Lib.hid (I4.out.a10 hc (by omega) hB0 hw hg)
          rw [hw, hg]
          clear hw hg I4
          refine hK.out _ _ ((fun _ => trivial)) ?_
          clear hK K
          try simp only [Act.put, List.setIfInBounds_toArray, List.set_cons_zero, List.set_cons_succ]
          refine nw_take (i := 13) (v := ?_) rfl (by kernel_rfl) (by kernel_rfl) (fun _ _ d _ _ h => by cases d <;> exact h) (by exact hNS) (by kernel_rfl) ?_ (fun K hK => ?_); rotate_left; (· (intro w' hSw; (try dsimp only at hSw); go_simp; with_reducible rfl)); simp only [Act.put, List.setIfInBounds_toArray, List.set_cons_zero, List.set_cons_succ]; refine hK _ ?_; clear hK K
          refine nw_one (i := 14) (E := False) rfl (by kernel_rfl) (fun K hK => ?_) (by kernel_rfl)
          go_simp
          obtain ⟨wf, hwf⟩ : ∃ x, w5.alloc (.cells #[.pointer (some ⟨dp, 0, none⟩), .int .i64 N, .int .i64 rm, .slice (some ⟨g8, 0, none⟩) 1 1, .slice (some ⟨g10, 0, none⟩) N N, .slice (some ⟨g12, 0, none⟩) sh sh, .int .i64 0, .int .i64 0] 74) = x := ⟨_, rfl⟩
          obtain ⟨pf, hpf⟩ : ∃ x, w5.heap.size = x := ⟨_, rfl⟩
          have FIN := Lib.hid (FINE.out _ _ _ _ _ _ _ _ I5.out hwf hpf)
          rw [hwf, hpf]
          clear hwf hpf I5 FINE
          refine hK.out _ _ ((fun _ => trivial)) ?_
          clear hK K
          try simp only [Act.put, List.setIfInBounds_toArray, List.set_cons_zero, List.set_cons_succ]
          refine nw_one (i := 15) (E := False) rfl (by kernel_rfl) (fun K hK => ?_) (by kernel_rfl)
          go_simp
          refine hK.out _ _ ((fun _ => trivial)) ?_
          clear hK K
          try simp only [Act.put, List.setIfInBounds_toArray, List.set_cons_zero, List.set_cons_succ]
          refine nw_one (i := 16) (E := False) rfl (by kernel_rfl) (fun K hK => ?_) (by kernel_rfl)
          go_simp
          refine hK.out _ _ ((fun _ => trivial)) ?_
          clear hK K
          try simp only [Act.put, List.setIfInBounds_toArray, List.set_cons_zero, List.set_cons_succ]
          refine nw_end (by kernel_rfl) ?_
          go_wp2_with fail
          go_ret2
          exact FIN.out
        · go_simp
          obtain ⟨w4, hw⟩ : ∃ x, w3.alloc (.cells (nils N) 34) = x := ⟨_, rfl⟩
          obtain ⟨g10, hg⟩ : ∃ x, w3.heap.size = x := ⟨_, rfl⟩
          have I4 := Lib.hid (I3.out.a10 hc (by omega) hB0 hw hg)
          rw [hw, hg]
          clear hw hg I3
          refine hK.out _ _ ((fun _ => trivial)) ?_
          clear hK K
          try simp only [Act.put, List.setIfInBounds_toArray, List.set_cons_zero, List.set_cons_succ]
          refine nw_one (i := 8) (E := False) rfl (by kernel_rfl) (fun K hK => ?_) (by kernel_rfl)
          go_simp
          obtain ⟨w5, hw⟩ : ∃ x, w4.alloc (.cells #[.slice (some ⟨g4, 0, none⟩) N N, .slice (some ⟨g6, 0, none⟩) N N] 96) = x := ⟨_, rfl⟩
          obtain ⟨g8, hg⟩ : ∃ x, w4.heap.size = x := ⟨_, rfl⟩
          have I5 := Lib.hid (I4.out.a8 hc (by omega) hB0 hw hg)
          rw [hw, hg]
          clear hw hg I4
          refine hK.out _ _ ((fun _ => trivial)) ?_
          clear hK K
          try simp only [Act.put, List.setIfInBounds_toArray, List.set_cons_zero, List.set_cons_succ]
          refine nw_take (i := 13) (v := ?_) rfl (by kernel_rfl) (by kernel_rfl) (fun _ _ d _ _ h => by cases d <;> exact h) (by exact hNS) (by kernel_rfl) ?_ (fun K hK => ?_); rotate_left; (· (intro w' hSw; (try dsimp only at hSw); go_simp; with_reducible rfl)); simp only [Act.put, List.setIfInBounds_toArray, List.set_cons_zero, List.set_cons_succ]; refine hK _ ?_; clear hK K
          refine nw_one (i := 14) (E := False) rfl (by kernel_rfl) (fun K hK => ?_) (by kernel_rfl)
          go_simp
          obtain ⟨wf, hwf⟩ : ∃ x, w5.alloc (.cells #[.pointer (some ⟨dp, 0, none⟩), .int .i64 N, .int .i64 rm, .slice (some ⟨g8, 0, none⟩) 1 1, .slice (some ⟨g10, 0, none⟩) N N, .slice (some ⟨g12, 0, none⟩) sh sh, .int .i64 0, .int .i64 0] 74) = x := ⟨_, rfl⟩
          obtain ⟨pf, hpf⟩ : ∃ x, w5.heap.size = x := ⟨_, rfl⟩
          have FIN := Lib.hid (FINE.out _ _ _ _ _ _ _ _ I5.out hwf hpf)
          rw [hwf, hpf]
          clear hwf hpf I5 FINE
          refine hK.out _ _ ((fun _ => trivial)) ?_
          clear hK K
          try simp only [Act.put, List.setIfInBounds_toArray, List.set_cons_zero, List.set_cons_succ]
          refine nw_one (i := 15) (E := False) rfl (by kernel_rfl) (fun K hK => ?_) (by kernel_rfl)
          go_simp
          refine hK.out _ _ ((fun _ => trivial)) ?_
          clear hK K
          try simp only [Act.put, List.setIfInBounds_toArray, List.set_cons_zero, List.set_cons_succ]
          refine nw_one (i := 16) (E := False) rfl (by kernel_rfl) (fun K hK => ?_) (by kernel_rfl)
          go_simp
          refine hK.out _ _ ((fun _ => trivial)) ?_
          clear hK K
          try simp only [Act.put, List.setIfInBounds_toArray, List.set_cons_zero, List.set_cons_succ]
          refine nw_end (by kernel_rfl) ?_
          go_wp2_with fail
          go_ret2
          exact FIN.out
      · go_simp
        obtain ⟨w3, hw⟩ : ∃ x, w2.alloc (.cells (nils N) 34) = x := ⟨_, rfl⟩
        obtain ⟨g10, hg⟩ : ∃ x, w2.heap.size = x := ⟨_, rfl⟩
        have I3 := Lib.hid (I2.out.a10 hc (by omega) hB0 hw hg)
        rw [hw, hg]
        clear hw hg I2
        refine hK.out _ _ ((fun _ => trivial)) ?_
        clear hK K
        try simp only [Act.put, List.setIfInBounds_toArray, List.set_cons_zero, List.set_cons_succ]
        refine nw_one (i := 6) (E := False) rfl (by kernel_rfl) (fun K hK => ?_) (by kernel_rfl)
        go_simp
        obtain ⟨w4, hw⟩ : ∃ x, w3.alloc (.cells (falses N) 4) = x := ⟨_, rfl⟩
        obtain ⟨g6, hg⟩ : ∃ x, w3.heap.size = x := ⟨_, rfl⟩
        have I4 := Lib.hid (I3.out.a6 hc (by omega) hB0 hw hg)
        rw [hw, hg]
        clear hw hg I3
        refine hK.out _ _ ((fun _ => trivial)) ?_
        clear hK K
        try simp only [Act.put, List.setIfInBounds_toArray, List.set_cons_zero, List.set_cons_succ]
        refine nw_take (i := 7) (v := ?_) rfl (by kernel_rfl) (by kernel_rfl) (fun _ _ d _ _ h => by cases d <;> exact h) (by exact hNS) (by kernel_rfl) ?_ (fun K hK => ?_); rotate_left; (· (intro w' hSw; (try dsimp only at hSw); go_simp; with_reducible rfl)); simp only [Act.put, List.setIfInBounds_toArray, List.set_cons_zero, List.set_cons_succ]; refine hK _ ?_; clear hK K
        refine nw_one (i := 8) (E := False) rfl (by kernel_rfl) (fun K hK => ?_) (by kernel_rfl)
        go_simp
        obtain ⟨w5, hw⟩ : ∃ x, w4.alloc (.cells #[.slice (some ⟨g4, 0, none⟩) N N, .slice (some ⟨g6, 0, none⟩) N N] 96) = x := ⟨_, rfl⟩
        obtain ⟨g8, hg⟩ : ∃ x, w4.heap.size = x := ⟨_, rfl⟩
        have I5 := Lib.hid (I4.out.a8 hc (by omega) hB0 hw hg)
        rw [hw, hg]
        clear hw hg I4
        refine hK.out _ _ ((fun _ => trivial)) ?_
        clear hK K
        try simp only [Act.put, List.setIfInBounds_toArray, List.set_cons_zero, List.set_cons_succ]
        refine nw_take (i := 13) (v := ?_) rfl (by kernel_rfl) (by kernel_rfl) (fun _ _ d _ _ h => by cases d <;> exact h) (by exact hNS) (by kernel_rfl) ?_ (fun K hK => ?_); rotate_left; (· (intro w' hSw; (try dsimp only at hSw); go_simp; with_reducible rfl)); simp only [Act.put, List.setIfInBounds_toArray, List.set_cons_zero, List.set_cons_succ]; refine hK _ ?_; clear hK K
        refine nw_one (i := 14) (E := False) rfl (by kernel_rfl) (fun K hK => ?_) (by kernel_rfl)
        go_simp
        obtain ⟨wf, hwf⟩ : ∃ x, w5.alloc (.cells #[.pointer (some ⟨dp, 0, none⟩), .int .i64 N, .int .i64 rm, .slice (some ⟨g8, 0, none⟩) 1 1, .slice (some ⟨g10, 0, none⟩) N N, .slice (some ⟨g12, 0, none⟩) sh sh, .int .i64 0, .int .i64 0] 74) = x := ⟨_, rfl⟩
        obtain ⟨pf, hpf⟩ : ∃ x, w5.heap.size = x := ⟨_, rfl⟩
        have FIN := Lib.hid (FINE.out _ _ _ _ _ _ _ _ I5.out hwf hpf)
        rw [hwf, hpf]
        clear hwf hpf I5 FINE
        refine hK.out _ _ ((fun _ => trivial)) ?_
        clear hK K
        try simp only [Act.put, List.setIfInBounds_toArray, List.set_cons_zero, List.set_cons_succ]
        refine nw_one (i := 15) (E := False) rfl (by kernel_rfl) (fun K hK => ?_) (by kernel_rfl)
        go_simp
        refine hK.out _ _ ((fun _ => trivial)) ?_
        clear hK K
        try simp only [Act.put, List.setIfInBounds_toArray, List.set_cons_zero, List.set_cons_succ]
        refine nw_one (i := 16) (E := False) rfl (by kernel_rfl) (fun K hK => ?_) (by kernel_rfl)
        go_simp
        refine hK.out _ _ ((fun _ => trivial)) ?_
        clear hK K
        try simp only [Act.put, List.setIfInBounds_toArray, List.set_cons_zero, List.set_cons_succ]
        refine nw_end (by kernel_rfl) ?_
        go_wp2_with fail
        go_ret2
        exact FIN.out
  · go_simp
    obtain ⟨w1, hw⟩ : ∃ x, w0.alloc (.cells (falses N) 4) = x := ⟨_, rfl⟩
    obtain ⟨g6, hg⟩ : ∃ x, w0.heap.size = x := ⟨_, rfl⟩
    have I1 := Lib.hid (I0.out.a6 hc (by omega) hB0 hw hg)
    rw [hw, hg]
    clear hw hg I0
    refine hK.out _ _ ((fun _ => trivial)) ?_
    clear hK K
    try simp only [Act.put, List.setIfInBounds_toArray, List.set_cons_zero, List.set_cons_succ]
    refine nw_alts (rs := [4, 10, 12]) (by kernel_rfl) (by simp) (List.forall_mem_cons.2 ⟨nalt (E := False) rfl (fun K hK => ?_) (by kernel_rfl), List.forall_mem_cons.2 ⟨nalt (E := False) rfl (fun K hK => ?_) (by kernel_rfl), List.forall_mem_cons.2 ⟨nalt (E := False) rfl (fun K hK => ?_) (by kernel_rfl), fun _ h => absurd h (by simp)⟩⟩⟩)
    · go_simp
      obtain ⟨w2, hw⟩ : ∃ x, w1.alloc (.cells (nils N) 34) = x := ⟨_, rfl⟩
      obtain ⟨g4, hg⟩ : ∃ x, w1.heap.size = x := ⟨_, rfl⟩
      have I2 := Lib.hid (I1.out.a4 hc (by omega) hB0 hw hg)
      rw [hw, hg]
      clear hw hg I1
      refine hK.out _ _ ((fun _ => trivial)) ?_
      clear hK K
      try simp only [Act.put, List.setIfInBounds_toArray, List.set_cons_zero, List.set_cons_succ]
      refine nw_take (i := 7) (v := ?_) rfl (by kernel_rfl) (by kernel_rfl) (fun _ _ d _ _ h => by cases d <;> exact h) (by exact hNS) (by kernel_rfl) ?_ (fun K hK => ?_); rotate_left; (· (intro w' hSw; (try dsimp only at hSw); go_simp; with_reducible rfl)); simp only [Act.put, List.setIfInBounds_toArray, List.set_cons_zero, List.set_cons_succ]; refine hK _ ?_; clear hK K
      refine nw_alts (rs := [8, 10, 12]) (by kernel_rfl) (by simp) (List.forall_mem_cons.2 ⟨nalt (E := False) rfl (fun K hK => ?_) (by kernel_rfl), List.forall_mem_cons.2 ⟨nalt (E := False) rfl (fun K hK => ?_) (by kernel_rfl), List.forall_mem_cons.2 ⟨nalt (E := False) rfl (fun K hK => ?_) (by kernel_rfl), fun _ h => absurd h (by simp)⟩⟩⟩)
      · go_simp
        obtain ⟨w3, hw⟩ : ∃ x, w2.alloc (.cells #[.slice (some ⟨g4, 0, none⟩) N N, .slice (some ⟨g6, 0, none⟩) N N] 96) = x := ⟨_, rfl⟩
        obtain ⟨g8, hg⟩ : ∃ x, w2.heap.size = x := ⟨_, rfl⟩
        have I3 := Lib.hid (I2.out.a8 hc (by omega) hB0 hw hg)
        rw [hw, hg]
        clear hw hg I2
        refine hK.out _ _ ((fun _ => trivial)) ?_
        clear hK K
        try simp only [Act.put, List.setIfInBounds_toArray, List.set_cons_zero, List.set_cons_succ]
        refine nw_alts (rs := [10, 12]) (by kernel_rfl) (by simp) (List.forall_mem_cons.2 ⟨nalt (E := False) rfl (fun K hK => ?_) (by kernel_rfl), List.forall_mem_cons.2 ⟨nalt (E := False) rfl (fun K hK => ?_) (by kernel_rfl), fun _ h => absurd h (by simp)⟩⟩)
        · go_simp
          obtain ⟨w4, hw⟩ : ∃ x, w3.alloc (.cells (nils N) 34) = x := ⟨_, rfl⟩
          obtain ⟨g10, hg⟩ : ∃ x, w3.heap.size = x := ⟨_, rfl⟩
          have I4 := Lib.hid (I3.out.a10 hc (by omega) hB0 hw hg)
          rw [hw, hg]
          clear hw hg I3
          refine hK.out _ _ ((fun _ => trivial)) ?_
          clear hK K
          try simp only [Act.put, List.setIfInBounds_toArray, List.set_cons_zero, List.set_cons_succ]
          refine nw_one (i := 12) (E := False) rfl (by kernel_rfl) (fun K hK => ?_) (by kernel_rfl)
          go_simp
          obtain ⟨w5, hw⟩ : ∃ x, w4.alloc (.cells (nils sh) 42) = x := ⟨_, rfl⟩
          obtain ⟨g12, hg⟩ : ∃ x, w4.heap.size = x := ⟨_, rfl⟩
          have I5 := Lib.hid (I4.out.a12 hc (by omega) hB0 hw hg)
          rw [hw, hg]
          clear hw hg I4
          refine hK.out _ _ ((fun _ => trivial)) ?_
          clear hK K
          try simp only [Act.put, List.setIfInBounds_toArray, List.set_cons_zero, List.set_cons_succ]
          refine nw_take (i := 13) (v := ?_) rfl (by kernel_rfl) (by kernel_rfl) (fun _ _ d _ _ h => by cases d <;> exact h) (by exact hNS) (by kernel_rfl) ?_ (fun K hK => ?_); rotate_left; (· (intro w' hSw; (try dsimp only at hSw); go_simp; with_reducible rfl)); simp only [Act.put, List.setIfInBounds_toArray, List.set_cons_zero, List.set_cons_succ]; refine hK _ ?_; clear hK K
          refine nw_one (i := 14) (E := False) rfl (by kernel_rfl) (fun K hK => ?_) (by kernel_rfl)
          go_simp
          obtain ⟨wf, hwf⟩ : ∃ x, w5.alloc (.cells #[.pointer (some ⟨dp, 0, none⟩), .int .i64 N, .int .i64 rm, .slice (some ⟨g8, 0, none⟩) 1 1, .slice (some ⟨g10, 0, none⟩) N N, .slice (some ⟨g12, 0, none⟩) sh sh, .int .i64 0, .int .i64 0] 74) = x := ⟨_, rfl⟩
          obtain ⟨pf, hpf⟩ : ∃ x, w5.heap.size = x := ⟨_, rfl⟩
          have FIN := Lib.hid (FINE.out _ _ _ _ _ _ _ _ I5.out hwf hpf)
          rw [hwf, hpf]
          clear hwf hpf I5 FINE
          refine hK.out _ _ ((fun _ => trivial)) ?_
          clear hK K
          try simp only [Act.put, List.setIfInBounds_toArray, List.set_cons_zero, List.set_cons_succ]
          refine nw_one (i := 15) (E := False) rfl (by kernel_rfl) (fun K hK => ?_) (by kernel_rfl)
          go_simp
          refine hK.out _ _ ((fun _ => trivial)) ?_
          clear hK K
          try simp only [Act.put, List.setIfInBounds_toArray, List.set_cons_zero, List.set_cons_succ]
          refine nw_one (i := 16) (E := False) rfl (by kernel_rfl) (fun K hK => ?_) (by kernel_rfl)
          go_simp
          refine hK.out _ _ ((fun _ => trivial)) ?_
          clear hK K
          try simp only [Act.put, List.setIfInBounds_toArray, List.set_cons_zero, List.set_cons_succ]
          refine nw_end (by kernel_rfl) ?_
          go_wp2_with fail
          go_ret2
          exact FIN.out
        · go_simp
          obtain ⟨w4, hw⟩ : ∃ x, w3.alloc (.cells (nils sh) 42) = x := ⟨_, rfl⟩
          obtain ⟨g12, hg⟩ : ∃ x, w3.heap.size = x := ⟨_, rfl⟩
          have I4 := Lib.hid (I3.out.a12 hc (by omega) hB0 hw hg)
          rw [hw, hg]
          clear hw hg I3
          refine hK.out _ _ ((fun _ => trivial)) ?_
          clear hK K
          try simp only [Act.put, List.setIfInBounds_toArray, List.set_cons_zero, List.set_cons_succ]
          refine nw_one (i := 10) (E := False) rfl (by kernel_rfl) (fun K hK => ?_) (by kernel_rfl)
          go_simp
          obtain ⟨w5, hw⟩ : ∃ x, w4.alloc (.cells (nils N) 34) = x := ⟨_, rfl⟩
          obtain ⟨g10, hg⟩ : ∃ x, w4.heap.size = x := ⟨_, rfl⟩
          have I5 := Lib.hid (I4.out.a10 hc (by omega) hB0 hw hg)
          rw [hw, hg]
          clear hw hg I4
          refine hK.out _ _ ((fun _ => trivial)) ?_
          clear hK K
          try simp only [Act.put, List.setIfInBounds_toArray, List.set_cons_zero, List.set_cons_succ]
          refine nw_take (i := 13) (v := ?_) rfl (by kernel_rfl) (by kernel_rfl) (fun _ _ d _ _ h => by cases d <;> exact h) (by exact hNS) (by kernel_rfl) ?_ (fun K hK => ?_); rotate_left; (· (intro w' hSw; (try dsimp only at hSw); go_simp; with_reducible rfl)); simp only [Act.put, List.setIfInBounds_toArray, List.set_cons_zero, List.set_cons_succ]; refine hK _ ?_; clear hK K
          refine nw_one (i := 14) (E := False) rfl (by kernel_rfl) (fun K hK => ?_) (by kernel_rfl)
          go_simp
          obtain ⟨wf, hwf⟩ : ∃ x, w5.alloc (.cells #[.pointer (some ⟨dp, 0, none⟩), .int .i64 N, .int .i64 rm, .slice (some ⟨g8, 0, none⟩) 1 1, .slice (some ⟨g10, 0, none⟩) N N, .slice (some ⟨g12, 0, none⟩) sh sh, .int .i64 0, .int .i64 0] 74) = x := ⟨_, rfl⟩
          obtain ⟨pf, hpf⟩ : ∃ x, w5.heap.size = x := ⟨_, rfl⟩
          have FIN := Lib.hid (FINE.out _ _ _ _ _ _ _ _ I5.out hwf hpf)
          rw [hwf, hpf]
          clear hwf hpf I5 FINE
          refine hK.out _ _ ((fun _ => trivial)) ?_
          clear hK K
          try simp only [Act.put, List.setIfInBounds_toArray, List.set_cons_zero, List.set_cons_succ]
          refine nw_one (i := 15) (E := False) rfl (by kernel_rfl) (fun K hK => ?_) (by kernel_rfl)
          go_simp
          refine hK.out _ _ ((fun _ => trivial)) ?_
          clear hK K
          try simp only [Act.put, List.setIfInBounds_toArray, List.set_cons_zero, List.set_cons_succ]
          refine nw_one (i := 16) (E := False) rfl (by kernel_rfl) (fun K hK => ?_) (by kernel_rfl)
          go_simp
          refine hK.out _ _ ((fun _ => trivial)) ?_
          clear hK K
          try simp only [Act.put, List.setIfInBounds_toArray, List.set_cons_zero, List.set_cons_succ]
          refine nw_end (by kernel_rfl) ?_
          go_wp2_with fail
          go_ret2
          exact FIN.out
      · go_simp
        obtain ⟨w3, hw⟩ : ∃ x, w2.alloc (.cells (nils N) 34) = x := ⟨_, rfl⟩
        obtain ⟨g10, hg⟩ : ∃ x, w2.heap.size = x := ⟨_, rfl⟩
        have I3 := Lib.hid (I2.out.a10 hc (by omega) hB0 hw hg)
        rw [hw, hg]
        clear hw hg I2
        refine hK.out _ _ ((fun _ => trivial)) ?_
        clear hK K
        try simp only [Act.put, List.setIfInBounds_toArray, List.set_cons_zero, List.set_cons_succ]
        refine nw_alts (rs := [8, 12]) (by kernel_rfl) (by simp) (List.forall_mem_cons.2 ⟨nalt (E := False) rfl (fun K hK => ?_) (by kernel_rfl), List.forall_mem_cons.2 ⟨nalt (E := False) rfl (fun K hK => ?_) (by kernel_rfl), fun _ h => absurd h (by simp)⟩⟩)
        · go_simp
          obtain ⟨w4, hw⟩ : ∃ x, w3.alloc (.cells #[.slice (some ⟨g4, 0, none⟩) N N, .slice (some ⟨g6, 0, none⟩) N N] 96) = x := ⟨_, rfl⟩
          obtain ⟨g8, hg⟩ : ∃ x, w3.heap.size = x := ⟨_, rfl⟩
          have I4 := Lib.hid (I3.out.a8 hc (by omega) hB0 hw hg)
          rw [hw, hg]
          clear hw hg I3
          refine hK.out _ _ ((fun _ => trivial)) ?_
          clear hK K
          try simp only [Act.put, List.setIfInBounds_toArray, List.set_cons_zero, List.set_cons_succ]
          refine nw_one (i := 12) (E := False) rfl (by kernel_rfl) (fun K hK => ?_) (by kernel_rfl)
          go_simp
          obtain ⟨w5, hw⟩ : ∃ x, w4.alloc (.cells (nils sh) 42) = x := ⟨_, rfl⟩
          obtain ⟨g12, hg⟩ : ∃ x, w4.heap.size = x := ⟨_, rfl⟩
          have I5 := Lib.hid (I4.out.a12 hc (by omega) hB0 hw hg)
          rw [hw, hg]
          clear hw hg I4
          refine hK.out _ _ ((fun _ => trivial)) ?_
          clear hK K
          try simp only [Act.put, List.setIfInBounds_toArray, List.set_cons_zero, List.set_cons_succ]
          refine nw_take (i := 13) (v := ?_) rfl (by kernel_rfl) (by kernel_rfl) (fun _ _ d _ _ h => by cases d <;> exact h) (by exact hNS) (by kernel_rfl) ?_ (fun K hK => ?_); rotate_left; (· (intro w' hSw; (try dsimp only at hSw); go_simp; with_reducible rfl)); simp only [Act.put, List.setIfInBounds_toArray, List.set_cons_zero, List.set_cons_succ]; refine hK _ ?_; clear hK K
          refine nw_one (i := 14) (E := False) rfl (by kernel_rfl) (fun K hK => ?_) (by kernel_rfl)
          go_simp
          obtain ⟨wf, hwf⟩ : ∃ x, w5.alloc (.cells #[.pointer (some ⟨dp, 0, none⟩), .int .i64 N, .int .i64 rm, .slice (some ⟨g8, 0, none⟩) 1 1, .slice (some ⟨g10, 0, none⟩) N N, .slice (some ⟨g12, 0, none⟩) sh sh, .int .i64 0, .int .i64 0] 74) = x := ⟨_, rfl⟩
          obtain ⟨pf, hpf⟩ : ∃ x, w5.heap.size = x := ⟨_, rfl⟩
          have FIN := Lib.hid (FINE.out _ _ _ _ _ _ _ _ I5.out hwf hpf)
          rw [hwf, hpf]
          clear hwf hpf I5 FINE
          refine hK.out _ _ ((fun _ => trivial)) ?_
          clear hK K
          try simp only [Act.put, List.setIfInBounds_toArray, List.set_cons_zero, List.set_cons_succ]
          refine nw_one (i := 15) (E := False) rfl (by kernel_rfl) (fun K hK => ?_) (by kernel_rfl)
          go_simp
          refine hK.out _ _ ((fun _ => trivial)) ?_
          clear hK K
          try simp only [Act.put, List.setIfInBounds_toArray, List.set_cons_zero, List.set_cons_succ]
          refine nw_one (i := 16) (E := False) rfl (by kernel_rfl) (fun K hK => ?_) (by kernel_rfl)
          go_simp
          refine hK.out _ _ ((fun _ => trivial)) ?_
          clear hK K
          try simp only [Act.put, List.setIfInBounds_toArray, List.set_cons_zero, List.set_cons_succ]
          refine nw_end (by kernel_rfl) ?_
          go_wp2_with fail
          go_ret2
          exact FIN.out
        · go_simp
          obtain ⟨w4, hw⟩ : ∃ x, w3.alloc (.cells (nils sh) 42) = x := ⟨_, rfl⟩
          obtain ⟨g12, hg⟩ : ∃ x, w3.heap.size = x := ⟨_, rfl⟩
          have I4 := Lib.hid (I3.out.a12 hc (by omega) hB0 hw hg)
          rw [hw, hg]
          clear hw hg I3
          refine hK.out _ _ ((fun _ => trivial)) ?_
          clear hK K
          try simp only [Act.put, List.setIfInBounds_toArray, List.set_cons_zero, List.set_cons_succ]
          refine nw_one (i := 8) (E := False) rfl (by kernel_rfl) (fun K hK => ?_) (by kernel_rfl)
          go_simp
          obtain ⟨w5, hw⟩ : ∃ x, w4.alloc (.cells #[.slice (some ⟨g4, 0, none⟩) N N, .slice (some ⟨g6, 0, none⟩) N N] 96) = x := ⟨_, rfl⟩
          obtain ⟨g8, hg⟩ : ∃ x, w4.heap.size = x := ⟨_, rfl⟩
          have I5 := Lib.hid (I4.out.a8 hc (by omega) hB0 hw hg)
          rw [hw, hg]
          clear hw hg I4
          refine hK.out _ _ ((fun _ => trivial)) ?_
          clear hK K
          try simp only [Act.put, List.setIfInBounds_toArray, List.set_cons_zero, List.set_cons_succ]
          refine nw_take (i := 13) (v := ?_) rfl (by kernel_rfl) (by kernel_rfl) (fun _ _ d _ _ h => by cases d <;> exact h) (by exact hNS) (by kernel_rfl) ?_ (fun K hK => ?_); rotate_left; (· (intro w' hSw; (try dsimp only at hSw); go_simp; with_reducible rfl)); simp only [Act.put, List.setIfInBounds_toArray, List.set_cons_zero, List.set_cons_succ]; refine hK _ ?_; clear hK K
          refine nw_one (i := 14) (E := False) rfl (by kernel_rfl) (fun K hK => ?_) (by kernel_rfl)
          go_simp
          obtain ⟨wf, hwf⟩ : ∃ x, w5.alloc (.cells #[.pointer (some ⟨dp, 0, none⟩), .int .i64 N, .int .i64 rm, .slice (some ⟨g8, 0, none⟩) 1 1, .slice (some ⟨g10, 0, none⟩) N N, .slice (some ⟨g12, 0, none⟩) sh sh, .int .i64 0, .int .i64 0] 74) = x := ⟨_, rfl⟩
          obtain ⟨pf, hpf⟩ : ∃ x, w5.heap.size = x := ⟨_, rfl⟩
          have FIN := Lib.hid (FINE.out _ _ _ _ _ _ _ _ I5.out hwf hpf)
          rw [hwf, hpf]
          clear hwf hpf I5 FINE
          refine hK.out _ _ ((fun _ => trivial)) ?_
          clear hK K
          try simp only [Act.put, List.setIfInBounds_toArray, List.set_cons_zero, List.set_cons_succ]
          refine nw_one (i := 15) (E := False) rfl (by kernel_rfl) (fun K hK => ?_) (by kernel_rfl)
          go_simp
          refine hK.out _ _ ((fun _ => trivial)) ?_
          clear hK K
          try simp only [Act.put, List.setIfInBounds_toArray, List.set_cons_zero, List.set_cons_succ]
          refine nw_one (i := 16) (E := False) rfl (by kernel_rfl) (fun K hK => ?_) (by kernel_rfl)
          go_simp
          refine hK.out _ _ ((fun _ => trivial)) ?_
          clear hK K
          try simp only [Act.put, List.setIfInBounds_toArray, List.set_cons_zero, List.set_cons_succ]
          refine nw_end (by kernel_rfl) ?_
          go_wp2_with fail
          go_ret2
          exact FIN.out
      · go_simp
        obtain ⟨w3, hw⟩ : ∃ x, w2.alloc (.cells (nils sh) 42) = x := ⟨_, rfl⟩
        obtain ⟨g12, hg⟩ : ∃ x, w2.heap.size = x := ⟨_, rfl⟩
        have I3 := Lib.hid (I2.out.a12 hc (by omega) hB0 hw hg)
        rw [hw, hg]
        clear hw hg I2
        refine hK.out _ _ ((fun _ => trivial)) ?_
        clear hK K
        try simp only [Act.put, List.setIfInBounds_toArray, List.set_cons_zero, List.set_cons_succ]
        refine nw_alts (rs := [8, 10]) (by kernel_rfl) (by simp) (List.forall_mem_cons.2 ⟨nalt (E := False) rfl (fun K hK => ?_) (by kernel_rfl), List.forall_mem_cons.2 ⟨nalt (E := False) rfl (fun K hK => ?_) (by kernel_rfl), fun _ h => absurd h (by simp)⟩⟩)
        · go_simp
          obtain ⟨w4, hw⟩ : ∃ x, w3.alloc (.cells #[.slice (some ⟨g4, 0, none⟩) N N, .slice (some ⟨g6, 0, none⟩) N N] 96) = x := ⟨_, rfl⟩
          obtain ⟨g8, hg⟩ : ∃ x, w3.heap.size = x := ⟨_, rfl⟩
          have I4 := Lib.hid (I3.out.a8 hc (by omega) hB0 hw hg)
          rw [hw, hg]
          clear hw hg I3
          refine hK.out _ _ ((fun _ => trivial)) ?_
          clear hK K
          try simp only [Act.put, List.setIfInBounds_toArray, List.set_cons_zero, List.set_cons_succ]
          refine nw_one (i := 10) (E := False) rfl (by kernel_rfl) (fun K hK => ?_) (by kernel_rfl)
          go_simp
          obtain ⟨w5, hw⟩ : ∃ x, w4.alloc (.cells (nils N) 34) = x := ⟨_, rfl⟩
          obtain ⟨g10, hg⟩ : ∃ x, w4.heap.size = x := ⟨_, rfl⟩
          have I5 := Lib.hid (I4.out.a10 hc (by omega) hB0 hw hg)
          rw [hw, hg]
          clear hw hg I4
          refine hK.out _ _ ((fun _ => trivial)) ?_
          clear hK K
          try simp only [Act.put, List.setIfInBounds_toArray, List.set_cons_zero, List.set_cons_succ]
          refine nw_take (i := 13) (v := ?_) rfl (by kernel_rfl) (by kernel_rfl) (fun _ _ d _ _ h => by cases d <;> exact h) (by exact hNS) (by kernel_rfl) ?_ (fun K hK => ?_); rotate_left; (· (intro w' hSw; (try dsimp only at hSw); go_simp; with_reducible rfl)); simp only [Act.put, List.setIfInBounds_toArray, List.set_cons_zero, List.set_cons_succ]; refine hK _ ?_; clear hK K
          refine nw_one (i := 14) (E := False) rfl (by kernel_rfl) (fun K hK => ?_) (by kernel_rfl)
          go_simp
          obtain ⟨wf, hwf⟩ : ∃ x, w5.alloc (.cells #[.pointer (some ⟨dp, 0, none⟩), .int .i64 N, .int .i64 rm, .slice (some ⟨g8, 0, none⟩) 1 1, .slice (some ⟨g10, 0, none⟩) N N, .slice (some ⟨g12, 0, none⟩) sh sh, .int .i64 0, .int .i64 0] 74) = x := ⟨_, rfl⟩
          obtain ⟨pf, hpf⟩ : ∃ x, w5.heap.size = x := ⟨_, rfl⟩
          have FIN := Lib.hid (FINE.out _ _ _ _ _ _ _ _ I5.out hwf hpf)
          rw [hwf, hpf]
          clear hwf hpf I5 FINE
          refine hK.out _ _ ((fun _ => trivial)) ?_
          clear hK K
          try simp only [Act.put, List.setIfInBounds_toArray, List.set_cons_zero, List.set_cons_succ]
          refine nw_one (i := 15) (E := False) rfl (by kernel_rfl) (fun K hK => ?_) (by kernel_rfl)
          go_simp
          refine hK.out _ _ ((fun _ => trivial)) ?_
          clear hK K
          try simp only [Act.put, List.setIfInBounds_toArray, List.set_cons_zero, List.set_cons_succ]
          refine nw_one (i := 16) (E := False) rfl (by kernel_rfl) (fun K hK => ?_) (by kernel_rfl)
          go_simp
          refine hK.out _ _ ((fun _ => trivial)) ?_
          clear hK K
          try simp only [Act.put, List.setIfInBounds_toArray, List.set_cons_zero, List.set_cons_succ]
          refine nw_end (by kernel_rfl) ?_
          go_wp2_with fail
          go_ret2
          exact FIN.out
        · go_simp
          obtain ⟨w4, hw⟩ : ∃ x, w3.alloc (.cells (nils N) 34) = x := ⟨_, rfl⟩
          obtain ⟨g10, hg⟩ : ∃ x, w3.heap.size = x := ⟨_, rfl⟩
          have I4 := Lib.hid (I3.out.a10 hc (by omega) hB0 hw hg)
          rw [hw, hg]
          clear hw hg I3
          refine hK.out _ _ ((fun _ => trivial)) ?_
          clear hK K
          try simp only [Act.put, List.setIfInBounds_toArray, List.set_cons_zero, List.set_cons_succ]
          refine nw_one (i := 8) (E := False) rfl (by kernel_rfl) (fun K hK => ?_) (by kernel_rfl)
          go_simp
          obtain ⟨w5, hw⟩ : ∃ x, w4.alloc (.cells #[.slice (some ⟨g4, 0, none⟩) N N, .slice (some ⟨g6, 0, none⟩) N N] 96) = x := ⟨_, rfl⟩
          obtain ⟨g8, hg⟩ : ∃ x, w4.heap.size = x := ⟨_, rfl⟩
          have I5 := Lib.hid (I4.out.a8 hc (by omega) hB0 hw hg)
          rw [hw, hg]
          clear hw hg I4
          refine hK.out _ _ ((fun _ => trivial)) ?_
          clear hK K
          try simp only [Act.put, List.setIfInBounds_toArray, List.set_cons_zero, List.set_cons_succ]
          refine nw_take (i := 13) (v := ?_) rfl (by kernel_rfl) (by kernel_rfl) (fun _ _ d _ _ h => by cases d <;> exact h) (by exact hNS) (by kernel_rfl) ?_ (fun K hK => ?_); rotate_left; (· (intro w' hSw; (try dsimp only at hSw); go_simp; with_reducible rfl)); simp only [Act.put, List.setIfInBounds_toArray, List.set_cons_zero, List.set_cons_succ]; refine hK _ ?_; clear hK K
          refine nw_one (i := 14) (E := False) rfl (by kernel_rfl) (fun K hK => ?_) (by kernel_rfl)
          go_simp
          obtain ⟨wf, hwf⟩ : ∃ x, w5.alloc (.cells #[.pointer (some ⟨dp, 0, none⟩), .int .i64 N, .int .i64 rm, .slice (some ⟨g8, 0, none⟩) 1 1, .slice (some ⟨g10, 0, none⟩) N N, .slice (some ⟨g12, 0, none⟩) sh sh, .int .i64 0, .int .i64 0] 74) = x := ⟨_, rfl⟩
          obtain ⟨pf, hpf⟩ : ∃ x, w5.heap.size = x := ⟨_, rfl⟩
          have FIN := Lib.hid (FINE.out _ _ _ _ _ _ _ _ I5.out hwf hpf)
          rw [hwf, hpf]
          clear hwf hpf I5 FINE
          refine hK.out _ _ ((fun _ => trivial)) ?_
          clear hK K
          try simp only [Act.put, List.setIfInBounds_toArray, List.set_cons_zero, List.set_cons_succ]
          refine nw_one (i := 15) (E := False) rfl (by kernel_rfl) (fun K hK => ?_) (by kernel_rfl)
          go_simp
          refine hK.out _ _ ((fun _ => trivial)) ?_
          clear hK K
          try simp only [Act.put, List.setIfInBounds_toArray, List.set_cons_zero, List.set_cons_succ]
          refine nw_one (i := 16) (E := False) rfl (by kernel_rfl) (fun K hK => ?_) (by kernel_rfl)
          go_simp
          refine hK.out _ _ ((fun _ => trivial)) ?_
          clear hK K
          try simp only [Act.put, List.setIfInBounds_toArray, List.set_cons_zero, List.set_cons_succ]
          refine nw_end (by kernel_rfl) ?_
          go_wp2_with fail
          go_ret2
          exact FIN.out
    · go_simp
      obtain ⟨w2, hw⟩ : ∃ x, w1.alloc (.cells (nils N) 34) = x := ⟨_, rfl⟩
      obtain ⟨g10, hg⟩ : ∃ x, w1.heap.size = x := ⟨_, rfl⟩
      have I2 := Lib.hid (I1.out.a10 hc (by omega) hB0 hw hg)
      rw [hw, hg]
      clear hw hg I1
      refine hK.out _ _ ((fun _ => trivial)) ?_
      clear hK K
      try simp only [Act.put, List.setIfInBounds_toArray, List.set_cons_zero, List.set_cons_succ]
      refine nw_alts (rs := [4, 12]) (by kernel_rfl) (by simp) (List.forall_mem_cons.2 ⟨nalt (E := False) rfl (fun K hK => ?_) (by kernel_rfl), List.forall_mem_cons.2 ⟨nalt (E := False) rfl (fun K hK => ?_) (by kernel_rfl), fun _ h => absurd h (by simp)⟩⟩)
      · go_simp
        obtain ⟨w3, hw⟩ : ∃ x, w2.alloc (.cells (nils N) 34) = x := ⟨_, rfl⟩
        obtain ⟨g4, hg⟩ : ∃ x, w2.heap.size = x := ⟨_, rfl⟩
        have I3 := Lib.hid (I2.out.a4 hc (by omega) hB0 hw hg)
        rw [hw, hg]
        clear hw hg I2
        refine hK.out _ _ ((fun _ => trivial)) ?_
        clear hK K
        try simp only [Act.put, List.setIfInBounds_toArray, List.set_cons_zero, List.set_cons_succ]
        refine nw_take (i := 7) (v := ?_) rfl (by kernel_rfl) (by kernel_rfl) (fun _ _ d _ _ h => by cases d <;> exact h) (by exact hNS) (by kernel_rfl) ?_ (fun K hK => ?_); rotate_left; (· (intro w' hSw; (try dsimp only at hSw); go_simp; with_reducible rfl)); simp only [Act.put, List.setIfInBounds_toArray, List.set_cons_zero, List.set_cons_succ]; refine hK _ ?_; clear hK K
        refine nw_alts (rs := [8, 12]) (by kernel_rfl) (by simp) (List.forall_mem_cons.2 ⟨nalt (E := False) rfl (fun K hK => ?_) (by kernel_rfl), List.forall_mem_cons.2 ⟨nalt (E := False) rfl (fun K hK => ?_) (by kernel_rfl), fun _ h => absurd h (by simp)⟩⟩)
        · go_simp
          obtain ⟨w4, hw⟩ : ∃ x, w3.alloc (.cells #[.slice (some ⟨g4, 0, none⟩) N N, .slice (some ⟨g6, 0, none⟩) N N] 96) = x := ⟨_, rfl⟩
          obtain ⟨g8, hg⟩ : ∃ x, w3.heap.size = x := ⟨_, rfl⟩
          have I4 := Lib.hid (I3.out.a8 hc (by omega) hB0 hw hg)
          rw [hw, hg]
          clear hw hg I3
          refine hK.out _ _ ((fun _ => trivial)) ?_
          clear hK K
          try simp only [Act.put, List.setIfInBounds_toArray, List.set_cons_zero, List.set_cons_succ]
          refine nw_one (i := 12) (E := False) rfl (by kernel_rfl) (fun K hK => ?_) (by kernel_rfl)
          go_simp
          obtain ⟨w5, hw⟩ : ∃ x, w4.alloc (.cells (nils sh) 42) = x := ⟨_, rfl⟩
          obtain ⟨g12, hg⟩ : ∃ x, w4.heap.size = x := ⟨_, rfl⟩
          have I5 := Lib.hid (I4.out.a12 hc (by omega) hB0 hw hg)
          rw [hw, hg]
          clear hw hg I4
          refine hK.out _ _ ((fun _ => trivial)) ?_
          clear hK K
          try simp only [Act.put, List.setIfInBounds_toArray, List.set_cons_zero, List.set_cons_succ]
          refine nw_take (i := 13) (v := ?_) rfl (by kernel_rfl) (by kernel_rfl) (fun _ _ d _ _ h => by cases d <;> exact h) (by exact hNS) (by kernel_rfl) ?_ (fun K hK => ?_); rotate_left; (· (intro w' hSw; (try dsimp only at hSw); go_simp; with_reducible rfl)); simp only [Act.put, List.setIfInBounds_toArray, List.set_cons_zero, List.set_cons_succ]; refine hK _ ?_; clear hK K
          refine nw_one (i := 14) (E := False) rfl (by kernel_rfl) (fun K hK => ?_) (by kernel_rfl)
          go_simp
          obtain ⟨wf, hwf⟩ : ∃ x, w5.alloc (.cells #[.pointer (some ⟨dp, 0, none⟩), .int .i64 N, .int .i64 rm, .slice (some ⟨g8, 0, none⟩) 1 1, .slice (some ⟨g10, 0, none⟩) N N, .slice (some ⟨g12, 0, none⟩) sh sh, .int .i64 0, .int .i64 0] 74) = x := ⟨_, rfl⟩
          obtain ⟨pf, hpf⟩ : ∃ x, w5.heap.size = x := ⟨_, rfl⟩
          have FIN := Lib.hid (FINE.out _ _ _ _ _ _ _ _ I5.out hwf hpf)
          rw [hwf, hpf]
          clear hwf hpf I5 FINE
          refine hK.out _ _ ((fun _ => trivial)) ?_
          clear hK K
          try simp only [Act.put, List.setIfInBounds_toArray, List.set_cons_zero, List.set_cons_succ]
          refine nw_one (i := 15) (E := False) rfl (by kernel_rfl) (fun K hK => ?_) (by kernel_rfl)
          go_simp
          refine hK.out _ _ ((fun _ => trivial)) ?_
          clear hK K
          try simp only [Act.put, List.setIfInBounds_toArray, List.set_cons_zero, List.set_cons_succ]
          refine nw_one (i := 16) (E := False) rfl (by kernel_rfl) (fun K hK => ?_) (by kernel_rfl)
          go_simp
          refine hK.out _ _ ((fun _ => trivial)) ?_
          clear hK K
          try simp only [Act.put, List.setIfInBounds_toArray, List.set_cons_zero, List.set_cons_succ]
          refine nw_end (by kernel_rfl) ?_
          go_wp2_with fail
          go_ret2
          exact FIN.out
        · go_simp
          obtain ⟨w4, hw⟩ : ∃ x, w3.alloc (.cells (nils sh) 42) = x := ⟨_, rfl⟩
          obtain ⟨g12, hg⟩ : ∃ x, w3.heap.size = x := ⟨_, rfl⟩
          have I4 := Lib.hid (I3.out.a12 hc (by omega) hB0 hw hg)
          rw [hw, hg]
          clear hw hg I3
          refine hK.out _ _ ((fun _ => trivial)) ?_
          clear hK K
          try simp only [Act.put, List.setIfInBounds_toArray, List.set_cons_zero, List.set_cons_succ]
          refine nw_one (i := 8) (E := False) rfl (by kernel_rfl) (fun K hK => ?_) (by kernel_rfl)
          go_simp
          obtain ⟨w5, hw⟩ : ∃ x, w4.alloc (.cells #[.slice (some ⟨g4, 0, none⟩) N N, .slice (some ⟨g6, 0, none⟩) N N] 96) = x := ⟨_, rfl⟩
          obtain ⟨g8, hg⟩ : ∃ x, w4.heap.size = x := ⟨_, rfl⟩
          have I5 := Lib.hid (I4.out.a8 hc (by omega) hB0 hw hg)
          rw [hw, hg]
          clear hw hg I4
          refine hK.out _ _ ((fun _ => trivial)) ?_
          clear hK K
          try simp only [Act.put, List.setIfInBounds_toArray, List.set_cons_zero, List.set_cons_succ]
          refine nw_take (i := 13) (v := ?_) rfl (by kernel_rfl) (by kernel_rfl) (fun _ _ d _ _ h => by cases d <;> exact h) (by exact hNS) (by kernel_rfl) ?_ (fun K hK => ?_); rotate_left; (· (intro w' hSw; (try dsimp only at hSw); go_simp; with_reducible rfl)); simp only [Act.put, List.setIfInBounds_toArray, List.set_cons_zero, List.set_cons_succ]; refine hK _ ?_; clear hK K
          refine nw_one (i := 14) (E := False) rfl (by kernel_rfl) (fun K hK => ?_) (by kernel_rfl)
          go_simp
          obtain ⟨wf, hwf⟩ : ∃ x, w5.alloc (.cells #[.pointer (some ⟨dp, 0, none⟩), .int .i64 N, .int .i64 rm, .slice (some ⟨g8, 0, none⟩) 1 1, .slice (some ⟨g10, 0, none⟩) N N, .slice (some ⟨g12, 0, none⟩) sh sh, .int .i64 0, .int .i64 0] 74) = x := ⟨_, rfl⟩
          obtain ⟨pf, hpf⟩ : ∃ x, w5.heap.size = x := ⟨_, rfl⟩
          have FIN := Lib.hid (FINE.out _ _ _ _ _ _ _ _ I5.out hwf hpf)
          rw [hwf, hpf]
          clear hwf hpf I5 FINE
          refine hK.out _ _ ((fun _ => trivial)) ?_
          clear hK K
          try simp only [Act.put, List.setIfInBounds_toArray, List.set_cons_zero, List.set_cons_succ]
          refine nw_one (i := 15) (E := False) rfl (by kernel_rfl) (fun K hK => ?_) (by kernel_rfl)
          go_simp
          refine hK.out _ _ ((fun _ => trivial)) ?_
          clear hK K
          try simp only [Act.put, List.setIfInBounds_toArray, List.set_cons_zero, List.set_cons_succ]
          refine nw_one (i := 16) (E := False) rfl (by kernel_rfl) (fun K hK => ?_) (by kernel_rfl)
          go_simp
          refine hK.out _ _ ((fun _ => trivial)) ?_
          clear hK K
          try simp only [Act.put, List.setIfInBounds_toArray, List.set_cons_zero, List.set_cons_succ]
          refine nw_end (by kernel_rfl) ?_
          go_wp2_with fail
          go_ret2
          exact FIN.out
      · go_simp
        obtain ⟨w3, hw⟩ : ∃ x, w2.alloc (.cells (nils sh) 42) = x := ⟨_, rfl⟩
        obtain ⟨g12, hg⟩ : ∃ x, w2.heap.size = x := ⟨_, rfl⟩
        have I3 := Lib.hid (I2.out.a12 hc (by omega) hB0 hw hg)
        rw [hw, hg]
        clear hw hg I2
        refine hK.out _ _ ((fun _ => trivial)) ?_
        clear hK K
        try simp only [Act.put, List.setIfInBounds_toArray, List.set_cons_zero, List.set_cons_succ]
        refine nw_one (i := 4) (E := False) rfl (by kernel_rfl) (fun K hK => ?_) (by kernel_rfl)
        go_simp
        obtain ⟨w4, hw⟩ : ∃ x, w3.alloc (.cells (nils N) 34) = x := ⟨_, rfl⟩
        obtain ⟨g4, hg⟩ : ∃ x, w3.heap.size = x := ⟨_, rfl⟩
        have I4 := Lib.hid (I3.out.a4 hc (by omega) hB0 hw hg)
        rw [hw, hg]
        clear hw hg I3
        refine hK.out _ _ ((fun _ => trivial)) ?_
        clear hK K
        try simp only [Act.put, List.setIfInBounds_toArray, List.set_cons_zero, List.set_cons_succ]
        refine nw_take (i := 7) (v := ?_) rfl (by kernel_rfl) (by kernel_rfl) (fun _ _ d _ _ h => by cases d <;> exact h) (by exact hNS) (by kernel_rfl) ?_ (fun K hK => ?_); rotate_left; (· (intro w' hSw; (try dsimp only at hSw); go_simp; with_reducible rfl)); simp only [Act.put, List.setIfInBounds_toArray, List.set_cons_zero, List.set_cons_succ]; refine hK _ ?_; clear hK K
        refine nw_one (i := 8) (E := False) rfl (by kernel_rfl) (fun K hK => ?_) (by kernel_rfl)
        go_simp
        obtain ⟨w5, hw⟩ : ∃ x, w4.alloc (.cells #[.slice (some ⟨g4, 0, none⟩) N N, .slice (some ⟨g6, 0, none⟩) N N] 96) = x := ⟨_, rfl⟩
        obtain ⟨g8, hg⟩ : ∃ x, w4.heap.size = x := ⟨_, rfl⟩
        have I5 := Lib.hid (I4.out.a8 hc (by omega) hB0 hw hg)
        rw [hw, hg]
        clear hw hg I4
        refine hK.out _ _ ((fun _ => trivial)) ?_
        clear hK K
        try simp only [Act.put, List.setIfInBounds_toArray, List.set_cons_zero, List.set_cons_succ]
        refine nw_take (i := 13) (v := ?_) rfl (by kernel_rfl) (by kernel_rfl) (fun _ _ d _ _ h => by cases d <;> exact h) (by exact hNS) (by kernel_rfl) ?_ (fun K hK => ?_); rotate_left; (· (intro w' hSw; (try dsimp only at hSw); go_simp; with_reducible rfl)); simp only [Act.put, List.setIfInBounds_toArray, List.set_cons_zero, List.set_cons_succ]; refine hK _ ?_; clear hK K
        refine nw_one (i := 14) (E := False) rfl (by kernel_rfl) (fun K hK => ?_) (by kernel_rfl)
        go_simp
        obtain ⟨wf, hwf⟩ : ∃ x, w5.alloc (.cells #[.pointer (some ⟨dp, 0, none⟩), .int .i64 N, .int .i64 rm, .slice (some ⟨g8, 0, none⟩) 1 1, .slice (some ⟨g10, 0, none⟩) N N, .slice (some ⟨g12, 0, none⟩) sh sh, .int .i64 0, .int .i64 0] 74) = x := ⟨_, rfl⟩
        obtain ⟨pf, hpf⟩ : ∃ x, w5.heap.size = x := ⟨_, rfl⟩
        have FIN := Lib.hid (FINE.out _ _ _ _ _ _ _ _ I5.out hwf hpf)
        rw [hwf, hpf]
        clear hwf hpf I5 FINE
        refine hK.out _ _ ((fun _ => trivial)) ?_
        clear hK K
        try simp only [Act.put, List.setIfInBounds_toArray, List.set_cons_zero, List.set_cons_succ]
        refine nw_one (i := 15) (E := False) rfl (by kernel_rfl) (fun K hK => ?_) (by kernel_rfl)
        go_simp
        refine hK.out _ _ ((fun _ => trivial)) ?_
        clear hK K
        try simp only [Act.put, List.setIfInBounds_toArray, List.set_cons_zero, List.set_cons_succ]
        refine nw_one (i := 16) (E := False) rfl (by kernel_rfl) (fun K hK => ?_) (by kernel_rfl)
        go_simp
        refine hK.out _ _ ((fun _ => trivial)) ?_
        clear hK K
        try simp only [Act.put, List.setIfInBounds_toArray, List.set_cons_zero, List.set_cons_succ]
        refine nw_end (by kernel_rfl) ?_
        go_wp2_with fail
        go_ret2
        exact FIN.out
    · go_simp
      obtain ⟨w2, hw⟩ : ∃ x, w1.alloc (.cells (nils sh) 42) = x := ⟨_, rfl⟩
      obtain ⟨g12, hg⟩ : ∃ x, w1.heap.size = x := ⟨_, rfl⟩
      have I2 := Lib.hid (I1.out.a12 hc (by omega) hB0 hw hg)
      rw [hw, hg]
      clear hw hg I1
      refine hK.out _ _ ((fun _ => trivial)) ?_
      clear hK K
      try simp only [Act.put, List.setIfInBounds_toArray, List.set_cons_zero, List.set_cons_succ]
      refine nw_alts (rs := [4, 10]) (by kernel_rfl) (by simp) (List.forall_mem_cons.2 ⟨nalt (E := False) rfl (fun K hK => ?_) (by kernel_rfl), List.forall_mem_cons.2 ⟨nalt (E := False) rfl (fun K hK => ?_) (by kernel_rfl), fun _ h => absurd h (by simp)⟩⟩)
      · go_simp
        obtain ⟨w3, hw⟩ : ∃ x, w2.alloc (.cells (nils N) 34) = x := ⟨_, rfl⟩
        obtain ⟨g4, hg⟩ : ∃ x, w2.heap.size = x := ⟨_, rfl⟩
        have I3 := Lib.hid (I2.out.a4 hc (by omega) hB0 hw hg)
        rw [hw, hg]
        clear hw hg I2
        refine hK.out _ _ ((fun _ => trivial)) ?_
        clear hK K
        try simp only [Act.put, List.setIfInBounds_toArray, List.set_cons_zero, List.set_cons_succ]
        refine nw_take (i := 7) (v := ?_) rfl (by kernel_rfl) (by kernel_rfl) (fun _ _ d _ _ h => by cases d <;> exact h) (by exact hNS) (by kernel_rfl) ?_ (fun K hK => ?_); rotate_left; (· (intro w' hSw; (try dsimp only at hSw); go_simp; with_reducible rfl)); simp only [Act.put, List.setIfInBounds_toArray, List.set_cons_zero, List.set_cons_succ]; refine hK _ ?_; clear hK K
        refine nw_alts (rs := [8, 10]) (by kernel_rfl) (by simp) (List.forall_mem_cons.2 ⟨nalt (E := False) rfl (fun K hK => ?_) (by kernel_rfl), List.forall_mem_cons.2 ⟨nalt (E := False) rfl (fun K hK => ?_) (by kernel_rfl), fun _ h => absurd h (by simp)⟩⟩)
        · go_simp
          obtain ⟨w4, hw⟩ : ∃ x, w3.alloc (.cells #[.slice (some ⟨g4, 0, none⟩) N N, .slice (some ⟨g6, 0, none⟩) N N] 96) = x := ⟨_, rfl⟩
          obtain ⟨g8, hg⟩ : ∃ x, w3.heap.size = x := ⟨_, rfl⟩
          have I4 := Lib.hid (I3.out.a8 hc (by omega) hB0 hw hg)
          rw [hw, hg]
          clear hw hg I3
          refine hK.out _ _ ((fun _ => trivial)) ?_
          clear hK K
          try simp only [Act.put, List.setIfInBounds_toArray, List.set_cons_zero, List.set_cons_succ]
          refine nw_one (i := 10) (E := False) rfl (by kernel_rfl) (fun K hK => ?_) (by kernel_rfl)
          go_simp
          obtain ⟨w5, hw⟩ : ∃ x, w4.alloc (.cells (nils N) 34) = x := ⟨_, rfl⟩
          obtain ⟨g10, hg⟩ : ∃ x, w4.heap.size = x := ⟨_, rfl⟩
          have I5 := Lib.hid (I4.out.a10 hc (by omega) hB0 hw hg)
          rw [hw, hg]
          clear hw hg I4
          refine hK.out _ _ ((fun _ => trivial)) ?_
          clear hK K
          try simp only [Act.put, List.setIfInBounds_toArray, List.set_cons_zero, List.set_cons_succ]
          refine nw_take (i := 13) (v := ?_) rfl (by kernel_rfl) (by kernel_rfl) (fun _ _ d _ _ h => by cases d <;> exact h) (by exact hNS) (by kernel_rfl) ?_ (fun K hK => ?_); rotate_left; (· (intro w' hSw; (try dsimp only at hSw); go_simp; with_reducible rfl)); simp only [Act.put, List.setIfInBounds_toArray, List.set_cons_zero, List.set_cons_succ]; refine hK _ ?_; clear hK K
          refine nw_one (i := 14) (E := False) rfl (by kernel_rfl) (fun K hK => ?_) (by kernel_rfl)
          go_simp
          obtain ⟨wf, hwf⟩ : ∃ x, w5.alloc (.cells #[.pointer (some ⟨dp, 0, none⟩), .int .i64 N, .int .i64 rm, .slice (some ⟨g8, 0, none⟩) 1 1, .slice (some ⟨g10, 0, none⟩) N N, .slice (some ⟨g12, 0, none⟩) sh sh, .int .i64 0, .int .i64 0] 74) = x := ⟨_, rfl⟩
          obtain ⟨pf, hpf⟩ : ∃ x, w5.heap.size = x := ⟨_, rfl⟩
          have FIN := Lib.hid (FINE.out _ _ _ _ _ _ _ _ I5.out hwf hpf)
          rw [hwf, hpf]
          clear hwf hpf I5 FINE
          refine hK.out _ _ ((fun _ => trivial)) ?_
          clear hK K
          try simp only [Act.put, List.setIfInBounds_toArray, List.set_cons_zero, List.set_cons_succ]
          refine nw_one (i := 15) (E := False) rfl (by kernel_rfl) (fun K hK => ?_) (by kernel_rfl)
          go_simp
          refine hK.out _ _ ((fun _ => trivial)) ?_
          clear hK K
          try simp only [Act.put, List.setIfInBounds_toArray, List.set_cons_zero, List.set_cons_succ]
          refine nw_one (i := 16) (E := False) rfl (by kernel_rfl) (fun K hK => ?_) (by kernel_rfl)
          go_simp
          refine hK.out _ _ ((fun _ => trivial)) ?_
          clear hK K
          try simp only [Act.put, List.setIfInBounds_toArray, List.set_cons_zero, List.set_cons_succ]
          refine nw_end (by kernel_rfl) ?_
          go_wp2_with fail
          go_ret2
          exact FIN.out
        · go_simp
          obtain ⟨w4, hw⟩ : ∃ x, w3.alloc (.cells (nils N) 34) = x := ⟨_, rfl⟩
          obtain ⟨g10, hg⟩ : ∃ x, w3.heap.size = x := ⟨_, rfl⟩
          have I4 := Lib.hid (I3.out.a10 hc (by omega) hB0 hw hg)
          rw [hw, hg]
          clear hw hg I3
          refine hK.out _ _ ((fun _ => trivial)) ?_
          clear hK K
          try simp only [Act.put, List.setIfInBounds_toArray, List.set_cons_zero, List.set_cons_succ]
          refine nw_one (i := 8) (E := False) rfl (by kernel_rfl) (fun K hK => ?_) (by kernel_rfl)
          go_simp
          obtain ⟨w5, hw⟩ : ∃ x, w4.alloc (.cells #[.slice (some ⟨g4, 0, none⟩) N N, .slice (some ⟨g6, 0, none⟩) N N] 96) = x := ⟨_, rfl⟩
          obtain ⟨g8, hg⟩ : ∃ x, w4.heap.size = x := ⟨_, rfl⟩
          have I5 := Lib.hid (I4.out.a8 hc (by omega) hB0 hw hg)
          rw [hw, hg]
          clear hw hg I4
          refine hK.out _ _ ((fun _ => trivial)) ?_
          clear hK K
          try simp only [Act.put, List.setIfInBounds_toArray, List.set_cons_zero, List.set_cons_succ]
          refine nw_take (i := 13) (v := ?_) rfl (by kernel_rfl) (by kernel_rfl) (fun _ _ d _ _ h => by cases d <;> exact h) (by exact hNS) (by kernel_rfl) ?_ (fun K hK => ?_); rotate_left; (· (intro w' hSw; (try dsimp only at hSw); go_simp; with_reducible rfl)); simp only [Act.put, List.setIfInBounds_toArray, List.set_cons_zero, List.set_cons_succ]; refine hK _ ?_; clear hK K
          refine nw_one (i := 14) (E := False) rfl (by kernel_rfl) (fun K hK => ?_) (by kernel_rfl)
          go_simp
          obtain ⟨wf, hwf⟩ : ∃ x, w5.alloc (.cells #[.pointer (some ⟨dp, 0, none⟩), .int .i64 N, .int .i64 rm, .slice (some ⟨g8, 0, none⟩) 1 1, .slice (some ⟨g10, 0, none⟩) N N, .slice (some ⟨g12, 0, none⟩) sh sh, .int .i64 0, .int .i64 0] 74) = x := ⟨_, rfl⟩
          obtain ⟨pf, hpf⟩ : ∃ x, w5.heap.size = x := ⟨_, rfl⟩
          have FIN := Lib.hid (FINE.out _ _ _ _ _ _ _ _ I5.out hwf hpf)
          rw [hwf, hpf]
          clear hwf hpf I5 FINE
          refine hK.out _ _ ((fun _ => trivial)) ?_
          clear hK K
          try simp only [Act.put, List.setIfInBounds_toArray, List.set_cons_zero, List.set_cons_succ]
          refine nw_one (i := 15) (E := False) rfl (by kernel_rfl) (fun K hK => ?_) (by kernel_rfl)
          go_simp
          refine hK.out _ _ ((fun _ => trivial)) ?_
          clear hK K
          try simp only [Act.put, List.setIfInBounds_toArray, List.set_cons_zero, List.set_cons_succ]
          refine nw_one (i := 16) (E := False) rfl (by kernel_rfl) (fun K hK => ?_) (by kernel_rfl)
          go_simp
          refine hK.out _ _ ((fun _ => trivial)) ?_
          clear hK K
          try simp only [Act.put, List.setIfInBounds_toArray, List.set_cons_zero, List.set_cons_succ]
          refine nw_end (by kernel_rfl) ?_
          go_wp2_with fail
          go_ret2
          exact FIN.out
      · go_simp
        obtain ⟨w3, hw⟩ : ∃ x, w2.alloc (.cells (nils N) 34) = x := ⟨_, rfl⟩
        obtain ⟨g10, hg⟩ : ∃ x, w2.heap.size = x := ⟨_, rfl⟩
        have I3 := Lib.hid (I2.out.a10 hc (by omega) hB0 hw hg)
        rw [hw, hg]
        clear hw hg I2
        refine hK.out _ _ ((fun _ => trivial)) ?_
        clear hK K
        try simp only [Act.put, List.setIfInBounds_toArray, List.set_cons_zero, List.set_cons_succ]
        refine nw_one (i := 4) (E := False) rfl (by kernel_rfl) (fun K hK => ?_) (by kernel_rfl)
        go_simp
        obtain ⟨w4, hw⟩ : ∃ x, w3.alloc (.cells (nils N) 34) = x := ⟨_, rfl⟩
        obtain ⟨g4, hg⟩ : ∃ x, w3.heap.size = x := ⟨_, rfl⟩
        have I4 := Lib.hid (I3.out.a4 hc (by omega) hB0 hw hg)
        rw [hw, hg]
        clear hw hg I3
        refine hK.out _ _ ((fun _ => trivial)) ?_
        clear hK K
        try simp only [Act.put, List.setIfInBounds_toArray, List.set_cons_zero, List.set_cons_succ]
        refine nw_take (i := 7) (v := ?_) rfl (by kernel_rfl) (by kernel_rfl) (fun _ _ d _ _ h => by cases d <;> exact h) (by exact hNS) (by kernel_rfl) ?_ (fun K hK => ?_); rotate_left; (· (intro w' hSw; (try dsimp only at hSw); go_simp; with_reducible rfl)); simp only [Act.put, List.setIfInBounds_toArray, List.set_cons_zero, List.set_cons_succ]; refine hK _ ?_; clear hK K
        refine nw_one (i := 8) (E := False) rfl (by kernel_rfl) (fun K hK => ?_) (by kernel_rfl)
        go_simp
        obtain ⟨w5, hw⟩ : ∃ x, w4.alloc (.cells #[.slice (some ⟨g4, 0, none⟩) N N, .slice (some ⟨g6, 0, none⟩) N N] 96) = x := ⟨_, rfl⟩
        obtain ⟨g8, hg⟩ : ∃ x, w4.heap.size = x := ⟨_, rfl⟩
        have I5 := Lib.hid (I4.out.a8 hc (by omega) hB0 hw hg)
        rw [hw, hg]
        clear hw hg I4
        refine hK.out _ _ ((fun _ => trivial)) ?_
        clear hK K
        try simp only [Act.put, List.setIfInBounds_toArray, List.set_cons_zero, List.set_cons_succ]
        refine nw_take (i := 13) (v := ?_) rfl (by kernel_rfl) (by kernel_rfl) (fun _ _ d _ _ h => by cases d <;> exact h) (by exact hNS) (by kernel_rfl) ?_ (fun K hK => ?_); rotate_left; (· (intro w' hSw; (try dsimp only at hSw); go_simp; with_reducible rfl)); simp only [Act.put, List.setIfInBounds_toArray, List.set_cons_zero, List.set_cons_succ]; refine hK _ ?_; clear hK K
        refine nw_one (i := 14) (E := False) rfl (by kernel_rfl) (fun K hK => ?_) (by kernel_rfl)
        go_simp
        obtain ⟨wf, hwf⟩ : ∃ x, w5.alloc (.cells #[.pointer (some ⟨dp, 0, none⟩), .int .i64 N, .int .i64 rm, .slice (some ⟨g8, 0, none⟩) 1 1, .slice (some ⟨g10, 0, none⟩) N N, .slice (some ⟨g12, 0, none⟩) sh sh, .int .i64 0, .int .i64 0] 74) = x := ⟨_, rfl⟩
        obtain ⟨pf, hpf⟩ : ∃ x, w5.heap.size = x := ⟨_, rfl⟩
        have FIN := Lib.hid (FINE.out _ _ _ _ _ _ _ _ I5.out hwf hpf)
        rw [hwf, hpf]
        clear hwf hpf I5 FINE
        refine hK.out _ _ ((fun _ => trivial)) ?_
        clear hK K
        try simp only [Act.put, List.setIfInBounds_toArray, List.set_cons_zero, List.set_cons_succ]
        refine nw_one (i := 15) (E := False) rfl (by kernel_rfl) (fun K hK => ?_) (by kernel_rfl)
        go_simp
        refine hK.out _ _ ((fun _ => trivial)) ?_
        clear hK K
        try simp only [Act.put, List.setIfInBounds_toArray, List.set_cons_zero, List.set_cons_succ]
        refine nw_one (i := 16) (E := False) rfl (by kernel_rfl) (fun K hK => ?_) (by kernel_rfl)
        go_simp
        refine hK.out _ _ ((fun _ => trivial)) ?_
        clear hK K
        try simp only [Act.put, List.setIfInBounds_toArray, List.set_cons_zero, List.set_cons_succ]
        refine nw_end (by kernel_rfl) ?_
        go_wp2_with fail
        go_ret2
        exact FIN.out
  · go_simp
    obtain ⟨w1, hw⟩ : ∃ x, w0.alloc (.cells (nils N) 34) = x := ⟨_, rfl⟩
    obtain ⟨g10, hg⟩ : ∃ x, w0.heap.size = x := ⟨_, rfl⟩
    have I1 := Lib.hid (I0.out.a10 hc (by omega) hB0 hw hg)
    rw [hw, hg]
    clear hw hg I0
    refine hK.out _ _ ((fun _ => trivial)) ?_
    clear hK K
    try simp only [Act.put, List.setIfInBounds_toArray, List.set_cons_zero, List.set_cons_succ]
    refine nw_alts (rs := [4, 6, 12]) (by kernel_rfl) (by simp) (List.forall_mem_cons.2 ⟨nalt (E := False) rfl (fun K hK => ?_) (by kernel_rfl), List.forall_mem_cons.2 ⟨nalt (E := False) rfl (fun K hK => ?_) (by kernel_rfl), List.forall_mem_cons.2 ⟨nalt (E := False) rfl (fun K hK => ?_) (by kernel_rfl), fun _ h => absurd h (by simp)⟩⟩⟩)
    · go_simp
      obtain ⟨w2, hw⟩ : ∃ x, w1.alloc (.cells (nils N) 34) = x := ⟨_, rfl⟩
      obtain ⟨g4, hg⟩ : ∃ x, w1.heap.size = x := ⟨_, rfl⟩
      have I2 := Lib.hid (I1.out.a4 hc (by omega) hB0 hw hg)
      rw [hw, hg]
      clear hw hg I1
      refine hK.out _ _ ((fun _ => trivial)) ?_
      clear hK K
      try simp only [Act.put, List.setIfInBounds_toArray, List.set_cons_zero, List.set_cons_succ]
      refine nw_alts (rs := [6, 12]) (by kernel_rfl) (by simp) (List.forall_mem_cons.2 ⟨nalt (E := False) rfl (fun K hK => ?_) (by kernel_rfl), List.forall_mem_cons.2 ⟨nalt (E := False) rfl (fun K hK => ?_) (by kernel_rfl), fun _ h => absurd h (by simp)⟩⟩)
      · go_simp
        obtain ⟨w3, hw⟩ : ∃ x, w2.alloc (.cells (falses N) 4) = x := ⟨_, rfl⟩
        obtain ⟨g6, hg⟩ : ∃ x, w2.heap.size = x := ⟨_, rfl⟩
        have I3 := Lib.hid (I2.out.a6 hc (by omega) hB0 hw hg)
        rw [hw, hg]
        clear hw hg I2
        refine hK.out _ _ ((fun _ => trivial)) ?_
        clear hK K
        try simp only [Act.put, List.setIfInBounds_toArray, List.set_cons_zero, List.set_cons_succ]
        refine nw_take (i := 7) (v := ?_) rfl (by kernel_rfl) (by kernel_rfl) (fun _ _ d _ _ h => by cases d <;> exact h) (by exact hNS) (by kernel_rfl) ?_ (fun K hK => ?_); rotate_left; (· (intro w' hSw; (try dsimp only at hSw); go_simp; with_reducible rfl)); simp only [Act.put, List.setIfInBounds_toArray, List.set_cons_zero, List.set_cons_succ]; refine hK _ ?_; clear hK K
        refine nw_alts (rs := [8, 12]) (by kernel_rfl) (by simp) (List.forall_mem_cons.2 ⟨nalt (E := False) rfl (fun K hK => ?_) (by kernel_rfl), List.forall_mem_cons.2 ⟨nalt (E := False) rfl (fun K hK => ?_) (by kernel_rfl), fun _ h => absurd h (by simp)⟩⟩)
        · go_simp
          obtain ⟨w4, hw⟩ : ∃ x, w3.alloc (.cells #[.slice (some ⟨g4, 0, none⟩) N N, .slice (some ⟨g6, 0, none⟩) N N] 96) = x := ⟨_, rfl⟩
          obtain ⟨g8, hg⟩ : ∃ x, w3.heap.size = x := ⟨_, rfl⟩
          have I4 := Lib.hid (I3.out.a8 hc (by omega) hB0 hw hg)
          rw [hw, hg]
          clear hw hg I3
          refine hK.out _ _ ((fun _ => trivial)) ?_
          clear hK K
          try simp only [Act.put, List.setIfInBounds_toArray, List.set_cons_zero, List.set_cons_succ]
          refine nw_one (i := 12) (E := False) rfl (by kernel_rfl) (fun K hK => ?_) (by kernel_rfl)
          go_simp
          obtain ⟨w5, hw⟩ : ∃ x, w4.alloc (.cells (nils sh) 42) = x := ⟨_, rfl⟩
          obtain ⟨g12, hg⟩ : ∃ x, w4.heap.size = x := ⟨_, rfl⟩
          have I5 := Lib.hid (I4.out.a12 hc (by omega) hB0 hw hg)
          rw [hw, hg]
          clear hw hg I4
          refine hK.out _ _ ((fun _ => trivial)) ?_
          clear hK K
          try simp only [Act.put, List.setIfInBounds_toArray, List.set_cons_zero, List.set_cons_succ]
          refine nw_take (i := 13) (v := ?_) rfl (by kernel_rfl) (by kernel_rfl) (fun _ _ d _ _ h => by cases d <;> exact h) (by exact hNS) (by kernel_rfl) ?_ (fun K hK => ?_); rotate_left; (· (intro w' hSw; (try dsimp only at hSw); go_simp; with_reducible rfl)); simp only [Act.put, List.setIfInBounds_toArray, List.set_cons_zero, List.set_cons_succ]; refine hK _ ?_; clear hK K
          refine nw_one (i := 14) (E := False) rfl (by kernel_rfl) (fun K hK => ?_) (by kernel_rfl)
          go_simp
          obtain ⟨wf, hwf⟩ : ∃ x, w5.alloc (.cells #[.pointer (some ⟨dp, 0, none⟩), .int .i64 N, .int .i64 rm, .slice (some ⟨g8, 0, none⟩) 1 1, .slice (some ⟨g10, 0, none⟩) N N, .slice (some ⟨g12, 0, none⟩) sh sh, .int .i64 0, .int .i64 0] 74) = x := ⟨_, rfl⟩
          obtain ⟨pf, hpf⟩ : ∃ x, w5.heap.size = x := ⟨_, rfl⟩
          have FIN := Lib.hid (FINE.out _ _ _ _ _ _ _ _ I5.out hwf hpf)
          rw [hwf, hpf]
          clear hwf hpf I5 FINE
          refine hK.out _ _ ((fun _ => trivial)) ?_
          clear hK K
          try simp only [Act.put, List.setIfInBounds_toArray, List.set_cons_zero, List.set_cons_succ]
          refine nw_one (i := 15) (E := False) rfl (by kernel_rfl) (fun K hK => ?_) (by kernel_rfl)
          go_simp
          refine hK.out _ _ ((fun _ => trivial)) ?_
          clear hK K
          try simp only [Act.put, List.setIfInBounds_toArray, List.set_cons_zero, List.set_cons_succ]
          refine nw_one (i := 16) (E := False) rfl (by kernel_rfl) (fun K hK => ?_) (by kernel_rfl)
          go_simp
          refine hK.out _ _ ((fun _ => trivial)) ?_
          clear hK K
          try simp only [Act.put, List.setIfInBounds_toArray, List.set_cons_zero, List.set_cons_succ]
          refine nw_end (by kernel_rfl) ?_
          go_wp2_with fail
          go_ret2
          exact FIN.out
        · go_simp
          obtain ⟨w4, hw⟩ : ∃ x, w3.alloc (.cells (nils sh) 42) = x := ⟨_, rfl⟩
          obtain ⟨g12, hg⟩ : ∃ x, w3.heap.size = x := ⟨_, rfl⟩
          have I4 := Lib.hid (I3.out.a12 hc (by omega) hB0 hw hg)
          rw [hw, hg]
          clear hw hg I3
          refine hK.out _ _ ((fun _ => trivial)) ?_
          clear hK K
          try simp only [Act.put, List.setIfInBounds_toArray, List.set_cons_zero, List.set_cons_succ]
          refine nw_one (i := 8) (E := False) rfl (by kernel_rfl) (fun K hK => ?_) (by kernel_rfl)
          go_simp
          obtain ⟨w5, hw⟩ : ∃ x, w4.alloc (.cells #[.slice (some ⟨g4, 0, none⟩) N N, .slice (some ⟨g6, 0, none⟩) N N] 96) = x := ⟨_, rfl⟩
          obtain ⟨g8, hg⟩ : ∃ x, w4.heap.size = x := ⟨_, rfl⟩
          have I5 := Lib.hid (I4.out.a8 hc (by omega) hB0 hw hg)
          rw [hw, hg]
          clear hw hg I4
          refine hK.out _ _ ((fun _ => trivial)) ?_
          clear hK K
          try simp only [Act.put, List.setIfInBounds_toArray, List.set_cons_zero, List.set_cons_succ]
          refine nw_take (i := 13) (v := ?_) rfl (by kernel_rfl) (by kernel_rfl) (fun _ _ d _ _ h => by cases d <;> exact h) (by exact hNS) (by kernel_rfl) ?_ (fun K hK => ?_); rotate_left; (· (intro w' hSw; (try dsimp only at hSw); go_simp; with_reducible rfl)); simp only [Act.put, List.setIfInBounds_toArray, List.set_cons_zero, List.set_cons_succ]; refine hK _ ?_; clear hK K
          refine nw_one (i := 14) (E := False) rfl (by kernel_rfl) (fun K hK => ?_) (by kernel_rfl)
          go_simp
          obtain ⟨wf, hwf⟩ : ∃ x, w5.alloc (.cells #[.pointer (some ⟨dp, 0, none⟩), .int .i64 N, .int .i64 rm, .slice (some ⟨g8, 0, none⟩) 1 1, .slice (some ⟨g10, 0, none⟩) N N, .slice (some ⟨g12, 0, none⟩) sh sh, .int .i64 0, .int .i64 0] 74) = x := ⟨_, rfl⟩
          obtain ⟨pf, hpf⟩ : ∃ x, w5.heap.size = x := ⟨_, rfl⟩
          have FIN := Lib.hid (FINE.out _ _ _ _ _ _ _ _ I5.out hwf hpf)
          rw [hwf, hpf]
          clear hwf hpf I5 FINE
          refine hK.out _ _ ((fun _ => trivial)) ?_
          clear hK K
          try simp only [Act.put, List.setIfInBounds_toArray, List.set_cons_zero, List.set_cons_succ]
          refine nw_one (i := 15) (E := False) rfl (by kernel_rfl) (fun K hK => ?_) (by kernel_rfl)
          go_simp
          refine hK.out _ _ ((fun _ => trivial)) ?_
          clear hK K
          try simp only [Act.put, List.setIfInBounds_toArray, List.set_cons_zero, List.set_cons_succ]
          refine nw_one (i := 16) (E := False) rfl (by kernel_rfl) (fun K hK => ?_) (by kernel_rfl)
          go_simp
          refine hK.out _ _ ((fun _ => trivial)) ?_
          clear hK K
          try simp only [Act.put, List.setIfInBounds_toArray, List.set_cons_zero, List.set_cons_succ]
          refine nw_end (by kernel_rfl) ?_
          go_wp2_with fail
          go_ret2
          exact FIN.out
      · go_simp
        obtain ⟨w3, hw⟩ : ∃ x, w2.alloc (.cells (nils sh) 42) = x := ⟨_, rfl⟩
        obtain ⟨g12, hg⟩ : ∃ x, w2.heap.size = x := ⟨_, rfl⟩
        have I3 := Lib.hid (I2.out.a12 hc (by omega) hB0 hw hg)
        rw [hw, hg]
        clear hw hg I2
        refine hK.out _ _ ((fun _ => trivial)) ?_
        clear hK K
        try simp only [Act.put, List.setIfInBounds_toArray, List.set_cons_zero, List.set_cons_succ]
        refine nw_one (i := 6) (E := False) rfl (by kernel_rfl) (fun K hK => ?_) (by kernel_rfl)
        go_simp
        obtain ⟨w4, hw⟩ : ∃ x, w3.alloc (.cells (falses N) 4) = x := ⟨_, rfl⟩
        obtain ⟨g6, hg⟩ : ∃ x, w3.heap.size = x := ⟨_, rfl⟩
        have I4 := Lib.hid (I3.out.a6 hc (by omega) hB0 hw hg)
        rw [hw, hg]
        clear hw hg I3
        refine hK.out _ _ ((fun _ => trivial)) ?_
        clear hK K
        try simp only [Act.put, List.setIfInBounds_toArray, List.set_cons_zero, List.set_cons_succ]
        refine nw_take (i := 7) (v := ?_) rfl (by kernel_rfl) (by kernel_rfl) (fun _ _ d _ _ h => by cases d <;> exact h) (by exact hNS) (by kernel_rfl) ?_ (fun K hK => ?_); rotate_left; (· (intro w' hSw; (try dsimp only at hSw); go_simp; with_reducible rfl)); simp only [Act.put, List.setIfInBounds_toArray, List.set_cons_zero, List.set_cons_succ]; refine hK _ ?_; clear hK K
        refine nw_one (i := 8) (E := False) rfl (by kernel_rfl) (fun K hK => ?_) (by kernel_rfl)
        go_simp
        obtain ⟨w5, hw⟩ : ∃ x, w4.alloc (.cells #[.slice (some ⟨g4, 0, none⟩) N N, .slice (some ⟨g6, 0, none⟩) N N] 96) = x := ⟨_, rfl⟩
        obtain ⟨g8, hg⟩ : ∃ x, w4.heap.size = x := ⟨_, rfl⟩
        have I5 := Lib.hid (I4.out.a8 hc (by omega) hB0 hw hg)
        rw [hw, hg]
        clear hw hg I4
        refine hK.out _ _ ((fun _ => trivial)) ?_
        clear hK K
        try simp only [Act.put, List.setIfInBounds_toArray, List.set_cons_zero, List.set_cons_succ]
        refine nw_take (i := 13) (v := ?_) rfl (by kernel_rfl) (by kernel_rfl) (fun _ _ d _ _ h => by cases d <;> exact h) (by exact hNS) (by kernel_rfl) ?_ (fun K hK => ?_); rotate_left; (· (intro w' hSw; (try dsimp only at hSw); go_simp; with_reducible rfl)); simp only [Act.put, List.setIfInBounds_toArray, List.set_cons_zero, List.set_cons_succ]; refine hK _ ?_; clear hK K
        refine nw_one (i := 14) (E := False) rfl (by kernel_rfl) (fun K hK => ?_) (by kernel_rfl)
        go_simp
        obtain ⟨wf, hwf⟩ : ∃ x, w5.alloc (.cells #[.pointer (some ⟨dp, 0, none⟩), .int .i64 N, .int .i64 rm, .slice (some ⟨g8, 0, none⟩) 1 1, .slice (some ⟨g10, 0, none⟩) N N, .slice (some ⟨g12, 0, none⟩) sh sh, .int .i64 0, .int .i64 0] 74) = x := ⟨_, rfl⟩
        obtain ⟨pf, hpf⟩ : ∃ x, w5.heap.size = x := ⟨_, rfl⟩
        have FIN := Lib.hid (FINE.out _ _ _ _ _ _ _ _ I5.out hwf hpf)
        rw [hwf, hpf]
        clear hwf hpf I5 FINE
        refine hK.out _ _ ((fun _ => trivial)) ?_
        clear hK K
        try simp only [Act.put, List.setIfInBounds_toArray, List.set_cons_zero, List.set_cons_succ]
        refine nw_one (i := 15) (E := False) rfl (by kernel_rfl) (fun K hK => ?_) (by kernel_rfl)
        go_simp
        refine hK.out _ _ ((fun _ => trivial)) ?_
        clear hK K
        try simp only [Act.put, List.setIfInBounds_toArray, List.set_cons_zero, List.set_cons_succ]
        refine nw_one (i := 16) (E := False) rfl (by kernel_rfl) (fun K hK => ?_) (by kernel_rfl)
        go_simp
        refine hK.out _ _ ((fun _ => trivial)) ?_
        clear hK K
        try simp only [Act.put, List.setIfInBounds_toArray, List.set_cons_zero, List.set_cons_succ]
        refine nw_end (by kernel_rfl) ?_
        go_wp2_with fail
        go_ret2
        exact FIN.out
    · go_simp
      obtain ⟨w2, hw⟩ : ∃ x, w1.alloc (.cells (falses N) 4) = x := ⟨_, rfl⟩
      obtain ⟨g6, hg⟩ : ∃ x, w1.heap.size = x := ⟨_, rfl⟩
      have I2 := Lib.hid (I1.out.a6 hc (by omega) hB0 hw hg)
      rw [hw, hg]
      clear hw hg I1
      refine hK.out _ _ ((fun _ => trivial)) ?_
      clear hK K
      try simp only [Act.put, List.setIfInBounds_toArray, List.set_cons_zero, List.set_cons_succ]
      refine nw_alts (rs := [4, 12]) (by kernel_rfl) (by simp) (List.forall_mem_cons.2 ⟨nalt (E := False) rfl (fun K hK => ?_) (by kernel_rfl), List.forall_mem_cons.2 ⟨nalt (E := False) rfl (fun K hK => ?_) (by kernel_rfl), fun _ h => absurd h (by simp)⟩⟩)
      · go_simp
        obtain ⟨w3, hw⟩ : ∃ x, w2.alloc (.cells (nils N) 34) = x := ⟨_, rfl⟩
        obtain ⟨g4, hg⟩ : ∃ x, w2.heap.size = x := ⟨_, rfl⟩
        have I3 := Lib.hid (I2.out.a4 hc (by omega) hB0 hw hg)
        rw [hw, hg]
        clear hw hg I2
        refine hK.out _ _ ((fun _ => trivial)) ?_
        clear hK K
        try simp only [Act.put, List.setIfInBounds_toArray, List.set_cons_zero, List.set_cons_succ]
        refine nw_take (i := 7) (v := ?_) rfl (by kernel_rfl) (by kernel_rfl) (fun _ _ d _ _ h => by cases d <;> exact h) (by exact hNS) (by kernel_rfl) ?_ (fun K hK => ?_); rotate_left; (· (intro w' hSw; (try dsimp only at hSw); go_simp; with_reducible rfl)); simp only [Act.put, List.setIfInBounds_toArray, List.set_cons_zero, List.set_cons_succ]; refine hK _ ?_; clear hK K
        refine nw_alts (rs := [8, 12]) (by kernel_rfl) (by simp) (List.forall_mem_cons.2 ⟨nalt (E := False) rfl (fun K hK => ?_) (by kernel_rfl), List.forall_mem_cons.2 ⟨nalt (E := False) rfl (fun K hK => ?_) (by kernel_rfl), fun _ h => absurd h (by simp)⟩⟩)
        · go_simp
          obtain ⟨w4, hw⟩ : ∃ x, w3.alloc (.cells #[.slice (some ⟨g4, 0, none⟩) N N, .slice (some ⟨g6, 0, none⟩) N N] 96) = x := ⟨_, rfl⟩
          obtain ⟨g8, hg⟩ : ∃ x, w3.heap.size = x := ⟨_, rfl⟩
          have I4 := Lib.hid (I3.out.a8 hc (by omega) hB0 hw hg)
          rw [hw, hg]
          clear hw hg I3
          refine hK.out _ _ ((fun _ => trivial)) ?_
          clear hK K
          try simp only [Act.put, List.setIfInBounds_toArray, List.set_cons_zero, List.set_cons_succ]
          refine nw_one (i := 12) (E := False) rfl (by kernel_rfl) (fun K hK => ?_) (by kernel_rfl)
          go_simp
          obtain ⟨w5, hw⟩ : ∃ x, w4.alloc (.cells (nils sh) 42) = x := ⟨_, rfl⟩
          obtain ⟨g12, hg⟩ : ∃ x, w4.heap.size = x := ⟨_, rfl⟩
          have I5 := Lib.hid (I4.out.a12 hc (by omega) hB0 hw hg)
          rw [hw, hg]
          clear hw hg I4
          refine hK.out _ _ ((fun _ => trivial)) ?_
          clear hK K
          try simp only [Act.put, List.setIfInBounds_toArray, List.set_cons_zero, List.set_cons_succ]
          refine nw_take (i := 13) (v := ?_) rfl (by kernel_rfl) (by kernel_rfl) (fun _ _ d _ _ h => by cases d <;> exact h) (by exact hNS) (by kernel_rfl) ?_ (fun K hK => ?_); rotate_left; (· (intro w' hSw; (try dsimp only at hSw); go_simp; with_reducible rfl)); simp only [Act.put, List.setIfInBounds_toArray, List.set_cons_zero, List.set_cons_succ]; refine hK _ ?_; clear hK K
          refine nw_one (i := 14) (E := False) rfl (by kernel_rfl) (fun K hK => ?_) (by kernel_rfl)
          go_simp
          obtain ⟨wf, hwf⟩ : ∃ x, w5.alloc (.cells #[.pointer (some ⟨dp, 0, none⟩), .int .i64 N, .int .i64 rm, .slice (some ⟨g8, 0, none⟩) 1 1, .slice (some ⟨g10, 0, none⟩) N N, .slice (some ⟨g12, 0, none⟩) sh sh, .int .i64 0, .int .i64 0] 74) = x := ⟨_, rfl⟩
          obtain ⟨pf, hpf⟩ : ∃ x, w5.heap.size = x := ⟨_, rfl⟩
          have FIN := Lib.hid (FINE.out _ _ _ _ _ _ _ _ I5.out hwf hpf)
          rw [hwf, hpf]
          clear hwf hpf I5 FINE
          refine hK.out _ _ ((fun _ => trivial)) ?_
          clear hK K
          try simp only [Act.put, List.setIfInBounds_toArray, List.set_cons_zero, List.set_cons_succ]
          refine nw_one (i := 15) (E := False) rfl (by kernel_rfl) (fun K hK => ?_) (by kernel_rfl)
          go_simp
          refine hK.out _ _ ((fun _ => trivial)) ?_
          clear hK K
          try simp only [Act.put, List.setIfInBounds_toArray, List.set_cons_zero, List.set_cons_succ]
          refine nw_one (i := 16) (E := False) rfl (by kernel_rfl) (fun K hK => ?_) (by kernel_rfl)
          go_simp
          refine hK.out _ _ ((fun _ => trivial)) ?_
          clear hK K
          try simp only [Act.put, List.setIfInBounds_toArray, List.set_cons_zero, List.set_cons_succ]
          refine nw_end (by kernel_rfl) ?_
          go_wp2_with fail
          go_ret2
          exact FIN.out
        · go_simp
          obtain ⟨w4, hw⟩ : ∃ x, w3.alloc (.cells (nils sh) 42) = x := ⟨_, rfl⟩
          obtain ⟨g12, hg⟩ : ∃ x, w3.heap.size = x := ⟨_, rfl⟩
          have I4 := Lib.hid (I3.out.a12 hc (by omega) hB0 hw hg)
          rw [hw, hg]
          clear hw hg I3
          refine hK.out _ _ ((fun _ => trivial)) ?_
          clear hK K
          try simp only [Act.put, List.setIfInBounds_toArray, List.set_cons_zero, List.set_cons_succ]
          refine nw_one (i := 8) (E := False) rfl (by kernel_rfl) (fun K hK => ?_) (by kernel_rfl)
          go_simp
          obtain ⟨w5, hw⟩ : ∃ x, w4.alloc (.cells #[.slice (some ⟨g4, 0, none⟩) N N, .slice (some ⟨g6, 0, none⟩) N N] 96) = x := ⟨_, rfl⟩
          obtain ⟨g8, hg⟩ : ∃ x, w4.heap.size = x := ⟨_, rfl⟩
          have I5 := Lib.hid (I4.out.a8 hc (by omega) hB0 hw hg)
          rw [hw, hg]
          clear hw hg I4
          refine hK.out _ _ ((fun _ => trivial)) ?_
          clear hK K
          try simp only [Act.put, List.setIfInBounds_toArray, List.set_cons_zero, List.set_cons_succ]
          refine nw_take (i := 13) (v := ?_) rfl (by kernel_rfl) (by kernel_rfl) (fun _ _ d _ _ h => by cases d <;> exact h) (by exact hNS) (by kernel_rfl) ?_ (fun K hK => ?_); rotate_left; (· (intro w' hSw; (try dsimp only at hSw); go_simp; with_reducible rfl)); simp only [Act.put, List.setIfInBounds_toArray, List.set_cons_zero, List.set_cons_succ]; refine hK _ ?_; clear hK K
          refine nw_one (i := 14) (E := False) rfl (by kernel_rfl) (fun K hK => ?_) (by kernel_rfl)
          go_simp
          obtain ⟨wf, hwf⟩ : ∃ x, w5.alloc (.cells #[.pointer (some ⟨dp, 0, none⟩), .int .i64 N, .int .i64 rm, .slice (some ⟨g8, 0, none⟩) 1 1, .slice (some ⟨g10, 0, none⟩) N N, .slice (some ⟨g12, 0, none⟩) sh sh, .int .i64 0, .int .i64 0] 74) = x := ⟨_, rfl⟩
          obtain ⟨pf, hpf⟩ : ∃ x, w5.heap.size = x := ⟨_, rfl⟩
          have FIN := Lib.hid (FINE.out _ _ _ _ _ _ _ _ I5.out hwf hpf)
          rw [hwf, hpf]
          clear hwf hpf I5 FINE
          refine hK.out _ _ ((fun _ => trivial)) ?_
          clear hK K
          try simp only [Act.put, List.setIfInBounds_toArray, List.set_cons_zero, List.set_cons_succ]
          refine nw_one (i := 15) (E := False) rfl (by kernel_rfl) (fun K hK => ?_) (by kernel_rfl)
          go_simp
          refine hK.out _ _ ((fun _ => trivial)) ?_
          clear hK K
          try simp only [Act.put, List.setIfInBounds_toArray, List.set_cons_zero, List.set_cons_succ]
          refine nw_one (i := 16) (E := False) rfl (by kernel_rfl) (fun K hK => ?_) (by kernel_rfl)
          go_simp
          refine hK.out _ _ ((fun _ => trivial)) ?_
          clear hK K
          try simp only [Act.put, List.setIfInBounds_toArray, List.set_cons_zero, List.set_cons_succ]
          refine nw_end (by kernel_rfl) ?_
          go_wp2_with fail
          go_ret2
          exact FIN.out
      · go_simp
        obtain ⟨w3, hw⟩ : ∃ x, w2.alloc (.cells (nils sh) 42) = x := ⟨_, rfl⟩
        obtain ⟨g12, hg⟩ : ∃ x, w2.heap.size = x := ⟨_, rfl⟩
        have I3 := Lib.hid (I2.out.a12 hc (by omega) hB0 hw hg)
        rw [hw, hg]
        clear hw hg I2
        refine hK.out _ _ ((fun _ => trivial)) ?_
        clear hK K
        try simp only [Act.put, List.setIfInBounds_toArray, List.set_cons_zero, List.set_cons_succ]
        refine nw_one (i := 4) (E := False) rfl (by kernel_rfl) (fun K hK => ?_) (by kernel_rfl)
        go_simp
        obtain ⟨w4, hw⟩ : ∃ x, w3.alloc (.cells (nils N) 34) = x := ⟨_, rfl⟩
        obtain ⟨g4, hg⟩ : ∃ x, w3.heap.size = x := ⟨_, rfl⟩
        have I4 := Lib.hid (I3.out.a4 hc (by omega) hB0 hw hg)
        rw [hw, hg]
        clear hw hg I3
        refine hK.out _ _ ((fun _ => trivial)) ?_
        clear hK K
        try simp only [Act.put, List.setIfInBounds_toArray, List.set_cons_zero, List.set_cons_succ]
        refine nw_take (i := 7) (v := ?_) rfl (by kernel_rfl) (by kernel_rfl) (fun _ _ d _ _ h => by cases d <;> exact h) (by exact hNS) (by kernel_rfl) ?_ (fun K hK => ?_); rotate_left; (· (intro w' hSw; (try dsimp only at hSw); go_simp; with_reducible rfl)); simp only [Act.put, List.setIfInBounds_toArray, List.set_cons_zero, List.set_cons_succ]; refine hK _ ?_; clear hK K
        refine nw_one (i := 8) (E := False) rfl (by kernel_rfl) (fun K hK => ?_) (by kernel_rfl)
        go_simp
        obtain ⟨w5, hw⟩ : ∃ x, w4.alloc (.cells #[.slice (some ⟨g4, 0, none⟩) N N, .slice (some ⟨g6, 0, none⟩) N N] 96) = x := ⟨_, rfl⟩
        obtain ⟨g8, hg⟩ : ∃ x, w4.heap.size = x := ⟨_, rfl⟩
        have I5 := Lib.hid (I4.out.a8 hc (by omega) hB0 hw hg)
        rw [hw, hg]
        clear hw hg I4
        refine hK.out _ _ ((fun _ => trivial)) ?_
        clear hK K
        try simp only [Act.put, List.setIfInBounds_toArray, List.set_cons_zero, List.set_cons_succ]
        refine nw_take (i := 13) (v := ?_) rfl (by kernel_rfl) (by kernel_rfl) (fun _ _ d _ _ h => by cases d <;> exact h) (by exact hNS) (by kernel_rfl) ?_ (fun K hK => ?_); rotate_left; (· (intro w' hSw; (try dsimp only at hSw); go_simp; with_reducible rfl)); simp only [Act.put, List.setIfInBounds_toArray, List.set_cons_zero, List.set_cons_succ]; refine hK _ ?_; clear hK K
        refine nw_one (i := 14) (E := False) rfl (by kernel_rfl) (fun K hK => ?_) (by kernel_rfl)
        go_simp
        obtain ⟨wf, hwf⟩ : ∃ x, w5.alloc (.cells #[.pointer (some ⟨dp, 0, none⟩), .int .i64 N, .int .i64 rm, .slice (some ⟨g8, 0, none⟩) 1 1, .slice (some ⟨g10, 0, none⟩) N N, .slice (some ⟨g12, 0, none⟩) sh sh, .int .i64 0, .int .i64 0] 74) = x := ⟨_, rfl⟩
        obtain ⟨pf, hpf⟩ : ∃ x, w5.heap.size = x := ⟨_, rfl⟩
        have FIN := Lib.hid (FINE.out _ _ _ _ _ _ _ _ I5.out hwf hpf)
        rw [hwf, hpf]
        clear hwf hpf I5 FINE
        refine hK.out _ _ ((fun _ => trivial)) ?_
        clear hK K
        try simp only [Act.put, List.setIfInBounds_toArray, List.set_cons_zero, List.set_cons_succ]
        refine nw_one (i := 15) (E := False) rfl (by kernel_rfl) (fun K hK => ?_) (by kernel_rfl)
        go_simp
        refine hK.out _ _ ((fun _ => trivial)) ?_
        clear hK K
        try simp only [Act.put, List.setIfInBounds_toArray, List.set_cons_zero, List.set_cons_succ]
        refine nw_one (i := 16) (E := False) rfl (by kernel_rfl) (fun K hK => ?_) (by kernel_rfl)
        go_simp
        refine hK.out _ _ ((fun _ => trivial)) ?_
        clear hK K
        try simp only [Act.put, List.setIfInBounds_toArray, List.set_cons_zero, List.set_cons_succ]
        refine nw_end (by kernel_rfl) ?_
        go_wp2_with fail
        go_ret2
        exact FIN.out
    · go_simp
      obtain ⟨w2, hw⟩ : ∃ x, w1.alloc (.cells (nils sh) 42) = x := ⟨_, rfl⟩
      obtain ⟨g12, hg⟩ : ∃ x, w1.heap.size = x := ⟨_, rfl⟩
      have I2 := Lib.hid (I1.out.a12 hc (by omega) hB0 hw hg)
      rw [hw, hg]
      clear hw hg I1
      refine hK.out _ _ ((fun _ => trivial)) ?_
      clear hK K
      try simp only [Act.put, List.setIfInBounds_toArray, List.set_cons_zero, List.set_cons_succ]
      refine nw_alts (rs := [4, 6]) (by kernel_rfl) (by simp) (List.forall_mem_cons.2 ⟨nalt (E := False) rfl (fun K hK => ?_) (by kernel_rfl), List.forall_mem_cons.2 ⟨nalt (E := False) rfl (fun K hK => ?_) (by kernel_rfl), fun _ h => absurd h (by simp)⟩⟩)
      · go_simp
        obtain ⟨w3, hw⟩ : ∃ x, w2.alloc (.cells (nils N) 34) = x := ⟨_, rfl⟩
        obtain ⟨g4, hg⟩ : ∃ x, w2.heap.size = x := ⟨_, rfl⟩
        have I3 := Lib.hid (I2.out.a4 hc (by omega) hB0 hw hg)
        rw [hw, hg]
        clear hw hg I2
        refine hK.out _ _ ((fun _ => trivial)) ?_
        clear hK K
        try simp only [Act.put, List.setIfInBounds_toArray, List.set_cons_zero, List.set_cons_succ]
        refine nw_one (i := 6) (E := False) rfl (by kernel_rfl) (fun K hK => ?_) (by kernel_rfl)
        go_simp
        obtain ⟨w4, hw⟩ : ∃ x, w3.alloc (.cells (falses N) 4) = x := ⟨_, rfl⟩
        obtain ⟨g6, hg⟩ : ∃ x, w3.heap.size = x := ⟨_, rfl⟩
        have I4 := Lib.hid (I3.out.a6 hc (by omega) hB0 hw hg)
        rw [hw, hg]
        clear hw hg I3
        refine hK.out _ _ ((fun _ => trivial)) ?_
        clear hK K
        try simp only [Act.put, List.setIfInBounds_toArray, List.set_cons_zero, List.set_cons_succ]
        refine nw_take (i := 7) (v := ?_) rfl (by kernel_rfl) (by kernel_rfl) (fun _ _ d _ _ h => by cases d <;> exact h) (by exact hNS) (by kernel_rfl) ?_ (fun K hK => ?_); rotate_left; (· (intro w' hSw; (try dsimp only at hSw); go_simp; with_reducible rfl)); simp only [Act.put, List.setIfInBounds_toArray, List.set_cons_zero, List.set_cons_succ]; refine hK _ ?_; clear hK K
        refine nw_one (i := 8) (E := False) rfl (by kernel_rfl) (fun K hK => ?_) (by kernel_rfl)
        go_simp
        obtain ⟨w5, hw⟩ : ∃ x, w4.alloc (.cells #[.slice (some ⟨g4, 0, none⟩) N N, .slice (some ⟨g6, 0, none⟩) N N] 96) = x := ⟨_, rfl⟩
        obtain ⟨g8, hg⟩ : ∃ x, w4.heap.size = x := ⟨_, rfl⟩
        have I5 := Lib.hid (I4.out.a8 hc (by omega) hB0 hw hg)
        rw [hw, hg]
        clear hw hg I4
        refine hK.out _ _ ((fun _ => trivial)) ?_
        clear hK K
        try simp only [Act.put, List.setIfInBounds_toArray, List.set_cons_zero, List.set_cons_succ]
        refine nw_take (i := 13) (v := ?_) rfl (by kernel_rfl) (by kernel_rfl) (fun _ _ d _ _ h => by cases d <;> exact h) (by exact hNS) (by kernel_rfl) ?_ (fun K hK => ?_); rotate_left; (· (intro w' hSw; (try dsimp only at hSw); go_simp; with_reducible rfl)); simp only [Act.put, List.setIfInBounds_toArray, List.set_cons_zero, List.set_cons_succ]; refine hK _ ?_; clear hK K
        refine nw_one (i := 14) (E := False) rfl (by kernel_rfl) (fun K hK => ?_) (by kernel_rfl)
        go_simp
        obtain ⟨wf, hwf⟩ : ∃ x, w5.alloc (.cells #[.pointer (some ⟨dp, 0, none⟩), .int .i64 N, .int .i64 rm, .slice (some ⟨g8, 0, none⟩) 1 1, .slice (some ⟨g10, 0, none⟩) N N, .slice (some ⟨g12, 0, none⟩) sh sh, .int .i64 0, .int .i64 0] 74) = x := ⟨_, rfl⟩
        obtain ⟨pf, hpf⟩ : ∃ x, w5.heap.size = x := ⟨_, rfl⟩
        have FIN := Lib.hid (FINE.out _ _ _ _ _ _ _ _ I5.out hwf hpf)
        rw [hwf, hpf]
        clear hwf hpf I5 FINE
        refine hK.out _ _ ((fun _ => trivial)) ?_
        clear hK K
        try simp only [Act.put, List.setIfInBounds_toArray, List.set_cons_zero, List.set_cons_succ]
        refine nw_one (i := 15) (E := False) rfl (by kernel_rfl) (fun K hK => ?_) (by kernel_rfl)
        go_simp
        refine hK.out _ _ ((fun _ => trivial)) ?_
        clear hK K
        try simp only [Act.put, List.setIfInBounds_toArray, List.set_cons_zero, List.set_cons_succ]
        refine nw_one (i := 16) (E := False) rfl (by kernel_rfl) (fun K hK => ?_) (by kernel_rfl)
        go_simp
        refine hK.out _ _ ((fun _ => trivial)) ?_
        clear hK K
        try simp only [Act.put, List.setIfInBounds_toArray, List.set_cons_zero, List.set_cons_succ]
        refine nw_end (by kernel_rfl) ?_
        go_wp2_with fail
        go_ret2
        exact FIN.out
      · go_simp
        obtain ⟨w3, hw⟩ : ∃ x, w2.alloc (.cells (falses N) 4) = x := ⟨_, rfl⟩
        obtain ⟨g6, hg⟩ : ∃ x, w2.heap.size = x := ⟨_, rfl⟩
        have I3 := Lib.hid (I2.out.a6 hc (by omega) hB0 hw hg)
        rw [hw, hg]
        clear hw hg I2
        refine hK.out _ _ ((fun _ => trivial)) ?_
        clear hK K
        try simp only [Act.put, List.setIfInBounds_toArray, List.set_cons_zero, List.set_cons_succ]
        refine nw_one (i := 4) (E := False) rfl (by kernel_rfl) (fun K hK => ?_) (by kernel_rfl)
        go_simp
        obtain ⟨w4, hw⟩ : ∃ x, w3.alloc (.cells (nils N) 34) = x := ⟨_, rfl⟩
        obtain ⟨g4, hg⟩ : ∃ x, w3.heap.size = x := ⟨_, rfl⟩
        have I4 := Lib.hid (I3.out.a4 hc (by omega) hB0 hw hg)
        rw [hw, hg]
        clear hw hg I3
        refine hK.out _ _ ((fun _ => trivial)) ?_
        clear hK K
        try simp only [Act.put, List.setIfInBounds_toArray, List.set_cons_zero, List.set_cons_succ]
        refine nw_take (i := 7) (v := ?_) rfl (by kernel_rfl) (by kernel_rfl) (fun _ _ d _ _ h => by cases d <;> exact h) (by exact hNS) (by kernel_rfl) ?_ (fun K hK => ?_); rotate_left; (· (intro w' hSw; (try dsimp only at hSw); go_simp; with_reducible rfl)); simp only [Act.put, List.setIfInBounds_toArray, List.set_cons_zero, List.set_cons_succ]; refine hK _ ?_; clear hK K
        refine nw_one (i := 8) (E := False) rfl (by kernel_rfl) (fun K hK => ?_) (by kernel_rfl)
        go_simp
        obtain ⟨w5, hw⟩ : ∃ x, w4.alloc (.cells #[.slice (some ⟨g4, 0, none⟩) N N, .slice (some ⟨g6, 0, none⟩) N N] 96) = x := ⟨_, rfl⟩
        obtain ⟨g8, hg⟩ : ∃ x, w4.heap.size = x := ⟨_, rfl⟩
        have I5 := Lib.hid (I4.out.a8 hc (by omega) hB0 hw hg)
        rw [hw, hg]
        clear hw hg I4
        refine hK.out _ _ ((fun _ => trivial)) ?_
        clear hK K
        try simp only [Act.put, List.setIfInBounds_toArray, List.set_cons_zero, List.set_cons_succ]
        refine nw_take (i := 13) (v := ?_) rfl (by kernel_rfl) (by kernel_rfl) (fun _ _ d _ _ h => by cases d <;> exact h) (by exact hNS) (by kernel_rfl) ?_ (fun K hK => ?_); rotate_left; (· (intro w' hSw; (try dsimp only at hSw); go_simp; with_reducible rfl)); simp only [Act.put, List.setIfInBounds_toArray, List.set_cons_zero, List.set_cons_succ]; refine hK _ ?_; clear hK K
        refine nw_one (i := 14) (E := False) rfl (by kernel_rfl) (fun K hK => ?_) (by kernel_rfl)
        go_simp
        obtain ⟨wf, hwf⟩ : ∃ x, w5.alloc (.cells #[.pointer (some ⟨dp, 0, none⟩), .int .i64 N, .int .i64 rm, .slice (some ⟨g8, 0, none⟩) 1 1, .slice (some ⟨g10, 0, none⟩) N N, .slice (some ⟨g12, 0, none⟩) sh sh, .int .i64 0, .int .i64 0] 74) = x := ⟨_, rfl⟩
        obtain ⟨pf, hpf⟩ : ∃ x, w5.heap.size = x := ⟨_, rfl⟩
        have FIN := Lib.hid (FINE.out _ _ _ _ _ _ _ _ I5.out hwf hpf)
        rw [hwf, hpf]
        clear hwf hpf I5 FINE
        refine hK.out _ _ ((fun _ => trivial)) ?_
        clear hK K
        try simp only [Act.put, List.setIfInBounds_toArray, List.set_cons_zero, List.set_cons_succ]
        refine nw_one (i := 15) (E := False) rfl (by kernel_rfl) (fun K hK => ?_) (by kernel_rfl)
        go_simp
        refine hK.out _ _ ((fun _ => trivial)) ?_
        clear hK K
        try simp only [Act.put, List.setIfInBounds_toArray, List.set_cons_zero, List.set_cons_succ]
        refine nw_one (i := 16) (E := False) rfl (by kernel_rfl) (fun K hK => ?_) (by kernel_rfl)
        go_simp
        refine hK.out _ _ ((fun _ => trivial)) ?_
        clear hK K
        try simp only [Act.put, List.setIfInBounds_toArray, List.set_cons_zero, List.set_cons_succ]
        refine nw_end (by kernel_rfl) ?_
        go_wp2_with fail
        go_ret2
        exact FIN.out
  · go_simp
    obtain ⟨w1, hw⟩ : ∃ x, w0.alloc (.cells (nils sh) 42) = x := ⟨_, rfl⟩
    obtain ⟨g12, hg⟩ : ∃ x, w0.heap.size = x := ⟨_, rfl⟩
    have I1 := Lib.hid (I0.out.a12 hc (by omega) hB0 hw hg)
    rw [hw, hg]
    clear hw hg I0
    refine hK.out _ _ ((fun _ => trivial)) ?_
    clear hK K
    try simp only [Act.put, List.setIfInBounds_toArray, List.set_cons_zero, List.set_cons_succ]
    refine nw_alts (rs := [4, 6, 10]) (by kernel_rfl) (by simp) (List.forall_mem_cons.2 ⟨nalt (E := False) rfl (fun K hK => ?_) (by kernel_rfl), List.forall_mem_cons.2 ⟨nalt (E := False) rfl (fun K hK => ?_) (by kernel_rfl), List.forall_mem_cons.2 ⟨nalt (E := False) rfl (fun K hK => ?_) (by kernel_rfl), fun _ h => absurd h (by simp)⟩⟩⟩)
    · go_simp
      obtain ⟨w2, hw⟩ : ∃ x, w1.alloc (.cells (nils N) 34) = x := ⟨_, rfl⟩
      obtain ⟨g4, hg⟩ : ∃ x, w1.heap.size = x := ⟨_, rfl⟩
      have I2 := Lib.hid (I1.out.a4 hc (by omega) hB0 hw hg)
      rw [hw, hg]
      clear hw hg I1
      refine hK.out _ _ ((fun _ => trivial)) ?_
      clear hK K
      try simp only [Act.put, List.setIfInBounds_toArray, List.set_cons_zero, List.set_cons_succ]
      refine nw_alts (rs := [6, 10]) (by kernel_rfl) (by simp) (List.forall_mem_cons.2 ⟨nalt (E := False) rfl (fun K hK => ?_) (by kernel_rfl), List.forall_mem_cons.2 ⟨nalt (E := False) rfl (fun K hK => ?_) (by kernel_rfl), fun _ h => absurd h (by simp)⟩⟩)
      · go_simp
        obtain ⟨w3, hw⟩ : ∃ x, w2.alloc (.cells (falses N) 4) = x := ⟨_, rfl⟩
        obtain ⟨g6, hg⟩ : ∃ x, w2.heap.size = x := ⟨_, rfl⟩
        have I3 := Lib.hid (I2.out.a6 hc (by omega) hB0 hw hg)
        rw [hw, hg]
        clear hw hg I2
        refine hK.out _ _ ((fun _ => trivial)) ?_
        clear hK K
        try simp only [Act.put, List.setIfInBounds_toArray, List.set_cons_zero, List.set_cons_succ]
        refine nw_take (i := 7) (v := ?_) rfl (by kernel_rfl) (by kernel_rfl) (fun _ _ d _ _ h => by cases d <;> exact h) (by exact hNS) (by kernel_rfl) ?_ (fun K hK => ?_); rotate_left; (· (intro w' hSw; (try dsimp only at hSw); go_simp; with_reducible rfl)); simp only [Act.put, List.setIfInBounds_toArray, List.set_cons_zero, List.set_cons_succ]; refine hK _ ?_; clear hK K
        refine nw_alts (rs := [8, 10]) (by kernel_rfl) (by simp) (List.forall_mem_cons.2 ⟨nalt (E := False) rfl (fun K hK => ?_) (by kernel_rfl), List.forall_mem_cons.2 ⟨nalt (E := False) rfl (fun K hK => ?_) (by kernel_rfl), fun _ h => absurd h (by simp)⟩⟩)
        · go_simp
          obtain ⟨w4, hw⟩ : ∃ x, w3.alloc (.cells #[.slice (some ⟨g4, 0, none⟩) N N, .slice (some ⟨g6, 0, none⟩) N N] 96) = x := ⟨_, rfl⟩
          obtain ⟨g8, hg⟩ : ∃ x, w3.heap.size = x := ⟨_, rfl⟩
          have I4 := Lib.hid (I3.out.a8 hc (by omega) hB0 hw hg)
          rw [hw, hg]
          clear hw hg I3
          refine hK.out _ _ ((fun _ => trivial)) ?_
          clear hK K
          try simp only [Act.put, List.setIfInBounds_toArray, List.set_cons_zero, List.set_cons_succ]
          refine nw_one (i := 10) (E := False) rfl (by kernel_rfl) (fun K hK => ?_) (by kernel_rfl)
          go_simp
          obtain ⟨w5, hw⟩ : ∃ x, w4.alloc (.cells (nils N) 34) = x := ⟨_, rfl⟩
          obtain ⟨g10, hg⟩ : ∃ x, w4.heap.size = x := ⟨_, rfl⟩
          have I5 := Lib.hid (I4.out.a10 hc (by omega) hB0 hw hg)
          rw [hw, hg]
          clear hw hg I4
          refine hK.out _ _ ((fun _ => trivial)) ?_
          clear hK K
          try simp only [Act.put, List.setIfInBounds_toArray, List.set_cons_zero, List.set_cons_succ]
          refine nw_take (i := 13) (v := ?_) rfl (by kernel_rfl) (by kernel_rfl) (fun _ _ d _ _ h => by cases d <;> exact h) (by exact hNS) (by kernel_rfl) ?_ (fun K hK => ?_); rotate_left; (· (intro w' hSw; (try dsimp only at hSw); go_simp; with_reducible rfl)); simp only [Act.put, List.setIfInBounds_toArray, List.set_cons_zero, List.set_cons_succ]; refine hK _ ?_; clear hK K
          refine nw_one (i := 14) (E := False) rfl (by kernel_rfl) (fun K hK => ?_) (by kernel_rfl)
          go_simp
          obtain ⟨wf, hwf⟩ : ∃ x, w5.alloc (.cells #[.pointer (some ⟨dp, 0, none⟩), .int .i64 N, .int .i64 rm, .slice (some ⟨g8, 0, none⟩) 1 1, .slice (some ⟨g10, 0, none⟩) N N, .slice (some ⟨g12, 0, none⟩) sh sh, .int .i64 0, .int .i64 0] 74) = x := ⟨_, rfl⟩
          obtain ⟨pf, hpf⟩ : ∃ x, w5.heap.size = x := ⟨_, rfl⟩
          have FIN := Lib.hid (FINE.out _ _ _ _ _ _ _ _ I5.out hwf hpf)
          rw [hwf, hpf]
          clear hwf hpf I5 FINE
          refine hK.out _ _ ((fun _ => trivial)) ?_
          clear hK K
          try simp only [Act.put, List.setIfInBounds_toArray, List.set_cons_zero, List.set_cons_succ]
          refine nw_one (i := 15) (E := False) rfl (by kernel_rfl) (fun K hK => ?_) (by kernel_rfl)
          go_simp
          refine hK.out _ _ ((fun _ => trivial)) ?_
          clear hK K
          try simp only [Act.put, List.setIfInBounds_toArray, List.set_cons_zero, List.set_cons_succ]
          refine nw_one (i := 16) (E := False) rfl (by kernel_rfl) (fun K hK => ?_) (by kernel_rfl)
          go_simp
          refine hK.out _ _ ((fun _ => trivial)) ?_
          clear hK K
          try simp only [Act.put, List.setIfInBounds_toArray, List.set_cons_zero, List.set_cons_succ]
          refine nw_end (by kernel_rfl) ?_
          go_wp2_with fail
          go_ret2
          exact FIN.out
        · go_simp
          obtain ⟨w4, hw⟩ : ∃ x, w3.alloc (.cells (nils N) 34) = x := ⟨_, rfl⟩
          obtain ⟨g10, hg⟩ : ∃ x, w3.heap.size = x := ⟨_, rfl⟩
          have I4 := Lib.hid (I3.out.a10 hc (by omega) hB0 hw hg)
          rw [hw, hg]
          clear hw hg I3
          refine hK.out _ _ ((fun _ => trivial)) ?_
          clear hK K
          try simp only [Act.put, List.setIfInBounds_toArray, List.set_cons_zero, List.set_cons_succ]
          refine nw_one (i := 8) (E := False) rfl (by kernel_rfl) (fun K hK => ?_) (by kernel_rfl)
          go_simp
          obtain ⟨w5, hw⟩ : ∃ x, w4.alloc (.cells #[.slice (some ⟨g4, 0, none⟩) N N, .slice (some ⟨g6, 0, none⟩) N N] 96) = x := ⟨_, rfl⟩
          obtain ⟨g8, hg⟩ : ∃ x, w4.heap.size = x := ⟨_, rfl⟩
          have I5 := Lib.hid (I4.out.a8 hc (by omega) hB0 hw hg)
          rw [hw, hg]
          clear hw hg I4
          refine hK.out _ _ ((fun _ => trivial)) ?_
          clear hK K
          try simp only [Act.put, List.setIfInBounds_toArray, List.set_cons_zero, List.set_cons_succ]
          refine nw_take (i := 13) (v := ?_) rfl (by kernel_rfl) (by kernel_rfl) (fun _ _ d _ _ h => by cases d <;> exact h) (by exact hNS) (by kernel_rfl) ?_ (fun K hK => ?_); rotate_left; (· (intro w' hSw; (try dsimp only at hSw); go_simp; with_reducible rfl)); simp only [Act.put, List.setIfInBounds_toArray, List.set_cons_zero, List.set_cons_succ]; refine hK _ ?_; clear hK K
          refine nw_one (i := 14) (E := False) rfl (by kernel_rfl) (fun K hK => ?_) (by kernel_rfl)
          go_simp
          obtain ⟨wf, hwf⟩ : ∃ x, w5.alloc (.cells #[.pointer (some ⟨dp, 0, none⟩), .int .i64 N, .int .i64 rm, .slice (some ⟨g8, 0, none⟩) 1 1, .slice (some ⟨g10, 0, none⟩) N N, .slice (some ⟨g12, 0, none⟩) sh sh, .int .i64 0, .int .i64 0] 74) = x := ⟨_, rfl⟩
          obtain ⟨pf, hpf⟩ : ∃ x, w5.heap.size = x := ⟨_, rfl⟩
          have FIN := Lib.hid (FINE.out _ _ _ _ _ _ _ _ I5.out hwf hpf)
          rw [hwf, hpf]
          clear hwf hpf I5 FINE
          refine hK.out _ _ ((fun _ => trivial)) ?_
          clear hK K
          try simp only [Act.put, List.setIfInBounds_toArray, List.set_cons_zero, List.set_cons_succ]
          refine nw_one (i := 15) (E := False) rfl (by kernel_rfl) (fun K hK => ?_) (by kernel_rfl)
          go_simp
          refine hK.out _ _ ((fun _ => trivial)) ?_
          clear hK K
          try simp only [Act.put, List.setIfInBounds_toArray, List.set_cons_zero, List.set_cons_succ]
          refine nw_one (i := 16) (E := False) rfl (by kernel_rfl) (fun K hK => ?_) (by kernel_rfl)
          go_simp
          refine hK.out _ _ ((fun _ => trivial)) ?_
          clear hK K
          try simp only [Act.put, List.setIfInBounds_toArray, List.set_cons_zero, List.set_cons_succ]
          refine nw_end (by kernel_rfl) ?_
          go_wp2_with fail
          go_ret2
          exact FIN.out
      · go_simp
        obtain ⟨w3, hw⟩ : ∃ x, w2.alloc (.cells (nils N) 34) = x := ⟨_, rfl⟩
        obtain ⟨g10, hg⟩ : ∃ x, w2.heap.size = x := ⟨_, rfl⟩
        have I3 := Lib.hid (I2.out.a10 hc (by omega) hB0 hw hg)
        rw [hw, hg]
        clear hw hg I2
        refine hK.out _ _ ((fun _ => trivial)) ?_
        clear hK K
        try simp only [Act.put, List.setIfInBounds_toArray, List.set_cons_zero, List.set_cons_succ]
        refine nw_one (i := 6) (E := False) rfl (by kernel_rfl) (fun K hK => ?_) (by kernel_rfl)
        go_simp
        obtain ⟨w4, hw⟩ : ∃ x, w3.alloc (.cells (falses N) 4) = x := ⟨_, rfl⟩
        obtain ⟨g6, hg⟩ : ∃ x, w3.heap.size = x := ⟨_, rfl⟩
        have I4 := Lib.hid (I3.out.a6 hc (by omega) hB0 hw hg)
        rw [hw, hg]
        clear hw hg I3
        refine hK.out _ _ ((fun _ => trivial)) ?_
        clear hK K
        try simp only [Act.put, List.setIfInBounds_toArray, List.set_cons_zero, List.set_cons_succ]
        refine nw_take (i := 7) (v := ?_) rfl (by kernel_rfl) (by kernel_rfl) (fun _ _ d _ _ h => by cases d <;> exact h) (by exact hNS) (by kernel_rfl) ?_ (fun K hK => ?_); rotate_left; (· (intro w' hSw; (try dsimp only at hSw); go_simp; with_reducible rfl)); simp only [Act.put, List.setIfInBounds_toArray, List.set_cons_zero, List.set_cons_succ]; refine hK _ ?_; clear hK K
        refine nw_one (i := 8) (E := False) rfl (by kernel_rfl) (fun K hK => ?_) (by kernel_rfl)
        go_simp
        obtain ⟨w5, hw⟩ : ∃ x, w4.alloc (.cells #[.slice (some ⟨g4, 0, none⟩) N N, .slice (some ⟨g6, 0, none⟩) N N] 96) = x := ⟨_, rfl⟩
        obtain ⟨g8, hg⟩ : ∃ x, w4.heap.size = x := ⟨_, rfl⟩
        have I5 := Lib.hid (I4.out.a8 hc (by omega) hB0 hw hg)
        rw [hw, hg]
        clear hw hg I4
        refine hK.out _ _ ((fun _ => trivial)) ?_
        clear hK K
        try simp only [Act.put, List.setIfInBounds_toArray, List.set_cons_zero, List.set_cons_succ]
        refine nw_take (i := 13) (v := ?_) rfl (by kernel_rfl) (by kernel_rfl) (fun _ _ d _ _ h => by cases d <;> exact h) (by exact hNS) (by kernel_rfl) ?_ (fun K hK => ?_); rotate_left; (· (intro w' hSw; (try dsimp only at hSw); go_simp; with_reducible rfl)); simp only [Act.put, List.setIfInBounds_toArray, List.set_cons_zero, List.set_cons_succ]; refine hK _ ?_; clear hK K
        refine nw_one (i := 14) (E := False) rfl (by kernel_rfl) (fun K hK => ?_) (by kernel_rfl)
        go_simp
        obtain ⟨wf, hwf⟩ : ∃ x, w5.alloc (.cells #[.pointer (some ⟨dp, 0, none⟩), .int .i64 N, .int .i64 rm, .slice (some ⟨g8, 0, none⟩) 1 1, .slice (some ⟨g10, 0, none⟩) N N, .slice (some ⟨g12, 0, none⟩) sh sh, .int .i64 0, .int .i64 0] 74) = x := ⟨_, rfl⟩
        obtain ⟨pf, hpf⟩ : ∃ x, w5.heap.size = x := ⟨_, rfl⟩
        have FIN := Lib.hid (FINE.out _ _ _ _ _ _ _ _ I5.out hwf hpf)
        rw [hwf, hpf]
        clear hwf hpf I5 FINE
        refine hK.out _ _ ((fun _ => trivial)) ?_
        clear hK K
        try simp only [Act.put, List.setIfInBounds_toArray, List.set_cons_zero, List.set_cons_succ]
        refine nw_one (i := 15) (E := False) rfl (by kernel_rfl) (fun K hK => ?_) (by kernel_rfl)
        go_simp
        refine hK.out _ _ ((fun _ => trivial)) ?_
        clear hK K
        try simp only [Act.put, List.setIfInBounds_toArray, List.set_cons_zero, List.set_cons_succ]
        refine nw_one (i := 16) (E := False) rfl (by kernel_rfl) (fun K hK => ?_) (by kernel_rfl)
        go_simp
        refine hK.out _ _ ((fun _ => trivial)) ?_
        clear hK K
        try simp only [Act.put, List.setIfInBounds_toArray, List.set_cons_zero, List.set_cons_succ]
        refine nw_end (by kernel_rfl) ?_
        go_wp2_with fail
        go_ret2
        exact FIN.out
    · go_simp
      obtain ⟨w2, hw⟩ : ∃ x, w1.alloc (.cells (falses N) 4) = x := ⟨_, rfl⟩
      obtain ⟨g6, hg⟩ : ∃ x, w1.heap.size = x := ⟨_, rfl⟩
      have I2 := Lib.hid (I1.out.a6 hc (by omega) hB0 hw hg)
      rw [hw, hg]
      clear hw hg I1
      refine hK.out _ _ ((fun _ => trivial)) ?_
      clear hK K
      try simp only [Act.put, List.setIfInBounds_toArray, List.set_cons_zero, List.set_cons_succ]
      refine nw_alts (rs := [4, 10]) (by kernel_rfl) (by simp) (List.forall_mem_cons.2 ⟨nalt (E := False) rfl (fun K hK => ?_) (by kernel_rfl), List.forall_mem_cons.2 ⟨nalt (E := False) rfl (fun K hK => ?_) (by kernel_rfl), fun _ h => absurd h (by simp)⟩⟩)
      · go_simp
        obtain ⟨w3, hw⟩ : ∃ x, w2.alloc (.cells (nils N) 34) = x := ⟨_, rfl⟩
        obtain ⟨g4, hg⟩ : ∃ x, w2.heap.size = x := ⟨_, rfl⟩
        have I3 := Lib.hid (I2.out.a4 hc (by omega) hB0 hw hg)
        rw [hw, hg]
        clear hw hg I2
        refine hK.out _ _ ((fun _ => trivial)) ?_
        clear hK K
        try simp only [Act.put, List.setIfInBounds_toArray, List.set_cons_zero, List.set_cons_succ]
        refine nw_take (i := 7) (v := ?_) rfl (by kernel_rfl) (by kernel_rfl) (fun _ _ d _ _ h => by cases d <;> exact h) (by exact hNS) (by kernel_rfl) ?_ (fun K hK => ?_); rotate_left; (· (intro w' hSw; (try dsimp only at hSw); go_simp; with_reducible rfl)); simp only [Act.put, List.setIfInBounds_toArray, List.set_cons_zero, List.set_cons_succ]; refine hK _ ?_; clear hK K
        refine nw_alts (rs := [8, 10]) (by kernel_rfl) (by simp) (List.forall_mem_cons.2 ⟨nalt (E := False) rfl (fun K hK => ?_) (by kernel_rfl), List.forall_mem_cons.2 ⟨nalt (E := False) rfl (fun K hK => ?_) (by kernel_rfl), fun _ h => absurd h (by simp)⟩⟩)
        · go_simp
          obtain ⟨w4, hw⟩ : ∃ x, w3.alloc (.cells #[.slice (some ⟨g4, 0, none⟩) N N, .slice (some ⟨g6, 0, none⟩) N N] 96) = x := ⟨_, rfl⟩
          obtain ⟨g8, hg⟩ : ∃ x, w3.heap.size = x := ⟨_, rfl⟩
          have I4 := Lib.hid (I3.out.a8 hc (by omega) hB0 hw hg)
          rw [hw, hg]
          clear hw hg I3
          refine hK.out _ _ ((fun _ => trivial)) ?_
          clear hK K
          try simp only [Act.put, List.setIfInBounds_toArray, List.set_cons_zero, List.set_cons_succ]
          refine nw_one (i := 10) (E := False) rfl (by kernel_rfl) (fun K hK => ?_) (by kernel_rfl)
          go_simp
          obtain ⟨w5, hw⟩ : ∃ x, w4.alloc (.cells (nils N) 34) = x := ⟨_, rfl⟩
          obtain ⟨g10, hg⟩ : ∃ x, w4.heap.size = x := ⟨_, rfl⟩
          have I5 := Lib.hid (I4.out.a10 hc (by omega) hB0 hw hg)
          rw [hw, hg]
          clear hw hg I4
          refine hK.out _ _ ((fun _ => trivial)) ?_
          clear hK K
          try simp only [Act.put, List.setIfInBounds_toArray, List.set_cons_zero, List.set_cons_succ]
          refine nw_take (i := 13) (v := ?_) rfl (by kernel_rfl) (by kernel_rfl) (fun _ _ d _ _ h => by cases d <;> exact h) (by exact hNS) (by kernel_rfl) ?_ (fun K hK => ?_); rotate_left; (· (intro w' hSw; (try dsimp only at hSw); go_simp; with_reducible rfl)); simp only [Act.put, List.setIfInBounds_toArray, List.set_cons_zero, List.set_cons_succ]; refine hK _ ?_; clear hK K
          refine nw_one (i := 14) (E := False) rfl (by kernel_rfl) (fun K hK => ?_) (by kernel_rfl)
          go_simp
          obtain ⟨wf, hwf⟩ : ∃ x, w5.alloc (.cells #[.pointer (some ⟨dp, 0, none⟩), .int .i64 N, .int .i64 rm, .slice (some ⟨g8, 0, none⟩) 1 1, .slice (some ⟨g10, 0, none⟩) N N, .slice (some ⟨g12, 0, none⟩) sh sh, .int .i64 0, .int .i64 0] 74) = x := ⟨_, rfl⟩
          obtain ⟨pf, hpf⟩ : ∃ x, w5.heap.size = x := ⟨_, rfl⟩
          have FIN := Lib.hid (FINE.out _ _ _ _ _ _ _ _ I5.out hwf hpf)
          rw [hwf, hpf]
          clear hwf hpf I5 FINE
          refine hK.out _ _ ((fun _ => trivial)) ?_
          clear hK K
          try simp only [Act.put, List.setIfInBounds_toArray, List.set_cons_zero, List.set_cons_succ]
          refine nw_one (i := 15) (E := False) rfl (by kernel_rfl) (fun K hK => ?_) (by kernel_rfl)
          go_simp
          refine hK.out _ _ ((fun _ => trivial)) ?_
          clear hK K
          try simp only [Act.put, List.setIfInBounds_toArray, List.set_cons_zero, List.set_cons_succ]
          refine nw_one (i := 16) (E := False) rfl (by kernel_rfl) (fun K hK => ?_) (by kernel_rfl)
          go_simp
          refine hK.out _ _ ((fun _ => trivial)) ?_
          clear hK K
          try simp only [Act.put, List.setIfInBounds_toArray, List.set_cons_zero, List.set_cons_succ]
          refine nw_end (by kernel_rfl) ?_
          go_wp2_with fail
          go_ret2
          exact FIN.out
        · go_simp
          obtain ⟨w4, hw⟩ : ∃ x, w3.alloc (.cells (nils N) 34) = x := ⟨_, rfl⟩
          obtain ⟨g10, hg⟩ : ∃ x, w3.heap.size = x := ⟨_, rfl⟩
          have I4 := Lib.hid (I3.out.a10 hc (by omega) hB0 hw hg)
          rw [hw, hg]
          clear hw hg I3
          refine hK.out _ _ ((fun _ => trivial)) ?_
          clear hK K
          try simp only [Act.put, List.setIfInBounds_toArray, List.set_cons_zero, List.set_cons_succ]
          refine nw_one (i := 8) (E := False) rfl (by kernel_rfl) (fun K hK => ?_) (by kernel_rfl)
          go_simp
          obtain ⟨w5, hw⟩ : ∃ x, w4.alloc (.cells #[.slice (some ⟨g4, 0, none⟩) N N, .slice (some ⟨g6, 0, none⟩) N N] 96) = x := ⟨_, rfl⟩
          obtain ⟨g8, hg⟩ : ∃ x, w4.heap.size = x := ⟨_, rfl⟩
          have I5 := Lib.hid (I4.out.a8 hc (by omega) hB0 hw hg)
          rw [hw, hg]
          clear hw hg I4
          refine hK.out _ _ ((fun _ => trivial)) ?_
          clear hK K
          try simp only [Act.put, List.setIfInBounds_toArray, List.set_cons_zero, List.set_cons_succ]
          refine nw_take (i := 13) (v := ?_) rfl (by kernel_rfl) (by kernel_rfl) (fun _ _ d _ _ h => by cases d <;> exact h) (by exact hNS) (by kernel_rfl) ?_ (fun K hK => ?_); rotate_left; (· (intro w' hSw; (try dsimp only at hSw); go_simp; with_reducible rfl)); simp only [Act.put, List.setIfInBounds_toArray, List.set_cons_zero, List.set_cons_succ]; refine hK _ ?_; clear hK K
          refine nw_one (i := 14) (E := False) rfl (by kernel_rfl) (fun K hK => ?_) (by kernel_rfl)
          go_simp
          obtain ⟨wf, hwf⟩ : ∃ x, w5.alloc (.cells #[.pointer (some ⟨dp, 0, none⟩), .int .i64 N, .int .i64 rm, .slice (some ⟨g8, 0, none⟩) 1 1, .slice (some ⟨g10, 0, none⟩) N N, .slice (some ⟨g12, 0, none⟩) sh sh, .int .i64 0, .int .i64 0] 74) = x := ⟨_, rfl⟩
          obtain ⟨pf, hpf⟩ : ∃ x, w5.heap.size = x := ⟨_, rfl⟩
          have FIN := Lib.hid (FINE.out _ _ _ _ _ _ _ _ I5.out hwf hpf)
          rw [hwf, hpf]
          clear hwf hpf I5 FINE
          refine hK.out _ _ ((fun _ => trivial)) ?_
          clear hK K
          try simp only [Act.put, List.setIfInBounds_toArray, List.set_cons_zero, List.set_cons_succ]
          refine nw_one (i := 15) (E := False) rfl (by kernel_rfl) (fun K hK => ?_) (by kernel_rfl)
          go_simp
          refine hK.out _ _ ((fun _ => trivial)) ?_
          clear hK K
          try simp only [Act.put, List.setIfInBounds_toArray, List.set_cons_zero, List.set_cons_succ]
          refine nw_one (i := 16) (E := False) rfl (by kernel_rfl) (fun K hK => ?_) (by kernel_rfl)
          go_simp
          refine hK.out _ _ ((fun _ => trivial)) ?_
          clear hK K
          try simp only [Act.put, List.setIfInBounds_toArray, List.set_cons_zero, List.set_cons_succ]
          refine nw_end (by kernel_rfl) ?_
          go_wp2_with fail
          go_ret2
          exact FIN.out
      · go_simp
        obtain ⟨w3, hw⟩ : ∃ x, w2.alloc (.cells (nils N) 34) = x := ⟨_, rfl⟩
        obtain ⟨g10, hg⟩ : ∃ x, w2.heap.size = x := ⟨_, rfl⟩
        have I3 := Lib.hid (I2.out.a10 hc (by omega) hB0 hw hg)
        rw [hw, hg]
        clear hw hg I2
        refine hK.out _ _ ((fun _ => trivial)) ?_
        clear hK K
        try simp only [Act.put, List.setIfInBounds_toArray, List.set_cons_zero, List.set_cons_succ]
        refine nw_one (i := 4) (E := False) rfl (by kernel_rfl) (fun K hK => ?_) (by kernel_rfl)
        go_simp
        obtain ⟨w4, hw⟩ : ∃ x, w3.alloc (.cells (nils N) 34) = x := ⟨_, rfl⟩
        obtain ⟨g4, hg⟩ : ∃ x, w3.heap.size = x := ⟨_, rfl⟩
        have I4 := Lib.hid (I3.out.a4 hc (by omega) hB0 hw hg)
        rw [hw, hg]
        clear hw hg I3
        refine hK.out _ _ ((fun _ => trivial)) ?_
        clear hK K
        try simp only [Act.put, List.setIfInBounds_toArray, List.set_cons_zero, List.set_cons_succ]
        refine nw_take (i := 7) (v := ?_) rfl (by kernel_rfl) (by kernel_rfl) (fun _ _ d _ _ h => by cases d <;> exact h) (by exact hNS) (by kernel_rfl) ?_ (fun K hK => ?_); rotate_left; (· (intro w' hSw; (try dsimp only at hSw); go_simp; with_reducible rfl)); simp only [Act.put, List.setIfInBounds_toArray, List.set_cons_zero, List.set_cons_succ]; refine hK _ ?_; clear hK K
        refine nw_one (i := 8) (E := False) rfl (by kernel_rfl) (fun K hK => ?_) (by kernel_rfl)
        go_simp
        obtain ⟨w5, hw⟩ : ∃ x, w4.alloc (.cells #[.slice (some ⟨g4, 0, none⟩) N N, .slice (some ⟨g6, 0, none⟩) N N] 96) = x := ⟨_, rfl⟩
        obtain ⟨g8, hg⟩ : ∃ x, w4.heap.size = x := ⟨_, rfl⟩
        have I5 := Lib.hid (I4.out.a8 hc (by omega) hB0 hw hg)
        rw [hw, hg]
        clear hw hg I4
        refine hK.out _ _ ((fun _ => trivial)) ?_
        clear hK K
        try simp only [Act.put, List.setIfInBounds_toArray, List.set_cons_zero, List.set_cons_succ]
        refine nw_take (i := 13) (v := ?_) rfl (by kernel_rfl) (by kernel_rfl) (fun _ _ d _ _ h => by cases d <;> exact h) (by exact hNS) (by kernel_rfl) ?_ (fun K hK => ?_); rotate_left; (· (intro w' hSw; (try dsimp only at hSw); go_simp; with_reducible rfl)); simp only [Act.put, List.setIfInBounds_toArray, List.set_cons_zero, List.set_cons_succ]; refine hK _ ?_; clear hK K
        refine nw_one (i := 14) (E := False) rfl (by kernel_rfl) (fun K hK => ?_) (by kernel_rfl)
        go_simp
        obtain ⟨wf, hwf⟩ : ∃ x, w5.alloc (.cells #[.pointer (some ⟨dp, 0, none⟩), .int .i64 N, .int .i64 rm, .slice (some ⟨g8, 0, none⟩) 1 1, .slice (some ⟨g10, 0, none⟩) N N, .slice (some ⟨g12, 0, none⟩) sh sh, .int .i64 0, .int .i64 0] 74) = x := ⟨_, rfl⟩
        obtain ⟨pf, hpf⟩ : ∃ x, w5.heap.size = x := ⟨_, rfl⟩
        have FIN := Lib.hid (FINE.out _ _ _ _ _ _ _ _ I5.out hwf hpf)
        rw [hwf, hpf]
        clear hwf hpf I5 FINE
        refine hK.out _ _ ((fun _ => trivial)) ?_
        clear hK K
        try simp only [Act.put, List.setIfInBounds_toArray, List.set_cons_zero, List.set_cons_succ]
        refine nw_one (i := 15) (E := False) rfl (by kernel_rfl) (fun K hK => ?_) (by kernel_rfl)
        go_simp
        refine hK.out _ _ ((fun _ => trivial)) ?_
        clear hK K
        try simp only [Act.put, List.setIfInBounds_toArray, List.set_cons_zero, List.set_cons_succ]
        refine nw_one (i := 16) (E := False) rfl (by kernel_rfl) (fun K hK => ?_) (by kernel_rfl)
        go_simp
        refine hK.out _ _ ((fun _ => trivial)) ?_
        clear hK K
        try simp only [Act.put, List.setIfInBounds_toArray, List.set_cons_zero, List.set_cons_succ]
        refine nw_end (by kernel_rfl) ?_
        go_wp2_with fail
        go_ret2
        exact FIN.out
    · go_simp
      obtain ⟨w2, hw⟩ : ∃ x, w1.alloc (.cells (nils N) 34) = x := ⟨_, rfl⟩
      obtain ⟨g10, hg⟩ : ∃ x, w1.heap.size = x := ⟨_, rfl⟩
      have I2 := Lib.hid (I1.out.a10 hc (by omega) hB0 hw hg)
      rw [hw, hg]
      clear hw hg I1
      refine hK.out _ _ ((fun _ => trivial)) ?_
      clear hK K
      try simp only [Act.put, List.setIfInBounds_toArray, List.set_cons_zero, List.set_cons_succ]
      refine nw_alts (rs := [4, 6]) (by kernel_rfl) (by simp) (List.forall_mem_cons.2 ⟨nalt (E := False) rfl (fun K hK => ?_) (by kernel_rfl), List.forall_mem_cons.2 ⟨nalt (E := False) rfl (fun K hK => ?_) (by kernel_rfl), fun _ h => absurd h (by simp)⟩⟩)
      · go_simp
        obtain ⟨w3, hw⟩ : ∃ x, w2.alloc (.cells (nils N) 34) = x := ⟨_, rfl⟩
        obtain ⟨g4, hg⟩ : ∃ x, w2.heap.size = x := ⟨_, rfl⟩
        have I3 := Lib.hid (I2.out.a4 hc (by omega) hB0 hw hg)
        rw [hw, hg]
        clear hw hg I2
        refine hK.out _ _ ((fun _ => trivial)) ?_
        clear hK K
        try simp only [Act.put, List.setIfInBounds_toArray, List.set_cons_zero, List.set_cons_succ]
        refine nw_one (i := 6) (E := False) rfl (by kernel_rfl) (fun K hK => ?_) (by kernel_rfl)
        go_simp
        obtain ⟨w4, hw⟩ : ∃ x, w3.alloc (.cells (falses N) 4) = x := ⟨_, rfl⟩
        obtain ⟨g6, hg⟩ : ∃ x, w3.heap.size = x := ⟨_, rfl⟩
        have I4 := Lib.hid (I3.out.a6 hc (by omega) hB0 hw hg)
        rw [hw, hg]
        clear hw hg I3
        refine hK.out _ _ ((fun _ => trivial)) ?_
        clear hK K
        try simp only [Act.put, List.setIfInBounds_toArray, List.set_cons_zero, List.set_cons_succ]
        refine nw_take (i := 7) (v := ?_) rfl (by kernel_rfl) (by kernel_rfl) (fun _ _ d _ _ h => by cases d <;> exact h) (by exact hNS) (by kernel_rfl) ?_ (fun K hK => ?_); rotate_left; (· (intro w' hSw; (try dsimp only at hSw); go_simp; with_reducible rfl)); simp only [Act.put, List.setIfInBounds_toArray, List.set_cons_zero, List.set_cons_succ]; refine hK _ ?_; clear hK K
        refine nw_one (i := 8) (E := False) rfl (by kernel_rfl) (fun K hK => ?_) (by kernel_rfl)
        go_simp
        obtain ⟨w5, hw⟩ : ∃ x, w4.alloc (.cells #[.slice (some ⟨g4, 0, none⟩) N N, .slice (some ⟨g6, 0, none⟩) N N] 96) = x := ⟨_, rfl⟩
        obtain ⟨g8, hg⟩ : ∃ x, w4.heap.size = x := ⟨_, rfl⟩
        have I5 := Lib.hid (I4.out.a8 hc (by omega) hB0 hw hg)
        rw [hw, hg]
        clear hw hg I4
        refine hK.out _ _ ((fun _ => trivial)) ?_
        clear hK K
        try simp only [Act.put, List.setIfInBounds_toArray, List.set_cons_zero, List.set_cons_succ]
        refine nw_take (i := 13) (v := ?_) rfl (by kernel_rfl) (by kernel_rfl) (fun _ _ d _ _ h => by cases d <;> exact h) (by exact hNS) (by kernel_rfl) ?_ (fun K hK => ?_); rotate_left; (· (intro w' hSw; (try dsimp only at hSw); go_simp; with_reducible rfl)); simp only [Act.put, List.setIfInBounds_toArray, List.set_cons_zero, List.set_cons_succ]; refine hK _ ?_; clear hK K
        refine nw_one (i := 14) (E := False) rfl (by kernel_rfl) (fun K hK => ?_) (by kernel_rfl)
        go_simp
        obtain ⟨wf, hwf⟩ : ∃ x, w5.alloc (.cells #[.pointer (some ⟨dp, 0, none⟩), .int .i64 N, .int .i64 rm, .slice (some ⟨g8, 0, none⟩) 1 1, .slice (some ⟨g10, 0, none⟩) N N, .slice (some ⟨g12, 0, none⟩) sh sh, .int .i64 0, .int .i64 0] 74) = x := ⟨_, rfl⟩
        obtain ⟨pf, hpf⟩ : ∃ x, w5.heap.size = x := ⟨_, rfl⟩
        have FIN := Lib.hid (FINE.out _ _ _ _ _ _ _ _ I5.out hwf hpf)
        rw [hwf, hpf]
        clear hwf hpf I5 FINE
        refine hK.out _ _ ((fun _ => trivial)) ?_
        clear hK K
        try simp only [Act.put, List.setIfInBounds_toArray, List.set_cons_zero, List.set_cons_succ]
        refine nw_one (i := 15) (E := False) rfl (by kernel_rfl) (fun K hK => ?_) (by kernel_rfl)
        go_simp
        refine hK.out _ _ ((fun _ => trivial)) ?_
        clear hK K
        try simp only [Act.put, List.setIfInBounds_toArray, List.set_cons_zero, List.set_cons_succ]
        refine nw_one (i := 16) (E := False) rfl (by kernel_rfl) (fun K hK => ?_) (by kernel_rfl)
        go_simp
        refine hK.out _ _ ((fun _ => trivial)) ?_
        clear hK K
        try simp only [Act.put, List.setIfInBounds_toArray, List.set_cons_zero, List.set_cons_succ]
        refine nw_end (by kernel_rfl) ?_
        go_wp2_with fail
        go_ret2
        exact FIN.out
      · go_simp
        obtain ⟨w3, hw⟩ : ∃ x, w2.alloc (.cells (falses N) 4) = x := ⟨_, rfl⟩
        obtain ⟨g6, hg⟩ : ∃ x, w2.heap.size = x := ⟨_, rfl⟩
        have I3 := Lib.hid (I2.out.a6 hc (by omega) hB0 hw hg)
        rw [hw, hg]
        clear hw hg I2
        refine hK.out _ _ ((fun _ => trivial)) ?_
        clear hK K
        try simp only [Act.put, List.setIfInBounds_toArray, List.set_cons_zero, List.set_cons_succ]
        refine nw_one (i := 4) (E := False) rfl (by kernel_rfl) (fun K hK => ?_) (by kernel_rfl)
        go_simp
        obtain ⟨w4, hw⟩ : ∃ x, w3.alloc (.cells (nils N) 34) = x := ⟨_, rfl⟩
        obtain ⟨g4, hg⟩ : ∃ x, w3.heap.size = x := ⟨_, rfl⟩
        have I4 := Lib.hid (I3.out.a4 hc (by omega) hB0 hw hg)
        rw [hw, hg]
        clear hw hg I3
        refine hK.out _ _ ((fun _ => trivial)) ?_
        clear hK K
        try simp only [Act.put, List.setIfInBounds_toArray, List.set_cons_zero, List.set_cons_succ]
        refine nw_take (i := 7) (v := ?_) rfl (by kernel_rfl) (by kernel_rfl) (fun _ _ d _ _ h => by cases d <;> exact h) (by exact hNS) (by kernel_rfl) ?_ (fun K hK => ?_); rotate_left; (· (intro w' hSw; (try dsimp only at hSw); go_simp; with_reducible rfl)); simp only [Act.put, List.setIfInBounds_toArray, List.set_cons_zero, List.set_cons_succ]; refine hK _ ?_; clear hK K
        refine nw_one (i := 8) (E := False) rfl (by kernel_rfl) (fun K hK => ?_) (by kernel_rfl)
        go_simp
        obtain ⟨w5, hw⟩ : ∃ x, w4.alloc (.cells #[.slice (some ⟨g4, 0, none⟩) N N, .slice (some ⟨g6, 0, none⟩) N N] 96) = x := ⟨_, rfl⟩
        obtain ⟨g8, hg⟩ : ∃ x, w4.heap.size = x := ⟨_, rfl⟩
        have I5 := Lib.hid (I4.out.a8 hc (by omega) hB0 hw hg)
        rw [hw, hg]
        clear hw hg I4
        refine hK.out _ _ ((fun _ => trivial)) ?_
        clear hK K
        try simp only [Act.put, List.setIfInBounds_toArray, List.set_cons_zero, List.set_cons_succ]
        refine nw_take (i := 13) (v := ?_) rfl (by kernel_rfl) (by kernel_rfl) (fun _ _ d _ _ h => by cases d <;> exact h) (by exact hNS) (by kernel_rfl) ?_ (fun K hK => ?_); rotate_left; (· (intro w' hSw; (try dsimp only at hSw); go_simp; with_reducible rfl)); simp only [Act.put, List.setIfInBounds_toArray, List.set_cons_zero, List.set_cons_succ]; refine hK _ ?_; clear hK K
        refine nw_one (i := 14) (E := False) rfl (by kernel_rfl) (fun K hK => ?_) (by kernel_rfl)
        go_simp
        obtain ⟨wf, hwf⟩ : ∃ x, w5.alloc (.cells #[.pointer (some ⟨dp, 0, none⟩), .int .i64 N, .int .i64 rm, .slice (some ⟨g8, 0, none⟩) 1 1, .slice (some ⟨g10, 0, none⟩) N N, .slice (some ⟨g12, 0, none⟩) sh sh, .int .i64 0, .int .i64 0] 74) = x := ⟨_, rfl⟩
        obtain ⟨pf, hpf⟩ : ∃ x, w5.heap.size = x := ⟨_, rfl⟩
        have FIN := Lib.hid (FINE.out _ _ _ _ _ _ _ _ I5.out hwf hpf)
        rw [hwf, hpf]
        clear hwf hpf I5 FINE
        refine hK.out _ _ ((fun _ => trivial)) ?_
        clear hK K
        try simp only [Act.put, List.setIfInBounds_toArray, List.set_cons_zero, List.set_cons_succ]
        refine nw_one (i := 15) (E := False) rfl (by kernel_rfl) (fun K hK => ?_) (by kernel_rfl)
        go_simp
        refine hK.out _ _ ((fun _ => trivial)) ?_
        clear hK K
        try simp only [Act.put, List.setIfInBounds_toArray, List.set_cons_zero, List.set_cons_succ]
        refine nw_one (i := 16) (E := False) rfl (by kernel_rfl) (fun K hK => ?_) (by kernel_rfl)
        go_simp
        refine hK.out _ _ ((fun _ => trivial)) ?_
        clear hK K
        try simp only [Act.put, List.setIfInBounds_toArray, List.set_cons_zero, List.set_cons_succ]
        refine nw_end (by kernel_rfl) ?_
        go_wp2_with fail
        go_ret2
        exact FIN.out
end Go.Proofs.Ytomoliickggghaa.Mem

namespace Go.Proofs.Ytomoliickggghaa.Mem
open Go.RowKit Go.Proofs.Ytomoliickggghaa Go.Proofs.Ytomoliickggghaa.Wire
set_option maxHeartbeats 8000000
set_option maxRecDepth 100000
set_option linter.unusedVariables false
set_option linter.unusedSimpArgs false

def RS.writeS (R : RS) (n : Int) (bs : Bytes) : RS := if R.has n = true then R.write n bs else R
def RS.writeE (R : RS) (n : Int) : Int := if R.has n = true then 0 else 5
def RS.holdS (R : RS) (n : Int) : RS := if R.has n = true then R.hold n else R
def RS.holdE (R : RS) (n : Int) : Int := if R.has n = true then 0 else 22
theorem rwrite_all (w : World) (col : Col) (B c p dp : Nat) (R : RS) (n : Int) (a : Addr) (cap : Nat) (bs : Bytes) (h : RStoreAt w col B c p dp R) (hB : B ≤ w.heap.size) (ht0 : ∀ b, w.heap.size ≤ b → col b = 0) (few : R.st.length + 1 + R.found + R.asked ≤ 1000000000)
    (hb : BytesAt w (some a) 256 bs) :
    Calls Try.prog 54 #[ptr p, .int .i64 n, .slice (some a) 256 cap] w fun e w' => RWrote w col B c p dp (R.writeS n bs) (R.writeE n) e w' := by
  unfold RS.writeS RS.writeE
  cases hn : R.has n with
  | false =>
    obtain ⟨L, hL⟩ := h
    refine (rwrite_has w col B c p dp R L n _ hL hn).mono ?_
    rintro e w' ⟨rfl, rfl⟩
    exact ⟨col, rfl, Tch.refl _ _ _ _, L, hL⟩
  | true => exact rwrite_any w col B c p dp R n a cap bs h hn hB ht0 few hb
/-- A row of another length is refused. -/
theorem rwrite_odd (w : World) (col : Col) (B c p dp : Nat) (R : RS) (n : Int) (A : Option Addr) (len cap : Nat) (h : RStoreAt w col B c p dp R) (hl : len ≠ 256) :
    Calls Try.prog 54 #[ptr p, .int .i64 n, .slice A len cap] w fun e w' => e = .returned (.int .i64 (if R.has n = true then 22 else 5)) ∧ w = w' := by
  obtain ⟨L, hL⟩ := h
  cases hn : R.has n with
  | false => rw [if_neg (by decide)]; exact rwrite_has w col B c p dp R L n _ hL hn
  | true => rw [if_pos rfl]; exact rwrite_len w col B c p dp R L n A len cap hL hn hl
theorem swrite_odd (w : World) (col : Col) (B c p : Nat) (S : SS) (n : Int) (A : Option Addr) (len cap : Nat) (h : StoreAt w col B c p S) (hB : B ≤ w.heap.size) (hl : len ≠ 256) :
    Calls Try.prog 12 #[ptr p, .int .i64 n, .slice A len cap] w fun e w' => SWrote w col B c p S (if S.has n = true then 22 else 5) e w' := by
  cases hn : S.has n with
  | false => rw [if_neg (by decide)]; exact swrite_has w col B c p S n _ h hn hB
  | true => rw [if_pos rfl]; exact swrite_len w col B c p S n A len cap h hn hB hl
theorem rhold_all (w : World) (col : Col) (B c p dp : Nat) (R : RS) (n : Int) (h : RStoreAt w col B c p dp R) (hB : B ≤ w.heap.size) (ht0 : ∀ b, w.heap.size ≤ b → col b = 0) (few : R.st.length + 1 + R.found + R.asked ≤ 1000000000) :
    Calls Try.prog 55 #[ptr p, .int .i64 n] w fun e w' => RWrote w col B c p dp (R.holdS n) (R.holdE n) e w' := by
  unfold RS.holdS RS.holdE
  cases hn : R.has n with
  | false =>
    obtain ⟨L, hL⟩ := h
    refine (rhold_no w col B c p dp R L n hL hn).mono ?_
    rintro e w' ⟨rfl, rfl⟩
    exact ⟨col, rfl, Tch.refl _ _ _ _, L, hL⟩
  | true => exact rhold_any w col B c p dp R n h hn hB ht0 few
theorem rback_all (w : World) (col : Col) (B c p dp : Nat) (R : RS) (m : Int) (h : RStoreAt w col B c p dp R) :
    Calls Try.prog 56 #[ptr p, .int .i64 m] w fun e w' => RWrote w col B c p dp (R.back m) (R.backE m) e w' := by
  refine (rback_any w col B c p dp R m h).mono ?_
  rintro e w' ⟨rfl, ht, hs⟩
  exact ⟨col, rfl, ht.mono (by omega) (by omega), hs⟩
theorem rhome_all (w : World) (col : Col) (B c p dp : Nat) (R : RS) (n : Int) (h : RStoreAt w col B c p dp R) (hB : B ≤ w.heap.size) (hroom : R.d.pend.length + R.d.n + 2 ≤ 1000000000) :
    Calls Try.prog 60 #[ptr p, .int .i64 n] w fun e w' => RWrote w col B c p dp (R.home n) (R.homeE n) e w' := by
  unfold RS.homeE
  by_cases hn : R.has n = true ∧ (R.wait n).isSome = true
  · rw [if_pos hn]
    obtain ⟨bs, hbs⟩ := Option.isSome_iff_exists.1 hn.2
    exact rhome_yes w col B c p dp R n bs h hn.1 hbs hB hroom
  · rw [if_neg hn]
    have e : R.home n = R := by
      unfold RS.home
      split
      · rename_i h1
        cases hw : R.wait n with
        | none => rfl
        | some b => exact absurd ⟨h1, by rw [hw]; rfl⟩ hn
      · rfl
    rw [e]
    obtain ⟨L, hL⟩ := h
    refine (rhome_no w col B c p dp R L n hL hn).mono ?_
    rintro e w' ⟨rfl, rfl⟩
    exact ⟨col, rfl, Tch.refl _ _ _ _, L, hL⟩
def RReleased (w : World) (col : Col) (B c p dp : Nat) (R : RS) (e : Ending) (w' : World) : Prop := ∃ col', e = .returned (.tuple #[]) ∧ Tch c (c + 7) col col' w w' ∧ RStoreAt w' col' B c p dp R
theorem rrelease_all (w : World) (col : Col) (B c p dp : Nat) (R : RS) (h : RStoreAt w col B c p dp R) (hB : B ≤ w.heap.size) :
    Calls Try.prog 59 #[ptr p] w fun e w' => RReleased w col B c p dp R.release e w' := by
  refine (rrelease_any w col B c p dp R h hB).mono ?_
  rintro e w' ⟨rfl, col', ht, hs⟩
  exact ⟨col', rfl, ht.mono (by omega) (by omega), hs⟩
theorem rheld_all (w : World) (col : Col) (B c p dp : Nat) (R : RS) (n : Int) (h : RStoreAt w col B c p dp R) : Calls Try.prog 34 #[ptr p, .int .i64 n] w fun e w' => e = .returned (.bool (R.isHeld n)) ∧ Below w.heap.size w w' := by
  obtain ⟨L, h⟩ := h
  exact rheld_any w col B c p dp R L n h
theorem rmark_all (w : World) (col : Col) (B c p dp : Nat) (R : RS) (h : RStoreAt w col B c p dp R) : Calls Try.prog 35 #[ptr p] w fun e w' => e = .returned (.int .i64 ((R.st.length - 1 : Nat) : Int)) ∧ w = w' := by
  obtain ⟨L, h⟩ := h
  exact rmark_any w col B c p dp R L h
def RChanged (w : World) (col : Col) (R : RS) (e : Ending) (w' : World) : Prop := ∃ v, e = .returned v ∧ Below w.heap.size w w' ∧ w'.ownsRow w.heap.size 3 1 v R.changed.length (ints R.changed)
theorem rchanged_all (w : World) (col : Col) (B c p dp : Nat) (R : RS) (h : RStoreAt w col B c p dp R) : Calls Try.prog 36 #[ptr p] w fun e w' => RChanged w col R e w' := by
  obtain ⟨L, h⟩ := h
  refine (rchanged_any w col B c p dp R L h).mono ?_
  rintro e w' ⟨v, rfl, ho, hb⟩
  exact ⟨v, rfl, hb, ho⟩
theorem rwaiting_all (w : World) (col : Col) (B c p dp : Nat) (R : RS) (h : RStoreAt w col B c p dp R) :
    Calls Try.prog 61 #[ptr p] w fun e w' => RCommits w col B c p dp R (wsOf R.n R.wait) e w' := by
  have hlo := h.lo
  have h0 := h
  obtain ⟨L, hL⟩ := h0
  refine (rwaiting_any w col B c p dp R L hL).mono ?_
  rintro e w' ⟨v, col', rfl, ht, hw⟩
  exact ⟨v, col', rfl, ht.any (Nat.le_refl _), h.keep ht (by omega) (by omega), hw⟩
end Go.Proofs.Ytomoliickggghaa.Mem

namespace Go.Proofs.Ytomoliickggghaa.Mem
open Go.RowKit Go.Proofs.Ytomoliickggghaa Go.Proofs.Ytomoliickggghaa.Wire
set_option maxHeartbeats 8000000
set_option maxRecDepth 100000
set_option linter.unusedVariables false
set_option linter.unusedSimpArgs false

/-! ### undoing -/
theorem back_chg {S T : SS} (h1 : S.chg = T.chg) (h2 : S.held = T.held) (h3 : S.undo = T.undo) : S.pop.chg = T.pop.chg ∧ S.pop.held = T.pop.held ∧ S.pop.undo = T.pop.undo := by
  unfold SS.pop
  rw [h3]
  cases hu : T.undo[T.undo.length - 1]? with
  | none => exact ⟨h1, h2, h3⟩
  | some u =>
    cases u with
    | w n old => exact ⟨by show (fun j => if j = n then old else S.chg j) = (fun j => if j = n then old else T.chg j); rw [h1], h2, rfl⟩
    | h n cur was =>
      unfold Und.back
      simp only
      split
      · exact ⟨h1, by show (fun j => if j = n then false else S.held j) = (fun j => if j = n then false else T.held j); rw [h2], by trivial⟩
      · exact ⟨h1, h2, by trivial⟩
theorem backN_chg : ∀ (k : Nat) {S T : SS}, S.chg = T.chg → S.held = T.held → S.undo = T.undo → (S.backN k).chg = (T.backN k).chg ∧ (S.backN k).held = (T.backN k).held
  | 0, _, _, h1, h2, _ => ⟨h1, h2⟩
  | k + 1, _, _, h1, h2, h3 => by
    obtain ⟨q1, q2, q3⟩ := back_chg h1 h2 h3
    exact backN_chg k q1 q2 q3
theorem backN_add : ∀ (a b : Nat) (S : SS), (S.backN a).backN b = S.backN (a + b)
  | 0, b, S => by rw [Nat.zero_add]; rfl
  | a + 1, b, S => by rw [show a + 1 + b = (a + b) + 1 by omega]; exact backN_add a b S.pop
theorem pop_keeps (S : SS) : S.pop.undo.length = S.undo.length - 1 ∧ S.pop.d = S.d ∧ S.pop.sh = S.sh ∧ S.pop.room = S.room ∧ S.pop.found = S.found ∧ S.pop.asked = S.asked ∧ S.pop.wait = S.wait := by
  unfold SS.pop
  cases hu : S.undo[S.undo.length - 1]? with
  | none =>
    have := List.getElem?_eq_none_iff.1 hu
    exact ⟨by show S.undo.length = S.undo.length - 1; omega, rfl, rfl, rfl, rfl, rfl, rfl⟩
  | some u =>
    have hb := back_same S u
    refine ⟨by simp, hb.2.1, hb.2.2.1, hb.2.2.2.1, hb.2.2.2.2.1, hb.2.2.2.2.2, ?_⟩
    cases u with
    | w n old => rfl
    | h n cur was => show (Und.back S (.h n cur was)).wait = S.wait; simp only [Und.back]; split <;> rfl
theorem backN_keeps : ∀ (k : Nat) (S : SS), (S.backN k).undo.length = S.undo.length - k ∧ (S.backN k).d = S.d ∧ (S.backN k).sh = S.sh ∧ (S.backN k).room = S.room ∧ (S.backN k).found = S.found ∧ (S.backN k).asked = S.asked ∧ (S.backN k).wait = S.wait
  | 0, S => ⟨rfl, rfl, rfl, rfl, rfl, rfl, rfl⟩
  | k + 1, S => by
    obtain ⟨a1, a2, a3, a4, a5, a6, a7⟩ := pop_keeps S
    obtain ⟨b1, b2, b3, b4, b5, b6, b7⟩ := backN_keeps k S.pop
    exact ⟨by show (S.pop.backN k).undo.length = _; omega, b2.trans a2, b3.trans a3, b4.trans a4, b5.trans a5, b6.trans a6, b7.trans a7⟩
theorem free_pop {S T : SS} (h1 : T.chg = S.chg) (h2 : T.undo = S.undo.map Und.free) (h3 : T.held = fun _ => false) : T.pop.chg = S.pop.chg ∧ T.pop.undo = S.pop.undo.map Und.free ∧ T.pop.held = fun _ => false := by
  unfold SS.pop
  rw [h2, List.length_map, List.getElem?_map]
  cases hu : S.undo[S.undo.length - 1]? with
  | none => exact ⟨h1, h2, h3⟩
  | some u =>
    cases u with
    | w n old => exact ⟨by show (fun j => if j = n then old else T.chg j) = (fun j => if j = n then old else S.chg j); rw [h1], by show (S.undo.map Und.free).take _ = _; rw [List.map_take], h3⟩
    | h n cur was =>
      have e1 : Und.back T (Und.free (.h n cur was)) = T := rfl
      have e2 : (Und.back S (.h n cur was)).chg = S.chg := by simp only [Und.back]; split <;> rfl
      refine ⟨?_, by show (S.undo.map Und.free).take _ = _; rw [List.map_take], ?_⟩
      · show (Und.back T (Und.free (.h n cur was))).chg = (Und.back S (.h n cur was)).chg
        rw [e1, e2]; exact h1
      · show (Und.back T (Und.free (.h n cur was))).held = _
        rw [e1]; exact h3
theorem free_backN : ∀ (k : Nat) {S T : SS}, T.chg = S.chg → T.undo = S.undo.map Und.free → T.held = (fun _ => false) → (T.backN k).chg = (S.backN k).chg ∧ (T.backN k).held = fun _ => false
  | 0, _, _, h1, _, h3 => ⟨h1, h3⟩
  | k + 1, _, _, h1, h2, h3 => by
    obtain ⟨q1, q2, q3⟩ := free_pop h1 h2 h3
    exact free_backN k q1 q2 q3

/-! ### the shards -/
structure ShOk (y : Sd) (room : Nat) : Prop where
  nod : y.1.Pairwise (· ≠ ·)
  mem : ∀ n, (y.2 n).isSome = true ↔ n ∈ y.1
  len : y.1.length ≤ room
theorem mem_wo {n x : Int} {l : List Int} : x ∈ wo n l ↔ x ∈ l ∧ x ≠ n := by
  unfold wo
  rw [List.mem_filter]
  simp
theorem ShOk.wo {y : Sd} {room : Nat} (h : ShOk y room) (n : Int) : ShOk (y.wo n) room := by
  refine ⟨wo_nod h.nod, fun k => ?_, Nat.le_trans (wo_len n y.1) h.len⟩
  show (if k = n then none else y.2 k).isSome = true ↔ k ∈ Mem.wo n y.1
  rw [mem_wo, ← h.mem k]
  by_cases e : k = n
  · rw [if_pos e]; simp [e]
  · rw [if_neg e]; simp [e]
theorem put_mem {y : Sd} {room : Nat} (h : ShOk y room) (n : Int) (bs : Bytes) (k : Int) : ((y.put n bs).2 k).isSome = true ↔ k ∈ (y.put n bs).1 := by
  show (if k = n then some bs else y.2 k).isSome = true ↔ k ∈ Mem.wo n y.1 ++ [n]
  rw [List.mem_append, mem_wo, List.mem_singleton, ← h.mem k]
  by_cases e : k = n
  · rw [if_pos e]; simp [e]
  · rw [if_neg e]; simp [e]
theorem wo_rev (n : Int) (l : List Int) : wo n l.reverse = (wo n l).reverse := by unfold wo; rw [List.filter_reverse]
theorem wo_head {h : Int} {t : List Int} (hn : (h :: t).Pairwise (· ≠ ·)) : wo h (h :: t) = t := by
  unfold wo
  rw [List.filter_cons_of_neg (by simp)]
  refine List.filter_eq_self.2 fun x hx => ?_
  have := (List.pairwise_cons.1 hn).1 x hx
  simp only [ne_eq, decide_eq_true_eq]
  exact fun e => this e.symm
theorem ShOk.use {y : Sd} {room : Nat} (h : ShOk y room) (n : Int) (bs : Bytes) (hr : 1 ≤ room) : ShOk (y.use n bs room) room ∧ (y.use n bs room).1.reverse = useL room y.1.reverse n := by
  have hpn := put_nod (n := n) (bs := bs) h.nod
  have hpm := put_mem h n bs
  have hpl : (y.put n bs).1.length = (Mem.wo n y.1).length + 1 := by show (Mem.wo n y.1 ++ [n]).length = _; simp
  have hpr : (y.put n bs).1.reverse = n :: Mem.wo n y.1.reverse := by show (Mem.wo n y.1 ++ [n]).reverse = _; rw [List.reverse_append, wo_rev]; rfl
  have hwl := wo_len n y.1
  have hyl := h.len
  unfold Sd.use
  by_cases hb : room < (y.put n bs).1.length
  · rw [if_pos hb]
    obtain ⟨hd, tl, he⟩ : ∃ hd tl, (y.put n bs).1 = hd :: tl := by
      cases hp : (y.put n bs).1 with
      | nil => rw [hp] at hpl; simp at hpl
      | cons a b => exact ⟨a, b, rfl⟩
    have hh : (y.put n bs).1.headD 0 = hd := by rw [he]; rfl
    rw [hh]
    have htl : ((y.put n bs).wo hd).1 = tl := by
      show Mem.wo hd (y.put n bs).1 = tl
      rw [he] at hpn ⊢
      exact wo_head hpn
    have htn : tl.length = room := by rw [he] at hpl hb; simp at hpl hb; omega
    refine ⟨⟨wo_nod hpn, fun k => ?_, by rw [htl]; omega⟩, ?_⟩
    · show (if k = hd then none else (y.put n bs).2 k).isSome = true ↔ k ∈ Mem.wo hd (y.put n bs).1
      rw [mem_wo, ← hpm k]
      by_cases e : k = hd
      · rw [if_pos e]; simp [e]
      · rw [if_neg e]; simp [e]
    · rw [htl]
      unfold useL
      rw [← hpr, he, List.reverse_cons, List.take_append_of_le_length (by simp [htn]), List.take_of_length_le (by simp [htn])]
  · rw [if_neg hb]
    refine ⟨⟨hpn, hpm, by omega⟩, ?_⟩
    unfold useL
    rw [← hpr, List.take_of_length_le (by simp; omega)]

/-! ### the two stores -/
structure Rel (S : SS) (R : RS) : Prop where
  n : R.n = S.d.N
  room : R.room = S.room
  len : R.st.length = S.undo.length + 1
  st : ∀ k, k ≤ S.undo.length → R.st[S.undo.length - k]? = some ((S.backN k).chg, (S.backN k).held)
  wait : R.wait = S.wait
  ca : R.ca = S.sh.map fun y => y.1.reverse
  found : R.found = S.found
  asked : R.asked = S.asked
  pend : R.d.pend = S.d.pend
  get : ∀ n, R.has n = true → R.d.get n = S.d.get n
  ci : CI S
  sh : ∀ y ∈ S.sh, ShOk y S.room
  rm : 1 ≤ S.room
  dl : R.d.l.length = R.n
theorem Rel.has {S : SS} {R : RS} (h : Rel S R) (n : Int) : R.has n = S.has n := by unfold RS.has SS.has; rw [h.n]
theorem Rel.now {S : SS} {R : RS} (h : Rel S R) : R.now = (S.chg, S.held) := by
  have := h.st 0 (by omega)
  unfold RS.now
  rw [h.len, show S.undo.length + 1 - 1 = S.undo.length - 0 by omega, this]
  rfl
theorem Rel.of_ {S : SS} {R : RS} (h : Rel S R) (n : Int) : R.of n = S.of n := by unfold RS.of SS.of; rw [h.ca, List.length_map]
theorem Rel.cache {S : SS} {R : RS} (h : Rel S R) (i : Nat) : R.cache i = (S.shard i).1.reverse := by
  unfold RS.cache SS.shard
  rw [h.ca, List.getElem?_map]
  cases S.sh[i]? <;> rfl
theorem Rel.shard {S : SS} {R : RS} (h : Rel S R) {i : Nat} (hi : i < S.sh.length) : ShOk (S.shard i) S.room := by
  refine h.sh _ ?_
  unfold SS.shard
  rw [List.getElem?_eq_getElem hi]
  exact List.getElem_mem hi
theorem Rel.get_ {S : SS} {R : RS} (h : Rel S R) (n : Int) : R.get n = S.get n := by
  unfold RS.get SS.get
  rw [h.now, h.wait]
  rfl
theorem Rel.readB {S : SS} {R : RS} (h : Rel S R) (n : Int) : R.readB n = S.readB n ∧ R.readE n = S.readE n := by
  refine ⟨?_, by unfold RS.readE SS.readE; rw [h.has]⟩
  rw [h.ci.readB]
  unfold RS.readB
  rw [h.has]
  by_cases hn : S.has n = true
  · rw [if_pos hn, if_pos hn, h.get_]
    unfold SS.get SS.val
    cases hc : S.chg n with
    | some b => rfl
    | none =>
      cases hw : S.wait n with
      | some b => rfl
      | none => exact h.get n (by rw [h.has]; exact hn)
  · rw [if_neg hn, if_neg hn]
/-- A block is used: both caches. -/
theorem Rel.used {S T : SS} {R Q : RS} (h : Rel S R) (n : Int) (bs : Bytes) (h1 : T.sh = S.sh) (h2 : T.room = S.room) (h3 : Q.ca = R.ca) (h4 : Q.room = R.room) :
    (Q.used n).ca = ((T.use n bs).sh.map fun y => y.1.reverse) ∧ ∀ y ∈ (T.use n bs).sh, ShOk y S.room := by
  have hs := h.ci.sh
  have ho := of_lt (S := S) n hs
  have hk := h.shard ho
  obtain ⟨q1, q2⟩ := hk.use n bs h.rm
  have e1 : T.of n = S.of n := of_val (by rw [h1]) n
  have e2 : T.shard (S.of n) = S.shard (S.of n) := by unfold SS.shard; rw [h1]
  have e3 : Q.of n = R.of n := by unfold RS.of; rw [h3]
  have e4 : Q.cache (R.of n) = R.cache (R.of n) := by unfold RS.cache; rw [h3]
  constructor
  · show Q.ca.set (Q.of n) (useL Q.room (Q.cache (Q.of n)) n) = ((T.sh.set (T.of n) ((T.shard (T.of n)).use n bs T.room)).map fun y => y.1.reverse)
    rw [e3, e4, h4, h3, h.of_, h.cache, h.room, e1, e2, h1, h2, List.map_set, q2, h.ca]
  · intro y hy
    have hy2 : y ∈ T.sh.set (T.of n) ((T.shard (T.of n)).use n bs T.room) := hy
    rw [e1, e2, h1, h2] at hy2
    rcases List.mem_or_eq_of_mem_set hy2 with h5 | h5
    · exact h.sh y h5
    · rw [h5]; exact q1
theorem Rel.readS {S : SS} {R : RS} (h : Rel S R) (n : Int) : Rel (S.readS n) (R.readS n) := by
  have hp := read_parts S n
  have hci := h.ci.readS n
  have hst : ∀ k, k ≤ (S.readS n).undo.length → R.st[(S.readS n).undo.length - k]? = some (((S.readS n).backN k).chg, ((S.readS n).backN k).held) := fun k hk => by
    obtain ⟨q1, q2⟩ := backN_chg k (S := S.readS n) (T := S) hp.2.1 hp.2.2.2.1 hp.2.2.2.2.1
    rw [q1, q2, hp.2.2.2.2.1]
    exact h.st k (by rw [← hp.2.2.2.2.1]; exact hk)
  have hlen : R.st.length = (S.readS n).undo.length + 1 := by rw [hp.2.2.2.2.1]; exact h.len
  have hwait : R.wait = (S.readS n).wait := by rw [hp.2.2.1]; exact h.wait
  have hN : R.n = (S.readS n).d.N := by rw [hp.1]; exact h.n
  have hpend : R.d.pend = (S.readS n).d.pend := by rw [hp.1]; exact h.pend
  have hget : ∀ k, R.has k = true → R.d.get k = (S.readS n).d.get k := fun k hk => by rw [hp.1]; exact h.get k hk
  have hsh := h.has n
  unfold RS.readS
  rw [hsh, h.get_, h.of_, h.cache]
  have hx := h.ci.sh
  have ho := of_lt (S := S) n hx
  have hk := h.shard ho
  generalize hT : S.readS n = T at *
  unfold SS.readS SS.read at hT
  by_cases hn : S.has n = true
  · rw [if_pos hn] at hT ⊢
    cases hg : S.get n with
    | some b =>
      rw [hg] at hT
      subst hT
      exact ⟨hN, h.room, hlen, hst, hwait, h.ca, by show R.found + 1 = S.found + 1; rw [h.found], h.asked, hpend, hget, hci, h.sh, h.rm, h.dl⟩
    | none =>
      rw [hg] at hT
      simp only at hT ⊢
      cases hd : (S.shard (S.of n)).2 n with
      | some b =>
        rw [hd] at hT
        simp only at hT
        have hm : ((S.shard (S.of n)).1.reverse).contains n = true := by
          rw [List.contains_iff_mem, List.mem_reverse]
          exact (hk.mem n).1 (by rw [hd]; rfl)
        rw [if_pos hm]
        subst hT
        obtain ⟨q1, q2⟩ := h.used (T := { S with found := S.found + 1 }) (Q := R) n b rfl rfl rfl rfl
        exact ⟨hN, h.room, hlen, hst, hwait, q1, by show R.found + 1 = S.found + 1; rw [h.found], h.asked, hpend, hget, hci, q2, h.rm, h.dl⟩
      | none =>
        rw [hd] at hT
        simp only at hT
        have hm : ¬ ((S.shard (S.of n)).1.reverse).contains n = true := by
          rw [List.contains_iff_mem, List.mem_reverse]
          intro hc
          have := (hk.mem n).2 hc
          rw [hd] at this; cases this
        rw [if_neg hm]
        subst hT
        obtain ⟨q1, q2⟩ := h.used (T := { S with asked := S.asked + 1 }) (Q := R) n (S.d.get n) rfl rfl rfl rfl
        exact ⟨hN, h.room, hlen, hst, hwait, q1, h.found, by show R.asked + 1 = S.asked + 1; rw [h.asked], hpend, hget, hci, q2, h.rm, h.dl⟩
  · rw [if_neg hn] at hT ⊢
    subst hT
    exact h
/-- A state comes to the states. -/
theorem st_snoc {S T : SS} {R : RS} (h : Rel S R) {y : RSt} {u : Und} (hu : T.undo = S.undo ++ [u]) (hy : y = (T.chg, T.held)) (hp : T.pop.core = S.core) :
    (R.st ++ [y]).length = T.undo.length + 1 ∧ ∀ k, k ≤ T.undo.length → (R.st ++ [y])[T.undo.length - k]? = some ((T.backN k).chg, (T.backN k).held) := by
  have hl : T.undo.length = S.undo.length + 1 := by rw [hu]; simp
  refine ⟨by rw [List.length_append, h.len, hl]; rfl, fun k hk => ?_⟩
  cases k with
  | zero =>
    rw [List.getElem?_append_right (by rw [h.len, hl]; omega), h.len, hl, show S.undo.length + 1 - 0 - (S.undo.length + 1) = 0 by omega, hy]
    rfl
  | succ k =>
    rw [List.getElem?_append_left (by rw [h.len, hl]; omega), hl, show S.undo.length + 1 - (k + 1) = S.undo.length - k by omega, h.st k (by omega)]
    obtain ⟨c1, _, c3, c4, _⟩ := core_iff.1 hp
    obtain ⟨q1, q2⟩ := backN_chg k (S := T.pop) (T := S) c1 c3 c4
    show _ = some ((T.pop.backN k).chg, (T.pop.backN k).held)
    rw [q1, q2]
theorem Rel.write {S : SS} {R : RS} (h : Rel S R) (n : Int) (bs : Bytes) : Rel (S.write n bs) (R.write n bs) := by
  have hp := write_parts S n bs
  have hci := h.ci.write n bs
  have hx := h.ci.sh
  have ho := of_lt (S := S) n hx
  have hk := h.shard ho
  obtain ⟨q1, q2⟩ := st_snoc h (T := S.write n bs) (y := ((fun j => if j = n then some bs else R.now.1 j), R.now.2)) (u := .w n (S.chg n)) hp.2.2.2.2.1 (by rw [hp.2.1, hp.2.2.2.1, h.now]) (pop_write S n bs)
  refine ⟨by rw [hp.1]; exact h.n, by rw [hp.2.2.2.2.2.2]; exact h.room, q1, q2, by rw [hp.2.2.1]; exact h.wait, ?_, h.found, h.asked, by rw [hp.1]; exact h.pend, fun k hk => by rw [hp.1]; exact h.get k hk, hci, fun y hy => ?_, by rw [hp.2.2.2.2.2.2]; exact h.rm, h.dl⟩
  · show R.ca.set (R.of n) (wo n (R.cache (R.of n))) = ((S.sh.set (S.of n) ((S.shard (S.of n)).wo n)).map fun y => y.1.reverse)
    rw [h.of_, h.cache, List.map_set, h.ca, wo_rev]
    rfl
  · have hy2 : y ∈ S.sh.set (S.of n) ((S.shard (S.of n)).wo n) := hy
    rw [hp.2.2.2.2.2.2]
    rcases List.mem_or_eq_of_mem_set hy2 with h5 | h5
    · exact h.sh y h5
    · rw [h5]; exact hk.wo n
theorem Rel.writeS {S : SS} {R : RS} (h : Rel S R) (n : Int) (bs : Bytes) : Rel (S.writeS n bs) (R.writeS n bs) ∧ R.writeE n = S.writeE n := by
  unfold SS.writeS RS.writeS RS.writeE SS.writeE
  rw [h.has]
  refine ⟨?_, rfl⟩
  by_cases hn : S.has n = true
  · rw [if_pos hn, if_pos hn]; exact h.write n bs
  · rw [if_neg hn, if_neg hn]; exact h
theorem Rel.hold {S : SS} {R : RS} (h : Rel S R) (n : Int) : Rel (S.hold n) (R.hold n) := by
  have hp := hold_parts S n
  obtain ⟨q1, q2⟩ := st_snoc h (T := S.hold n) (y := (R.now.1, (fun j => if j = n then true else R.now.2 j))) (u := .h n true (S.held n)) hp.2.2.2.1 (by rw [hp.2.1, h.now]; rfl) (pop_hold S n)
  exact ⟨h.n, h.room, q1, q2, h.wait, h.ca, h.found, h.asked, h.pend, h.get, h.ci.hold n, h.sh, h.rm, h.dl⟩
theorem Rel.holdS {S : SS} {R : RS} (h : Rel S R) (n : Int) : Rel (S.holdS n) (R.holdS n) ∧ R.holdE n = S.holdE n := by
  unfold SS.holdS RS.holdS RS.holdE SS.holdE
  rw [h.has]
  refine ⟨?_, rfl⟩
  by_cases hn : S.has n = true
  · rw [if_pos hn, if_pos hn]; exact h.hold n
  · rw [if_neg hn, if_neg hn]; exact h
theorem Rel.back {S : SS} {R : RS} (h : Rel S R) (m : Int) : Rel (S.back m) (R.back m) ∧ R.backE m = S.backE m := by
  have hl := h.len
  have e1 : ((R.st.length - 1 : Nat) : Int) = (S.undo.length : Int) := by omega
  unfold SS.back RS.back SS.backE RS.backE
  rw [e1]
  refine ⟨?_, rfl⟩
  by_cases hm : m < 0 ∨ (S.undo.length : Int) < m
  · rw [if_pos hm, if_pos hm]; exact h
  · rw [if_neg hm, if_neg hm]
    obtain ⟨j, rfl⟩ := Int.eq_ofNat_of_zero_le (show 0 ≤ m by omega)
    rw [show ((j : Int)).toNat = j by omega]
    obtain ⟨b1, b2, b3, b4, b5, b6, b7⟩ := backN_keeps (S.undo.length - j) S
    have hj : j ≤ S.undo.length := by omega
    have hul : (S.backN (S.undo.length - j)).undo.length = j := by omega
    refine ⟨by rw [b2]; exact h.n, by rw [b4]; exact h.room, ?_, fun k hk => ?_, by rw [b7]; exact h.wait, by rw [b3]; exact h.ca, by rw [b5]; exact h.found, by rw [b6]; exact h.asked, by rw [b2]; exact h.pend, fun k hk => by rw [b2]; exact h.get k hk, h.ci.backN _, by rw [b3, b4]; exact h.sh, by rw [b4]; exact h.rm, h.dl⟩
    · show (R.st.take (j + 1)).length = _
      rw [List.length_take, hul]; omega
    · rw [hul] at hk ⊢
      show (R.st.take (j + 1))[j - k]? = _
      rw [List.getElem?_take, if_pos (by omega), backN_add, show j - k = S.undo.length - (S.undo.length - j + k) by omega]
      exact h.st _ (by omega)
theorem Rel.commit {S : SS} {R : RS} (h : Rel S R) : Rel S.commit R.commit := by
  have hn := h.now
  refine ⟨h.n, h.room, rfl, fun k hk => ?_, by show over R.now.1 R.wait = over S.chg S.wait; rw [hn, h.wait], h.ca, h.found, h.asked, h.pend, h.get, h.ci.commit, h.sh, h.rm, h.dl⟩
  have hk0 : k = 0 := by have : S.commit.undo.length = 0 := rfl; omega
  subst hk0
  show some ((fun _ => none), R.now.2) = some ((fun _ => none), S.held)
  rw [hn]
theorem Rel.release {S : SS} {R : RS} (h : Rel S R) : Rel S.release R.release := by
  have hul : S.release.undo.length = S.undo.length := by show (S.undo.map Und.free).length = _; simp
  refine ⟨h.n, h.room, by show (R.st.map rel).length = _; rw [List.length_map, hul]; exact h.len, fun k hk => ?_, h.wait, h.ca, h.found, h.asked, h.pend, h.get, h.ci.release, h.sh, h.rm, h.dl⟩
  rw [hul] at hk ⊢
  obtain ⟨q1, q2⟩ := free_backN k (S := S) (T := S.release) rfl rfl rfl
  show (R.st.map rel)[S.undo.length - k]? = _
  rw [List.getElem?_map, h.st k hk, q1, q2]
  rfl
theorem rget_write (d : RD) (n : Int) (b : Bytes) (k : Int) : (d.write n b).get k = if k = n then b else d.get k := by
  unfold RD.get RD.write
  simp only
  rw [lastOf_snoc]
  by_cases e : n = k
  · rw [if_pos e, if_pos e.symm]
  · rw [if_neg e, if_neg (fun h => e h.symm)]
theorem Rel.home {S : SS} {R : RS} (h : Rel S R) (n : Int) : Rel (S.home n) (R.home n) ∧ R.homeE n = S.homeE n := by
  refine ⟨?_, by unfold RS.homeE SS.homeE; rw [h.has, h.wait]⟩
  have hci := h.ci.home n
  have hn := h.now
  unfold RS.home
  generalize hT : S.home n = T at *
  unfold SS.home at hT
  rw [h.has, h.wait, hn]
  by_cases hh : S.has n = true
  · rw [if_pos hh] at hT ⊢
    cases hw : S.wait n with
    | none =>
      rw [hw] at hT
      subst hT
      exact h
    | some b =>
      rw [hw] at hT
      simp only at hT ⊢
      have hget : ∀ k, R.has k = true → (R.d.write n b).get k = (S.d.write n b).get k := fun k hk => by rw [rget_write, dwrite_get, h.get k hk]
      have hwt : (fun j => if j = n then none else R.wait j) = (fun j => if j = n then none else S.wait j) := by rw [h.wait]
      have hpd : R.d.pend ++ [(n, b)] = S.d.pend ++ [(n, b)] := by rw [h.pend]
      cases hc : S.chg n with
      | some x =>
        rw [hc] at hT
        simp only at hT ⊢
        subst hT
        exact ⟨h.n, h.room, h.len, fun k hk => by
          obtain ⟨q1, q2⟩ := backN_chg k (S := S.sent n b) (T := S) rfl rfl rfl
          rw [q1, q2]; exact h.st k hk, hwt, h.ca, h.found, h.asked, hpd, hget, hci, h.sh, h.rm, h.dl⟩
      | none =>
        rw [hc] at hT
        simp only at hT ⊢
        subst hT
        obtain ⟨q1, q2⟩ := h.used (T := S.sent n b) (Q := R.sent n b) n b rfl rfl rfl rfl
        exact ⟨h.n, h.room, h.len, fun k hk => by
          obtain ⟨q1, q2⟩ := backN_chg k (S := (S.sent n b).use n b) (T := S) rfl rfl rfl
          rw [q1, q2]; exact h.st k hk, hwt, q1, h.found, h.asked, hpd, hget, hci, q2, h.rm, h.dl⟩
  · rw [if_neg hh] at hT ⊢
    subst hT
    exact h
theorem Rel.fresh (q N sh rm : Nat) (h1 : 1 ≤ sh) (h2 : 1 ≤ rm) : Rel (SS.fresh (DS.fresh N q) sh rm) (RS.fresh (RD.fresh N) N sh rm) := by
  refine ⟨rfl, rfl, rfl, fun k hk => ?_, rfl, ?_, rfl, rfl, rfl, fun n hn => ?_, CI.fresh _ rm h1, fun y hy => ?_, h2, by show (List.replicate N zero256).length = N; simp⟩
  · have hk0 : k = 0 := by have : (SS.fresh (DS.fresh N q) sh rm).undo.length = 0 := rfl; omega
    subst hk0
    rfl
  · show List.replicate sh [] = ((List.replicate sh (([], fun _ => none) : Sd)).map fun y => y.1.reverse)
    rw [List.map_replicate]; rfl
  · have hn2 : 0 ≤ n ∧ n < (N : Int) := of_decide_eq_true hn
    show ((List.replicate N zero256)[n.toNat]?).getD [] = zero256
    rw [List.getElem?_replicate, if_pos (by omega)]; rfl
  · have hy2 : y ∈ List.replicate sh (([], fun _ => none) : Sd) := hy
    rw [List.eq_of_mem_replicate hy2]
    exact ⟨List.Pairwise.nil, fun n => by simp, by simp⟩
theorem Rel.isHeld {S : SS} {R : RS} (h : Rel S R) (n : Int) : R.isHeld n = S.isHeld n := by unfold RS.isHeld SS.isHeld; rw [h.has, h.now]
theorem Rel.changed {S : SS} {R : RS} (h : Rel S R) : R.changed = S.changed := by unfold RS.changed SS.changed; rw [h.n, h.now]
theorem Rel.mark {S : SS} {R : RS} (h : Rel S R) : R.st.length - 1 = S.undo.length := by have := h.len; omega
theorem Rel.commits {S : SS} {R : RS} (h : Rel S R) : wsOf R.n R.now.1 = wsOf S.d.N S.chg := by rw [h.n, h.now]
theorem Rel.waits {S : SS} {R : RS} (h : Rel S R) : wsOf R.n R.wait = wsOf S.d.N S.wait := by rw [h.n, h.wait]
end Go.Proofs.Ytomoliickggghaa.Mem

namespace Go.Proofs.Ytomoliickggghaa.Mem
open Go.RowKit Go.Proofs.Ytomoliickggghaa Go.Proofs.Ytomoliickggghaa.Wire
set_option maxHeartbeats 8000000
set_option maxRecDepth 100000
set_option linter.unusedVariables false
set_option linter.unusedSimpArgs false

/-- The world behind the law's beginning: a block that is kept (a step's number), the store (colours from 16 on), the document's (from 128 on). -/
structure Duo (kb : Option (Nat × Array Value)) (w0 w : World) (col : Col) (p q dq : Nat) (S : SS) (R : RS) : Prop where
  k : ∀ x, kb = some x → Bk w col 0 7 x.1 32 x.2
  t : Tch 2 300 (fun _ => 0) col w0 w
  s : StoreAt w col w0.heap.size 16 p S
  r : RStoreAt w col w0.heap.size 128 q dq R
section
variable {kb : Option (Nat × Array Value)} {w0 w w' : World} {col col' : Col} {p q dq : Nat} {S S' : SS} {R R' : RS}
theorem Duo.b (h : Duo kb w0 w col p q dq S R) : w0.heap.size ≤ w.heap.size := h.t.size
theorem Duo.tidy (h : Duo kb w0 w col p q dq S R) : ∀ b, w.heap.size ≤ b → col b = 0 := h.s.tidy
theorem Duo.stepS (h : Duo kb w0 w col p q dq S R) (ht : Tch 16 (16 + 64) col col' w w') (hs : StoreAt w' col' w0.heap.size 16 p S') : Duo kb w0 w' col' p q dq S' R :=
  ⟨fun x e => (h.k x e).keep ht (by omega), h.t.trans (ht.mono (by omega) (by omega)), hs, h.r.keep ht (by omega) (by omega)⟩
theorem Duo.stepR (h : Duo kb w0 w col p q dq S R) (ht : Tch 128 (128 + 7) col col' w w') (hr : RStoreAt w' col' w0.heap.size 128 q dq R') : Duo kb w0 w' col' p q dq S R' :=
  ⟨fun x e => (h.k x e).keep ht (by omega), h.t.trans (ht.mono (by omega) (by omega)), h.s.keep ht (by omega) (by omega), hr⟩
theorem Duo.same (h : Duo kb w0 w col p q dq S R) (ht : Tch 16 16 col col' w w') : Duo kb w0 w' col' p q dq S R :=
  ⟨fun x e => (h.k x e).keep ht (by omega), h.t.trans (ht.any (Nat.le_refl _)), h.s.keep ht (by omega) (by omega), h.r.keep ht (by omega) (by omega)⟩
theorem Duo.below (h : Duo kb w0 w col p q dq S R) (hb : Below w.heap.size w w') : Duo kb w0 w' col p q dq S R := h.same (Tch.of_below hb)
theorem Duo.list (h : Duo kb w0 w col p q dq S R) (ht : Tch 2 4 col col' w w') : Duo kb w0 w' col' p q dq S R :=
  ⟨fun x e => (h.k x e).keep ht (by omega), h.t.trans (ht.mono (by omega) (by omega)), h.s.keep ht (by omega) (by omega), h.r.keep ht (by omega) (by omega)⟩
/-- A law's own cell, of no colour, is written. -/
theorem Duo.own (h : Duo kb w0 w col p q dq S R) {g : Nat} (hg : w0.heap.size ≤ g) (hc : col g = 0) (k : Nat) (v : Value) : Duo kb w0 (w.setCell ⟨g, k, none⟩ v) col p q dq S R ∧ Tch 0 1 col col w (w.setCell ⟨g, k, none⟩ v) := by
  have ht : Tch 0 1 col col w (w.setCell ⟨g, k, none⟩ v) := (Tch.refl _ _ _ _).setCell (p := ⟨g, k, none⟩) (by show 0 ≤ col g ∧ col g < 1; omega) v
  exact ⟨⟨fun x e => (h.k x e).keep ht (by omega), h.t.new (only_setCell (World.grownBy.refl w (some g)) (p := ⟨g, k, none⟩) (.inl rfl) v) hg, h.s.keep ht (by omega) (by omega), h.r.keep ht (by omega) (by omega)⟩, ht⟩
theorem Duo.drop (h : Duo kb w0 w col p q dq S R) : Duo none w0 w col p q dq S R := ⟨fun x e => by (cases e), h.t, h.s, h.r⟩
theorem Duo.end (h : Duo kb w0 w col p q dq S R) : Below w0.heap.size w0 w := h.t.below (Nat.le_refl _) (fun i _ => by omega)
end
/-- A row of bytes stays one, whichever byte is written where. -/
theorem Row.anyByte {w : World} {col : Col} {B r n g k : Nat} {v : Value} {bs : Bytes} (h : Row w col B r 5 1 v n (bvl bs)) (hn : 0 < n) (x : UInt8) : ∃ bs' : Bytes, Row (w.setCell ⟨g, k, none⟩ (bval x)) col B r 5 1 v n (bvl bs') := by
  obtain ⟨g', c, _, rfl, _⟩ := own_form h.own hn
  by_cases hg : g' = g
  · subst hg
    refine ⟨bs.set k x, ?_⟩
    have := h.stored k (bval x)
    rw [show (bvl bs).set k (bval x) = bvl (bs.set k x) by rw [bvl, bvl, List.map_set]] at this
    exact this
  · exact ⟨bs, h.own.kept (row := some g) (only_setCell (World.grownBy.refl w (some g)) (p := ⟨g, k, none⟩) (.inl rfl) _) (.inr fun e => by injection e with e; exact hg e), h.c⟩
theorem wcells_set : ∀ (l : List (Int × Value)) (i : Nat) (z : Int) (x : Int × Value), l[i]? = some x → (wcells l).set (i * 2) (.int .i64 z) = wcells (l.set i (z, x.2))
  | [], i, z, x, h => by cases h
  | p :: l, 0, z, x, h => by injection h with h; subst h; rfl
  | p :: l, i + 1, z, x, h => by
    have := wcells_set l i z x h
    rw [show (i + 1) * 2 = i * 2 + 1 + 1 by omega]
    show _ :: _ :: (wcells l).set (i * 2) _ = _ :: _ :: wcells (l.set i (z, x.2))
    rw [this]
theorem xor1_f : ∀ (x : BitVec 8), bits .xor .u8 (x.toNat : Int) 1 = ((x ^^^ 1#8).toNat : Int) := by decide +kernel
theorem xor1 (y : UInt8) : ∃ x : UInt8, bits .xor .u8 (y.toNat : Int) 1 = (x.toNat : Int) := ⟨⟨y.toBitVec ^^^ 1#8⟩, xor1_f y.toBitVec⟩
theorem spoil_any (w : World) (col : Col) (B : Nat) (v : Value) (l : List (Int × Bytes)) (h : WrO w col B v l) (hl : l.length ≤ 1000000000) :
    Calls Try.prog 58 #[v] w fun e w' => e = .returned (.bool true) ∧ Tch 2 4 col col w w' := by
  obtain ⟨vs, h1, h2, h3⟩ := h.ex
  have hvl : vs.length = l.length := by have := congrArg List.length h2; simpa using this
  obtain ⟨A, cap, hv, _, hcl, hcm, hA⟩ := row_len h1
  subst hv
  obtain ⟨len, hlen⟩ : ∃ len, l.length = len := ⟨_, rfl⟩
  have HR := Lib.hid (show ∃ vs : List (Int × Value), vs.length = len ∧ Row w col B 2 51 2 (.slice A len cap) len (wcells vs) ∧ ∀ (i : Nat) (p : Int × Value), vs[i]? = some p → ∃ bs : Bytes, Row w col B 3 5 1 p.2 256 (bvl bs) from
    ⟨vs, by omega, by rw [← hlen]; exact h1, fun i p hp => ⟨_, h3 i p _ hp (List.getElem?_eq_getElem (show i < l.length by have := (List.getElem?_eq_some_iff.1 hp).1; omega))⟩⟩)
  rw [hlen] at hcl hA hl ⊢
  have HA := Lib.hid hA
  clear h h1 h2 h3 hvl hlen hA
  go_enter Try.func58, Try.ntmps58
  go_wp2_with fail
  go_loopw [3] (fun ii wr => ∃ (j : Nat), ii = .int .i64 j ∧ j ≤ len ∧ Tch 2 4 col col w wr ∧ ∃ vs : List (Int × Value), vs.length = len ∧ Row wr col B 2 51 2 (.slice A len cap) len (wcells vs) ∧ ∀ (i : Nat) (p : Int × Value), vs[i]? = some p → ∃ bs : Bytes, Row wr col B 3 5 1 p.2 256 (bvl bs)) (fun ii _ => len - (intOf ii).toNat)
  case atStart => exact ⟨0, rfl, by omega, Tch.refl _ _ _ _, HR.out⟩
  case round =>
    obtain ⟨j, rfl, hj, ht, vs, hvl, h1, h3⟩ := hrel
    by_cases hlt : j < len
    · have hji : (j : Int) < (len : Int) := by omega
      have hj0 : (0 : Int) ≤ (j : Int) := by omega
      have hjn : ((j : Int)).toNat = j := by omega
      obtain ⟨g, rfl, _⟩ := HA.out (by omega)
      obtain ⟨x, hx⟩ : ∃ x, vs[j]? = some x := ⟨_, List.getElem?_eq_getElem (by omega)⟩
      obtain ⟨k0, k1⟩ := wcells_at vs j x hx
      obtain ⟨bs, hb⟩ := h3 j x hx
      obtain ⟨g2, c2, _, hxv, _⟩ := own_form hb.own (by omega)
      have hgc : col g = 2 := h1.c g rfl
      have hgc2 : col g2 = 3 := hb.c g2 (by rw [hxv]; rfl)
      have hbl : bs.length = 256 := by have := hb.own.1; simpa [bvl] using this
      obtain ⟨y, hy⟩ : ∃ y, bs[0]? = some y := ⟨_, List.getElem?_eq_getElem (by omega)⟩
      have r1 : wr.cell? ⟨g, j * 2 + 1, none⟩ = some (.slice (some ⟨g2, 0, none⟩) 256 c2) := by rw [h1.own.cellAt _ (by omega), k1, hxv]
      have r0 : wr.cell? ⟨g, j * 2, none⟩ = some (.int .i64 x.1) := by rw [h1.own.cellAt _ (by omega), k0]
      have rb : wr.cell? ⟨g2, 0, none⟩ = some (bval y) := by
        have hb' := hb
        rw [hxv] at hb'
        rw [hb'.own.cellAt 0 (by omega), bvl, List.getElem?_map, hy]; rfl
      have zb : wr.frozen? ⟨g2, 0, none⟩ = false := by
        have hb' := hb
        rw [hxv] at hb'
        exact hb'.own.frozenAt 0
      obtain ⟨x8, hx8⟩ := xor1 y
      have hg12 : g ≠ g2 := fun e => by rw [e] at hgc; omega
      obtain ⟨wd, hwd⟩ : ∃ wd, wr.drew = wd := ⟨_, rfl⟩
      have td : Tch 16 16 col col wr wd := by rw [← hwd]; exact (Tch.refl _ _ _ _).drew
      obtain ⟨wa, hwa⟩ : ∃ wa, wd.setCell ⟨g2, 0, none⟩ (bval x8) = wa := ⟨_, rfl⟩
      have ta : Tch 3 4 col col wd wa := by rw [← hwa]; exact (Tch.refl _ _ _ _).setCell (p := ⟨g2, 0, none⟩) (by show 3 ≤ col g2 ∧ col g2 < 4; omega) _
      obtain ⟨wb, hwb⟩ : ∃ wb, wa.setCell ⟨g, j * 2, none⟩ (.int .i64 (-7)) = wb := ⟨_, rfl⟩
      have tb : Tch 2 3 col col wa wb := by rw [← hwb]; exact (Tch.refl _ _ _ _).setCell (p := ⟨g, j * 2, none⟩) (by show 2 ≤ col g ∧ col g < 3; omega) _
      have h1a := (h1.keep td (by omega)).keep ta (by omega)
      have G1 := Lib.hid (show Row wb col B 2 51 2 (.slice (some ⟨g, 0, none⟩) len cap) len (wcells (vs.set j (-7, x.2))) by rw [← wcells_set vs j (-7) x hx, ← hwb]; exact h1a.stored (j * 2) (.int .i64 (-7)))
      have G3 := Lib.hid (show ∀ (i : Nat) (p : Int × Value), (vs.set j (-7, x.2))[i]? = some p → ∃ bs : Bytes, Row wb col B 3 5 1 p.2 256 (bvl bs) from fun i p hp => by
        have h5 : ∃ p' : Int × Value, vs[i]? = some p' ∧ p'.2 = p.2 := by
          rw [List.getElem?_set] at hp
          by_cases e : j = i
          · subst e
            rw [if_pos rfl, if_pos (by omega)] at hp
            injection hp with hp
            exact ⟨x, hx, by rw [← hp]⟩
          · rw [if_neg e] at hp; exact ⟨p, hp, rfl⟩
        obtain ⟨p', hp', he⟩ := h5
        obtain ⟨b0, hb0⟩ := h3 i p' hp'
        rw [he] at hb0
        obtain ⟨b1, hb1⟩ := (hb0.keep td (by omega)).anyByte (g := g2) (k := 0) (by omega) x8
        rw [hwa] at hb1
        exact ⟨b1, hb1.keep tb (by omega)⟩)
      have TT := Lib.hid (((ht.trans (td.any (Nat.le_refl _))).trans (ta.mono (by omega) (by omega))).trans (tb.mono (by omega) (by omega)))
      have d1 : wd.cell? ⟨g, j * 2 + 1, none⟩ = some (.slice (some ⟨g2, 0, none⟩) 256 c2) := by rw [← hwd]; exact r1
      have db : wd.cell? ⟨g2, 0, none⟩ = some (.int .u8 (y.toNat : Int)) := by rw [← hwd]; exact rb
      have dz : wd.frozen? ⟨g2, 0, none⟩ = false := by rw [← hwd]; exact zb
      have a1 : wa.cell? ⟨g, j * 2 + 1, none⟩ = some (.slice (some ⟨g2, 0, none⟩) 256 c2) := by rw [h1a.own.cellAt _ (by omega), k1, hxv]
      have a0 : wa.cell? ⟨g, j * 2, none⟩ = some (.int .i64 x.1) := by rw [h1a.own.cellAt _ (by omega), k0]
      have az : wa.frozen? ⟨g, j * 2, none⟩ = false := h1a.own.frozenAt _
      have HWD := Lib.hid hwd
      have HWA := Lib.hid (show wd.setCell ⟨g2, 0, none⟩ (.int .u8 (x8.toNat : Int)) = wa from hwa)
      have HWB := Lib.hid hwb
      have hvl2 : (vs.set j (-7, x.2)).length = len := by simpa using hvl
      clear hwd td hwa ta hwb tb h1a h1 h3 hb hbl hy r1 r0 rb zb k0 k1 ht
      go_upto_region 4 with fail
      have hNS : wd.cell? ⟨g, j * 2 + 1, none⟩ = some (.slice (some ⟨g2, 0, none⟩) 256 c2) := d1
      refine region_need_at (v := wd) (fun w' => w'.cell? ⟨g, j * 2 + 1, none⟩ = some (.slice (some ⟨g2, 0, none⟩) 256 c2)) (fun _ => true) HWD.out (by kernel_rfl) ?_
      refine nw_take (i := 0) (v := ?_) rfl (by kernel_rfl) (by kernel_rfl) (fun _ _ d _ _ h => by cases d <;> exact h) (by exact hNS) (by kernel_rfl) ?_ (fun K hK => ?_); rotate_left; (· (intro w' hSw; (try dsimp only at hSw); go_simp; with_reducible rfl)); simp only [Act.put, List.setIfInBounds_toArray, List.set_cons_zero, List.set_cons_succ]; refine hK _ ?_; clear hK K
      refine nw_take (i := 1) (v := ?_) rfl (by kernel_rfl) (by kernel_rfl) (fun _ _ d _ _ h => by cases d <;> exact h) (by exact hNS) (by kernel_rfl) ?_ (fun K hK => ?_); rotate_left; (· (intro w' hSw; (try dsimp only at hSw); go_simp; with_reducible rfl)); simp only [Act.put, List.setIfInBounds_toArray, List.set_cons_zero, List.set_cons_succ]; refine hK _ ?_; clear hK K
      refine nw_take (i := 2) (v := ?_) rfl (by kernel_rfl) (by kernel_rfl) (fun _ _ d _ _ h => by cases d <;> exact h) (by exact hNS) (by kernel_rfl) ?_ (fun K hK => ?_); rotate_left; (· (intro w' hSw; (try dsimp only at hSw); go_simp; with_reducible rfl)); simp only [Act.put, List.setIfInBounds_toArray, List.set_cons_zero, List.set_cons_succ]; refine hK _ ?_; clear hK K
      refine nw_take (i := 3) (v := ?_) rfl (by kernel_rfl) (by kernel_rfl) (fun _ _ d _ _ h => by cases d <;> exact h) (by exact hNS) (by kernel_rfl) ?_ (fun K hK => ?_); rotate_left; (· (intro w' hSw; (try dsimp only at hSw); go_simp; with_reducible rfl)); simp only [Act.put, List.setIfInBounds_toArray, List.set_cons_zero, List.set_cons_succ]; refine hK _ ?_; clear hK K
      refine nw_take (i := 4) (v := ?_) rfl (by kernel_rfl) (by kernel_rfl) (fun _ _ d _ _ h => by cases d <;> exact h) (by exact hNS) (by kernel_rfl) ?_ (fun K hK => ?_); rotate_left; (· (intro w' hSw; (try dsimp only at hSw); go_simp; with_reducible rfl)); simp only [Act.put, List.setIfInBounds_toArray, List.set_cons_zero, List.set_cons_succ]; refine hK _ ?_; clear hK K
      refine nw_take (i := 5) (v := ?_) rfl (by kernel_rfl) (by kernel_rfl) (fun _ _ d _ _ h => by cases d <;> exact h) (by exact hNS) (by kernel_rfl) ?_ (fun K hK => ?_); rotate_left; (· (intro w' hSw; (try dsimp only at hSw); go_simp; with_reducible rfl)); simp only [Act.put, List.setIfInBounds_toArray, List.set_cons_zero, List.set_cons_succ]; refine hK _ ?_; clear hK K
      refine nw_take (i := 6) (v := ?_) rfl (by kernel_rfl) (by kernel_rfl) (fun _ _ d _ _ h => by cases d <;> exact h) (by exact hNS) (by kernel_rfl) ?_ (fun K hK => ?_); rotate_left; (· (intro w' hSw; (try dsimp only at hSw); go_simp; with_reducible rfl)); simp only [Act.put, List.setIfInBounds_toArray, List.set_cons_zero, List.set_cons_succ]; refine hK _ ?_; clear hK K
      refine nw_take (i := 7) (v := ?_) rfl (by kernel_rfl) (by kernel_rfl) (fun _ _ d _ _ h => by cases d <;> exact h) (by exact hNS) (by kernel_rfl) ?_ (fun K hK => ?_); rotate_left; (· (intro w' hSw; (try dsimp only at hSw); go_simp; with_reducible rfl)); simp only [Act.put, List.setIfInBounds_toArray, List.set_cons_zero, List.set_cons_succ]; refine hK _ ?_; clear hK K
      refine nw_take (i := 8) (v := ?_) rfl (by kernel_rfl) (by kernel_rfl) (fun _ _ d _ _ h => by cases d <;> exact h) (by exact hNS) (by kernel_rfl) ?_ (fun K hK => ?_); rotate_left; (· (intro w' hSw; (try dsimp only at hSw); go_simp; with_reducible rfl)); simp only [Act.put, List.setIfInBounds_toArray, List.set_cons_zero, List.set_cons_succ]; refine hK _ ?_; clear hK K
      refine nw_take (i := 9) (v := ?_) rfl (by kernel_rfl) (by kernel_rfl) (fun _ _ d _ _ h => by cases d <;> exact h) (by exact hNS) (by kernel_rfl) ?_ (fun K hK => ?_); rotate_left; (· (intro w' hSw; (try dsimp only at hSw); go_simp; with_reducible rfl)); simp only [Act.put, List.setIfInBounds_toArray, List.set_cons_zero, List.set_cons_succ]; refine hK _ ?_; clear hK K
      refine nw_take (i := 10) (v := ?_) rfl (by kernel_rfl) (by kernel_rfl) (fun _ _ d _ _ h => by cases d <;> exact h) (by exact hNS) (by kernel_rfl) ?_ (fun K hK => ?_); rotate_left; (· (intro w' hSw; (try dsimp only at hSw); go_simp; with_reducible rfl)); simp only [Act.put, List.setIfInBounds_toArray, List.set_cons_zero, List.set_cons_succ]; refine hK _ ?_; clear hK K
      clear hNS
      refine nw_one (i := 11) (E := False) rfl (by kernel_rfl) (fun K hK => ?_) (by kernel_rfl)
      go_simp
      refine hK.out _ _ ((fun _ => d1)) ?_
      clear hK K
      try simp only [Act.put, List.setIfInBounds_toArray, List.set_cons_zero, List.set_cons_succ]
      refine nw_one (i := 12) (E := False) rfl (by kernel_rfl) (fun K hK => ?_) (by kernel_rfl)
      go_simp
      refine hK.out _ _ ((fun _ => d1)) ?_
      clear hK K
      try simp only [Act.put, List.setIfInBounds_toArray, List.set_cons_zero, List.set_cons_succ]
      refine nw_one (i := 13) (E := False) rfl (by kernel_rfl) (fun K hK => ?_) (by kernel_rfl)
      go_simp
      refine hK.out _ _ ((fun _ => d1)) ?_
      clear hK K
      try simp only [Act.put, List.setIfInBounds_toArray, List.set_cons_zero, List.set_cons_succ]
      refine nw_one (i := 14) (E := False) rfl (by kernel_rfl) (fun K hK => ?_) (by kernel_rfl)
      go_simp
      rw [HWA.out]
      refine hK.out _ _ ((fun _ => a1)) ?_
      clear hK K
      try simp only [Act.put, List.setIfInBounds_toArray, List.set_cons_zero, List.set_cons_succ]
      refine nw_end (by kernel_rfl) ?_
      go_wp2_with (first | rw [HWB.out] | fail)
      go_roundw
      case rel => exact ⟨j + 1, by go_num, by omega, TT.out, _, hvl2, G1.out, G3.out⟩
      case measure => simp [intOf]; omega
    · obtain rfl : j = len := by omega
      have HT := Lib.hid ht
      go_wp2_with fail
      go_ret
      exact ⟨rfl, HT.out⟩
end Go.Proofs.Ytomoliickggghaa.Mem
