
/-
  THE WALKS of layer 1 (wire), the program's, fourth part: Put.
-/
import Derived.Test.YtafonjnanfekkaaWire3
namespace Go.Proofs.Ytafonjnanfekkaa.Wire
open Go.RowKit
set_option maxHeartbeats 8000000
set_option maxRecDepth 100000
set_option linter.unusedVariables false
set_option linter.unusedSimpArgs false

theorem only_of_drew {w w' : World} {row : Option Nat} (h : w.drew.grownBy w' row) : w.grownBy w' row := ⟨h.os, h.tape, h.output, h.size, h.block⟩

theorem put1_ok (p0 p1 p2 p3 : Addr) (a : Addr) (len cap x : Nat) (at_ n : Int) (cs : Array Value) (w : World) (hl : len ≤ cap) (hcp : cap ≤ 9223372036854775807) (hf : fits len at_ n = true) (hx : x < 256 ^ n.toNat)
    (c0 : w.cell? p0 = some (.slice (some a) len cap)) (c1 : w.cell? p1 = some (.int .i64 at_)) (c2 : w.cell? p2 = some (.int .i64 n)) (c3 : w.cell? p3 = some (.int .u64 (x : Int)))
    (n0 : p0.block ≠ a.block) (n1 : p1.block ≠ a.block) (n2 : p2.block ≠ a.block) (n3 : p3.block ≠ a.block)
    (hs : a.spot = none) (hcs : a.off + len ≤ cs.size) (hb : Blk w a.block 5 cs) :
    Calls Try.prog 91 #[.pointer (some p0), .pointer (some p1), .pointer (some p2), .pointer (some p3)] w fun e w' => e = .returned (.tuple #[]) ∧
      Blk w' a.block 5 (putN cs (a.off + at_.toNat) (le n.toNat x) n.toNat) ∧ w.grownBy w' (some a.block) := by
  obtain ⟨h1, h2, h3, h4, h5⟩ := fits_true hf
  have hlay := fun wx (hbx : Blk wx a.block 5 cs) => lay_yes (a.add at_.toNat) n.toNat (cap - at_.toNat) x cs wx (by omega) (by omega) hx (by rw [add_spot hs]) (by rw [add_spot hs]; simp only; omega) (by rw [block_of_add]; exact hbx)
  rw [block_of_add, show (a.add at_.toNat).off = a.off + at_.toNat by rw [add_spot hs]] at hlay
  have HL := Lib.hid hlay
  have HF := Lib.hid hf
  have HB := Lib.hid hb
  clear hlay hf hx hb hcs hs
  go_enter Try.func91, Try.ntmps91
  go_wp2_with fail
  go_region_held3 (fun w' => w'.cell? p0 = some (.slice (some a) len cap) ∧ w'.cell? p1 = some (.int .i64 at_) ∧ w'.cell? p2 = some (.int .i64 n) ∧ w'.cell? p3 = some (.int .u64 (x : Int)))
    (first | go_keep | (refine ⟨?_, ?_, ?_, ?_⟩ <;> (rw [hg.cell_far _ (by first | exact World.block_lt_of_cell? w _ c0 | exact World.block_lt_of_cell? w _ c1 | exact World.block_lt_of_cell? w _ c2 | exact World.block_lt_of_cell? w _ c3) (by simpa)]; assumption)))
    (first | (go_simp; go_at_call 58; refine (part_ok _ _ _ _ _ _ hl hcp HF.out).mono ?_; rintro e w' ⟨rfl, rfl⟩) | (go_simp; go_at_call 54; refine (HL.out _ HB.out.drew).mono ?_; rintro e w' ⟨rfl, hbk, hg⟩))
  go_end0
  exact ⟨rfl, hbk, only_of_drew hg⟩

theorem put1_no (p0 p1 p2 p3 : Addr) (A : Option Addr) (len cap : Nat) (x : Int) (at_ n : Int) (w : World) (hl : len ≤ 9223372036854775807) (hf : fits len at_ n = false)
    (c0 : w.cell? p0 = some (.slice A len cap)) (c1 : w.cell? p1 = some (.int .i64 at_)) (c2 : w.cell? p2 = some (.int .i64 n)) (c3 : w.cell? p3 = some (.int .u64 x)) :
    Calls Try.prog 91 #[.pointer (some p0), .pointer (some p1), .pointer (some p2), .pointer (some p3)] w fun e w' => e = .panicked [{ v := wrong 22, recovered := false }] ∧ w' = w.drew := by
  have HF := Lib.hid hf
  clear hf
  go_enter Try.func91, Try.ntmps91
  go_wp2_with fail
  refine wp_region_held_drew (S := fun w' => w'.cell? p0 = some (.slice A len cap) ∧ w'.cell? p1 = some (.int .i64 at_) ∧ w'.cell? p2 = some (.int .i64 n) ∧ w'.cell? p3 = some (.int .u64 x)) (by kernel_rfl) ⟨c0, c1, c2, c3⟩ (fun hHeld => ?_)
  refine wpAnyH_take (i := 0) (v := ?_) rfl (by kernel_rfl) (by kernel_rfl) (by kernel_rfl) (fun _ _ _ h => h) (Or.inl ⟨by rfl, ?_⟩) (by assumption) ?_
  rotate_left
  · intro w' hSw
    (try dsimp only at hSw)
    go_simp
    with_reducible rfl
  simp only [Act.put, List.setIfInBounds_toArray, List.set_cons_zero, List.set_cons_succ]
  refine wpAnyH_take (i := 1) (v := ?_) rfl (by kernel_rfl) (by kernel_rfl) (by kernel_rfl) (fun _ _ _ h => h) (Or.inl ⟨by rfl, ?_⟩) (by assumption) ?_
  rotate_left
  · intro w' hSw
    (try dsimp only at hSw)
    go_simp
    with_reducible rfl
  simp only [Act.put, List.setIfInBounds_toArray, List.set_cons_zero, List.set_cons_succ]
  refine wpAnyH_take (i := 2) (v := ?_) rfl (by kernel_rfl) (by kernel_rfl) (by kernel_rfl) (fun _ _ _ h => h) (Or.inl ⟨by rfl, ?_⟩) (by assumption) ?_
  rotate_left
  · intro w' hSw
    (try dsimp only at hSw)
    go_simp
    with_reducible rfl
  simp only [Act.put, List.setIfInBounds_toArray, List.set_cons_zero, List.set_cons_succ]
  refine wpAnyH_take (i := 4) (v := ?_) rfl (by kernel_rfl) (by kernel_rfl) (by kernel_rfl) (fun _ _ _ h => h) (Or.inl ⟨by rfl, ?_⟩) (by assumption) ?_
  rotate_left
  · intro w' hSw
    (try dsimp only at hSw)
    go_simp
    with_reducible rfl
  simp only [Act.put, List.setIfInBounds_toArray, List.set_cons_zero, List.set_cons_succ]
  refine wpAnyH_ready (rs := [3]) (by kernel_rfl) (by simp) ?_
  refine AllReadyH.cons rfl (fun K hK => ?_) AllReadyH.nil
  go_simp
  go_at_call 58
  refine (part_no _ _ _ _ _ _ hl HF.out).mono ?_
  rintro e w' ⟨rfl, rfl⟩
  exact ⟨rfl, rfl, rfl⟩

theorem put1_big (p0 p1 p2 p3 : Addr) (a : Addr) (len cap x : Nat) (at_ n : Int) (w : World) (hl : len ≤ cap) (hcp : cap ≤ 9223372036854775807) (hf : fits len at_ n = true) (hx : ¬ x < 256 ^ n.toNat) (hx64 : x < 18446744073709551616)
    (c0 : w.cell? p0 = some (.slice (some a) len cap)) (c1 : w.cell? p1 = some (.int .i64 at_)) (c2 : w.cell? p2 = some (.int .i64 n)) (c3 : w.cell? p3 = some (.int .u64 (x : Int))) :
    Calls Try.prog 91 #[.pointer (some p0), .pointer (some p1), .pointer (some p2), .pointer (some p3)] w fun e w' => e = .panicked [{ v := wrong 34, recovered := false }] ∧ w' = w.drew := by
  obtain ⟨h1, h2, h3, h4, h5⟩ := fits_true hf
  have h7 : n.toNat < 8 := by
    rcases Nat.lt_or_ge n.toNat 8 with h | h
    · exact h
    · have h8 : n.toNat = 8 := by omega
      rw [h8] at hx
      exact absurd hx64 (by simpa using hx)
  have HX := Lib.hid hx
  have HF := Lib.hid hf
  clear hf hx hx64
  go_enter Try.func91, Try.ntmps91
  go_wp2_with fail
  refine wp_region_held_drew (S := fun w' => w'.cell? p0 = some (.slice (some a) len cap) ∧ w'.cell? p1 = some (.int .i64 at_) ∧ w'.cell? p2 = some (.int .i64 n) ∧ w'.cell? p3 = some (.int .u64 (x : Int))) (by kernel_rfl) ⟨c0, c1, c2, c3⟩ (fun hHeld => ?_)
  refine wpAnyH_take (i := 0) (v := ?_) rfl (by kernel_rfl) (by kernel_rfl) (by kernel_rfl) (fun _ _ _ h => h) (Or.inl ⟨by rfl, ?_⟩) (by assumption) ?_
  rotate_left
  · intro w' hSw
    (try dsimp only at hSw)
    go_simp
    with_reducible rfl
  simp only [Act.put, List.setIfInBounds_toArray, List.set_cons_zero, List.set_cons_succ]
  refine wpAnyH_take (i := 1) (v := ?_) rfl (by kernel_rfl) (by kernel_rfl) (by kernel_rfl) (fun _ _ _ h => h) (Or.inl ⟨by rfl, ?_⟩) (by assumption) ?_
  rotate_left
  · intro w' hSw
    (try dsimp only at hSw)
    go_simp
    with_reducible rfl
  simp only [Act.put, List.setIfInBounds_toArray, List.set_cons_zero, List.set_cons_succ]
  refine wpAnyH_take (i := 2) (v := ?_) rfl (by kernel_rfl) (by kernel_rfl) (by kernel_rfl) (fun _ _ _ h => h) (Or.inl ⟨by rfl, ?_⟩) (by assumption) ?_
  rotate_left
  · intro w' hSw
    (try dsimp only at hSw)
    go_simp
    with_reducible rfl
  simp only [Act.put, List.setIfInBounds_toArray, List.set_cons_zero, List.set_cons_succ]
  refine wpAnyH_take (i := 4) (v := ?_) rfl (by kernel_rfl) (by kernel_rfl) (by kernel_rfl) (fun _ _ _ h => h) (Or.inl ⟨by rfl, ?_⟩) (by assumption) ?_
  rotate_left
  · intro w' hSw
    (try dsimp only at hSw)
    go_simp
    with_reducible rfl
  simp only [Act.put, List.setIfInBounds_toArray, List.set_cons_zero, List.set_cons_succ]
  refine wpAnyH_ready (rs := [3]) (by kernel_rfl) (by simp) ?_
  refine AllReadyH.cons rfl (fun K hK => ?_) AllReadyH.nil
  go_simp
  go_at_call 58
  refine (part_ok _ _ _ _ _ _ hl hcp HF.out).mono ?_
  rintro e w' ⟨rfl, rfl⟩
  refine hK.out _ _ hHeld (fun hHeld => ?_)
  clear hK K
  try simp only [Act.put, List.setIfInBounds_toArray, List.set_cons_zero, List.set_cons_succ]
  refine wpAnyH_ready (rs := [5]) (by kernel_rfl) (by simp) ?_
  refine AllReadyH.cons rfl (fun K hK => ?_) AllReadyH.nil
  go_simp
  go_at_call 54
  refine (lay_no _ _ _ _ _ h7 HX.out).mono ?_
  rintro e w' ⟨rfl, rfl⟩
  exact ⟨rfl, rfl, rfl⟩

/-- What Put's boxes leave: the walk of Put over any outcome of what is done. -/
theorem put_of (A : Option Addr) (len cap : Nat) (at_ n x c : Int) (w : World) (R : World → World → Prop)
    (h : ∀ W, (((w.alloc (.cells #[.slice A len cap] 26)).alloc (.cells #[.int .i64 at_] 3)).alloc (.cells #[.int .i64 n] 3)).alloc (.cells #[.int .u64 x] 84) = W →
      Calls Try.prog 51 #[.func (.func 91) #[] #[.pointer (some ⟨w.heap.size, 0, none⟩), .pointer (some ⟨w.heap.size + 1, 0, none⟩), .pointer (some ⟨w.heap.size + 1 + 1, 0, none⟩), .pointer (some ⟨w.heap.size + 1 + 1 + 1, 0, none⟩)]] W
        fun e w' => e = .returned (.int .i64 c) ∧ R W w') :
    Calls Try.prog 49 #[.slice A len cap, .int .i64 at_, .int .i64 n, .int .u64 x] w fun e w' => e = .returned (.int .i64 c) ∧
      ∃ W, (((w.alloc (.cells #[.slice A len cap] 26)).alloc (.cells #[.int .i64 at_] 3)).alloc (.cells #[.int .i64 n] 3)).alloc (.cells #[.int .u64 x] 84) = W ∧ R W w' := by
  have hmf : ∀ (fn : Fn) (first cap : Array Value) (w : World), (Instr.makeFunc fn first cap).run Try.prog w = .ok (.func fn first cap) w := fun _ _ _ _ => rfl
  have H := Lib.hid (h _ rfl)
  clear h
  go_enter Try.func49, Try.ntmps49
  go_wp2_with fail
  refine H.out.mono ?_
  rintro e w1 ⟨rfl, hr⟩
  have HR := Lib.hid hr
  clear hr
  go_wp2_with fail
  go_ret
  exact ⟨rfl, _, rfl, HR.out⟩

theorem put_no (A : Option Addr) (len cap : Nat) (at_ n x : Int) (w : World) (hl : len ≤ 9223372036854775807) (hf : fits len at_ n = false) :
    Calls Try.prog 49 #[.slice A len cap, .int .i64 at_, .int .i64 n, .int .u64 x] w fun e w' => e = .returned (.int .i64 22) ∧ Below w.heap.size w w' := by
  refine (put_of A len cap at_ n x 22 w (fun W w' => (W.alloc (.cells #[.int .i64 0] 27)).drew.grownBy w' (some W.heap.size)) (fun W hW => ?_)).mono ?_
  · obtain ⟨b0, b1, b2, b3, hbel, hsz⟩ := boxes w _ _ _ _ _ _ _ _ W hW
    refine (try_gives 91 _ W (fun w' => w' = (W.alloc (.cells #[.int .i64 0] 27)).drew) 22 (enter_put _) (put1_no _ _ _ _ A len cap x at_ n _ hl hf (blk_cell0 (b0.alloc _)) (blk_cell0 (b1.alloc _)) (blk_cell0 (b2.alloc _)) (blk_cell0 (b3.alloc _))) (fun w' h => by rw [h]; exact Blk.new W _ _)).mono ?_
    rintro e w' ⟨he, w1, rfl, hg⟩
    exact ⟨he, hg⟩
  · rintro e w' ⟨he, W, hW, hg⟩
    obtain ⟨b0, b1, b2, b3, hbel, hsz⟩ := boxes w _ _ _ _ _ _ _ _ W hW
    exact ⟨he, below_only ((hbel.alloc hbel.size _).drew) hg (fun g hg => by injection hg with hg; omega)⟩

theorem put_big (a : Addr) (len cap x : Nat) (at_ n : Int) (w : World) (hl : len ≤ cap) (hcp : cap ≤ 9223372036854775807) (hf : fits len at_ n = true) (hx : ¬ x < 256 ^ n.toNat) (hx64 : x < 18446744073709551616) :
    Calls Try.prog 49 #[.slice (some a) len cap, .int .i64 at_, .int .i64 n, .int .u64 (x : Int)] w fun e w' => e = .returned (.int .i64 34) ∧ Below w.heap.size w w' := by
  refine (put_of (some a) len cap at_ n (x : Int) 34 w (fun W w' => (W.alloc (.cells #[.int .i64 0] 27)).drew.grownBy w' (some W.heap.size)) (fun W hW => ?_)).mono ?_
  · obtain ⟨b0, b1, b2, b3, hbel, hsz⟩ := boxes w _ _ _ _ _ _ _ _ W hW
    refine (try_gives 91 _ W (fun w' => w' = (W.alloc (.cells #[.int .i64 0] 27)).drew) 34 (enter_put _) (put1_big _ _ _ _ a len cap x at_ n _ hl hcp hf hx hx64 (blk_cell0 (b0.alloc _)) (blk_cell0 (b1.alloc _)) (blk_cell0 (b2.alloc _)) (blk_cell0 (b3.alloc _))) (fun w' h => by rw [h]; exact Blk.new W _ _)).mono ?_
    rintro e w' ⟨he, w1, rfl, hg⟩
    exact ⟨he, hg⟩
  · rintro e w' ⟨he, W, hW, hg⟩
    obtain ⟨b0, b1, b2, b3, hbel, hsz⟩ := boxes w _ _ _ _ _ _ _ _ W hW
    exact ⟨he, below_only ((hbel.alloc hbel.size _).drew) hg (fun g hg => by injection hg with hg; omega)⟩

theorem put_ok (a : Addr) (len cap x : Nat) (at_ n : Int) (cs : Array Value) (w : World) (hl : len ≤ cap) (hcp : cap ≤ 9223372036854775807) (hf : fits len at_ n = true) (hx : x < 256 ^ n.toNat)
    (hs : a.spot = none) (hcs : a.off + len ≤ cs.size) (hb : Blk w a.block 5 cs) :
    Calls Try.prog 49 #[.slice (some a) len cap, .int .i64 at_, .int .i64 n, .int .u64 (x : Int)] w fun e w' => e = .returned (.int .i64 0) ∧
      Blk w' a.block 5 (putN cs (a.off + at_.toNat) (le n.toNat x) n.toNat) ∧ w.grownBy w' (some a.block) := by
  have hlt := hb.lt
  refine (put_of (some a) len cap at_ n (x : Int) 0 w (fun W w' => ∃ w1, (Blk w1 a.block 5 (putN cs (a.off + at_.toNat) (le n.toNat x) n.toNat) ∧ (W.alloc (.cells #[.int .i64 0] 27)).grownBy w1 (some a.block)) ∧ w1.grownBy w' (some W.heap.size)) (fun W hW => ?_)).mono ?_
  · obtain ⟨b0, b1, b2, b3, hbel, hsz⟩ := boxes w _ _ _ _ _ _ _ _ W hW
    have hbW := (hb.belowAll hbel).alloc (.cells #[.int .i64 0] 27)
    exact try_ok 91 _ W (fun w1 => Blk w1 a.block 5 (putN cs (a.off + at_.toNat) (le n.toNat x) n.toNat) ∧ (W.alloc (.cells #[.int .i64 0] 27)).grownBy w1 (some a.block)) (enter_put _)
      (put1_ok _ _ _ _ a len cap x at_ n cs _ hl hcp hf hx (blk_cell0 (b0.alloc _)) (blk_cell0 (b1.alloc _)) (blk_cell0 (b2.alloc _)) (blk_cell0 (b3.alloc _)) (by simp; omega) (by simp; omega) (by simp; omega) (by simp; omega) hs hcs hbW)
      (fun w' h => (Blk.new W _ _).grown h.2 (by simp; omega))
  · rintro e w' ⟨he, W, hW, w1, ⟨hbk, hg1⟩, hg2⟩
    obtain ⟨b0, b1, b2, b3, hbel, hsz⟩ := boxes w _ _ _ _ _ _ _ _ W hW
    have hba := hbel.alloc hbel.size (.cells #[.int .i64 0] 27)
    refine ⟨he, hbk.grown hg2 (by simp; omega), ?_⟩
    have h1 := only_trans (only_of_below hba (some a.block)) hg1
    exact ⟨hg2.os.trans h1.os, hg2.tape.trans h1.tape, hg2.output.trans h1.output, Nat.le_trans h1.size hg2.size, fun i hi hne => (hg2.block i (Nat.lt_of_lt_of_le hi h1.size) (by simp; omega)).trans (h1.block i hi hne)⟩
end Go.Proofs.Ytafonjnanfekkaa.Wire
