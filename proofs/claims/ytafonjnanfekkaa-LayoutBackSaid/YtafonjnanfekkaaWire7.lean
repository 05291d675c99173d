
/-
  THE WALKS of layer 1 (wire), the program's, seventh part: Pack.
-/
import Derived.Test.YtafonjnanfekkaaWire6
namespace Go.Proofs.Ytafonjnanfekkaa.Wire
open Go.RowKit
set_option maxHeartbeats 16000000
set_option maxRecDepth 100000
set_option linter.unusedVariables false
set_option linter.unusedSimpArgs false

theorem info_u8 : (Try.prog.info? 5).map (fun i => (i.zero, i.size, i.bytes)) = some (some (.int .u8 0), 1, 1) := by kernel_rfl
theorem make_bytes (N : Nat) (hN : N ≤ 140737488355328) (w : World) :
    (Instr.makeSlice 26 (.int .i64 (N : Int)) (.int .i64 (N : Int))).run Try.prog w = .ok (.slice (some ⟨w.heap.size, 0, none⟩) N N) (w.alloc (.cells (roomOf [] N) 5)) := by
  obtain ⟨i0, hi, hz0, hz1, hz2⟩ := info_parts info_u8
  have := run_make (P := Try.prog) w 26 5 i0 (.int .u8 0) Try.underlying26 hi hz0 .i64 .i64 N N (by omega) (by omega) (by rw [hz2]; omega) (by omega)
  rw [hz1, Nat.mul_one, Int.toNat_natCast, roomOf_nil] at this
  exact this

/-- The loop of Pack: what each round keeps. -/
def PackR (W0 : World) (g N : Nat) (l : List Nat) (ws : List Int) (k : Nat) (wr : World) : Prop :=
  Blk wr g 5 (roomOf (pre l ws k) N) ∧ W0.grownBy wr (some g)

theorem pre_zero (l : List Nat) (ws : List Int) : pre l ws 0 = [] := by cases l <;> cases ws <;> rfl

/-- How Pack's closure is left: bytes laid out, or an error. -/
theorem pack1_ok (p0 p1 p2 p3 : Addr) (A0 A1 : Option Addr) (n c0 c1 N : Nat) (l : List Nat) (ws : List Int) (v3 : Value) (w : World) (hn : n ≤ 1125899906842624)
    (hl : RowAt w A0 n (nums l)) (hr : RowAt w A1 n (ints ws)) (hw : wok ws = true) (hs : ws.sum ≤ (N : Int)) (hN : N ≤ 4096)
    (hbig : ∀ (k x : Nat) (z : Int), l[k]? = some x → ws[k]? = some z → x < 256 ^ z.toNat)
    (h0 : w.cell? p0 = some (.slice A0 n c0)) (h1 : w.cell? p1 = some (.slice A1 n c1)) (h2 : w.cell? p2 = some (.int .i64 (N : Int))) (h3 : w.cell? p3 = some v3) (hz3 : w.frozen? p3 = false) :
    Calls Try.prog 52 #[.pointer (some p0), .pointer (some p1), .pointer (some p2), .pointer (some p3)] w fun e w' => e = .returned (.tuple #[]) ∧
      ∃ wr, w' = wr.setCell p3 (.slice (some ⟨w.heap.size, 0, none⟩) N N) ∧ Blk wr w.heap.size 5 (roomOf (pre l ws n) N) ∧ w.grownBy wr none := by
  have hll : l.length = n := by have := hl.len; simpa [nums] using this
  have hlw : ws.length = n := by have := hr.len; simpa [ints] using this
  have HC := Lib.hid (fun k => whole_q A1 n c1 ws (w.drewN k) hn (hr.drewN k) hw)
  have HW := Lib.hid hw
  have HBIG := Lib.hid hbig
  have HL := Lib.hid hl
  have HRR := Lib.hid hr
  have hmk := make_bytes N (by omega)
  have hd1 : decide ((N : Int) < ws.sum) = false := by simp; omega
  have hd2 : decide ((4096 : Int) < (N : Int)) = false := by simp; omega
  have lt0 := World.block_lt_of_cell? w _ h0
  have lt1 := World.block_lt_of_cell? w _ h1
  have lt3 := World.block_lt_of_cell? w _ h3
  have q1 : ∀ (k : Nat) (o : Obj), ((w.drewN k).alloc o).cell? p1 = some (.slice A1 n c1) := fun k o => (World.cell?_alloc_lt (w.drewN k) o p1 lt1).trans h1
  have HLL := Lib.hid hll
  have HLW := Lib.hid hlw
  clear hw hbig hl hr hll hlw
  go_enter Try.func52, Try.ntmps52
  go_wp2_with fail
  go_quiet ((go_at_call 53; exact Calls.quiet_of_same (HC.out _)))
  clear hd1 hd2
  go_wp2_with fail
  clear hmk q1
  obtain ⟨W0, hW0⟩ : ∃ W0, (w.drewN nq).alloc (.cells (roomOf [] N) 5) = W0 := ⟨_, rfl⟩
  rw [hW0]
  have b0 : Blk W0 w.heap.size 5 (roomOf [] N) := by rw [← hW0]; exact Blk.new (w.drewN nq) _ _
  have g0 : w.grownBy W0 none := by rw [← hW0]; exact only_alloc (only_drewN (World.grownBy.refl w none) nq) _
  have sz0 : W0.heap.size = w.heap.size + 1 := by rw [← hW0]; simp
  have B0 := Lib.hid b0
  have G0 := Lib.hid g0
  have SZ0 := Lib.hid sz0
  clear b0 g0 sz0 hW0
  go_loopw [5, 29] (fun a i wr => ∃ k : Nat, k ≤ n ∧ i = .int .i64 k ∧ a = .int .i64 (ws.take k).sum ∧ PackR W0 w.heap.size N l ws k wr) (fun _ i _ => n - (intOf i).toNat)
  case atStart => exact ⟨0, by omega, rfl, rfl, by rw [pre_zero]; exact B0.out, World.grownBy.refl _ _⟩
  case round =>
    obtain ⟨k, hk, rfl, rfl, hbk, hgr⟩ := hrel
    have HBK := Lib.hid hbk
    have hgA : w.grownBy wr none := ⟨hgr.os.trans G0.out.os, hgr.tape.trans G0.out.tape, hgr.output.trans G0.out.output, Nat.le_trans G0.out.size hgr.size, fun i hi hne => (hgr.block i (Nat.lt_of_lt_of_le hi G0.out.size) (by intro e; injection e with e; omega)).trans (G0.out.block i hi hne)⟩
    have HG := Lib.hid hgr
    have HGA := Lib.hid hgA
    clear hbk hgr hgA
    have r0 : wr.cell? p0 = some (.slice A0 n c0) := (HGA.out.cell_far p0 lt0 (by simp)).trans h0
    obtain ⟨s0, s1⟩ := wsum_mono HW.out k
    have s2 := (wsum_le _ HW.out).2
    by_cases hlt : k < n
    · obtain ⟨al, x, rfl, hx, hcx⟩ := (HL.out.grown HGA.out (by simp)).num_at hlt
      obtain ⟨aw, z, rfl, hz, hcz⟩ := (HRR.out.grown HGA.out (by simp)).int_at hlt
      obtain ⟨z1, z2⟩ := wok_at HW.out hz
      obtain ⟨zn, rfl⟩ := Int.eq_ofNat_of_zero_le (by omega : 0 ≤ z)
      obtain ⟨s3, s4⟩ := wsum_mono HW.out (k + 1)
      have hss := wsum_succ hz
      have hlen := pre_length l ws k (by rw [HLL.out, HLW.out]) HW.out
      obtain ⟨at_, hat⟩ := Int.eq_ofNat_of_zero_le s0
      have hpl : (pre l ws k).length = at_ := by omega
      have hxb := HBIG.out k x _ hx hz
      have hps := pre_succ l ws k x _ hx hz
      rw [Int.toNat_natCast] at hps hxb
      have hput := roomOf_put (bs := pre l ws k) (new := le zn x) (size := N) (by rw [le_length]; omega)
      rw [le_length, hpl, ← hps] at hput
      have hlay := lay_yes ⟨w.heap.size, at_, none⟩ zn (N - at_) x (roomOf (pre l ws k) N) wr.drew (by omega) (by omega) hxb rfl (by rw [roomOf_size (by omega)]; simp only; omega) HBK.out
      simp only [hput] at hlay
      rw [hat] at hss ⊢
      have hal := (HL.out.lt (by omega) : al.block < w.heap.size)
      have HLAY := Lib.hid hlay
      have HSS := Lib.hid hss
      have X1 := Lib.hid hx
      have X2 := Lib.hid hz
      rw [hat] at s1 s0
      have hsum : ((at_ : Int) + (zn : Int)) ≤ N := by omega
      clear hlay hss hx hz hps hput hxb hpl hlen hat
      have hd : decide ((zn : Int) < 1) = false := by simp; omega
      have hN2 : ¬ N = at_ := by omega
      go_wp2_with fail
      have f1 : IntKind.i64.wrap ((at_ : Int) + (zn : Int)) = (at_ : Int) + (zn : Int) := by rw [IntKind.wrap_i64]; omega
      have f2 : ((at_ : Int) + (zn : Int)).toNat = at_ + zn := by omega
      have f3 : (at_ : Int) ≤ (at_ : Int) + (zn : Int) := by omega
      have f4 : (0 : Int) ≤ (k : Int) := by omega
      have f5 : (k : Int) < (n : Int) := by omega
      have f6 : (0 : Int) ≤ (at_ : Int) + (zn : Int) := by omega
      go_region_held3 (fun w' => w'.cell? p0 = some (.slice (some al) n c0) ∧ w'.cell? (al.add k) = some (.int .u64 (x : Int)))
        (first | go_keep | (refine ⟨?_, ?_⟩ <;> (rw [hg.cell_far _ (by first | exact Nat.lt_of_lt_of_le lt0 HGA.out.size | (rw [block_of_add]; exact Nat.lt_of_lt_of_le hal HGA.out.size)) (by first | (simp; omega) | (rw [block_of_add]; simp; omega))]; assumption)))
        (first | (go_simp; go_at_call 54; refine HLAY.out.mono ?_; rintro e w2 ⟨rfl, hbk, hg⟩))
      clear f1 f2 f6
      have hbk2 := hbk
      have hg2 : wr.grownBy w2 (some w.heap.size) := only_of_drew hg
      have HB2 := Lib.hid hbk
      have HG2 := Lib.hid hg2
      clear hbk hbk2 hg hg2
      go_wp2_with fail
      go_roundw
      case rel => exact ⟨k + 1, by omega, by go_num, by rw [HSS.out], HB2.out, only_trans HG.out HG2.out⟩
      case measure => simp [intOf]; omega
    · obtain rfl : k = n := by omega
      have hz : wr.frozen? p3 = false := (HGA.out.frozen_far p3 lt3 (by simp)).trans hz3
      have r3 : wr.cell? p3 = some v3 := (HGA.out.cell_far p3 lt3 (by simp)).trans h3
      go_wp2_with fail
      go_end0
      exact ⟨rfl, wr, rfl, HBK.out, HGA.out⟩

/-- A number does not go in. -/
theorem pack1_over (p0 p1 p2 p3 : Addr) (A0 A1 : Option Addr) (n c0 c1 N : Nat) (l : List Nat) (ws : List Int) (v3 : Value) (w : World) (hn : n ≤ 1125899906842624)
    (hl : RowAt w A0 n (nums l)) (hr : RowAt w A1 n (ints ws)) (hw : wok ws = true) (hs : ws.sum ≤ (N : Int)) (hN : N ≤ 4096)
    (j xj : Nat) (zj : Int) (hj1 : l[j]? = some xj) (hj2 : ws[j]? = some zj) (hj3 : ¬ xj < 256 ^ zj.toNat) (h64 : ∀ x ∈ l, x < 18446744073709551616)
    (hbig : ∀ (k x : Nat) (z : Int), k < j → l[k]? = some x → ws[k]? = some z → x < 256 ^ z.toNat)
    (h0 : w.cell? p0 = some (.slice A0 n c0)) (h1 : w.cell? p1 = some (.slice A1 n c1)) (h2 : w.cell? p2 = some (.int .i64 (N : Int))) (h3 : w.cell? p3 = some v3) (hz3 : w.frozen? p3 = false) :
    Calls Try.prog 52 #[.pointer (some p0), .pointer (some p1), .pointer (some p2), .pointer (some p3)] w fun e w' => e = .panicked [{ v := wrong 34, recovered := false }] ∧ w.grownBy w' none := by
  have hll : l.length = n := by have := hl.len; simpa [nums] using this
  have hlw : ws.length = n := by have := hr.len; simpa [ints] using this
  have HC := Lib.hid (fun k => whole_q A1 n c1 ws (w.drewN k) hn (hr.drewN k) hw)
  have HW := Lib.hid hw
  have HBIG := Lib.hid hbig
  have HL := Lib.hid hl
  have HRR := Lib.hid hr
  have hmk := make_bytes N (by omega)
  have hd1 : decide ((N : Int) < ws.sum) = false := by simp; omega
  have hd2 : decide ((4096 : Int) < (N : Int)) = false := by simp; omega
  have lt0 := World.block_lt_of_cell? w _ h0
  have lt1 := World.block_lt_of_cell? w _ h1
  have lt3 := World.block_lt_of_cell? w _ h3
  have q1 : ∀ (k : Nat) (o : Obj), ((w.drewN k).alloc o).cell? p1 = some (.slice A1 n c1) := fun k o => (World.cell?_alloc_lt (w.drewN k) o p1 lt1).trans h1
  have HLL := Lib.hid hll
  have HLW := Lib.hid hlw
  have hjn : j < n := by rw [← hll]; exact (List.getElem?_eq_some_iff.1 hj1).1
  have hx64 : xj < 18446744073709551616 := h64 xj (List.mem_of_getElem? hj1)
  have HJ1 := Lib.hid hj1
  have HJ2 := Lib.hid hj2
  have HJ3 := Lib.hid hj3
  clear hw hbig hl hr hll hlw hj1 hj2 hj3 h64
  go_enter Try.func52, Try.ntmps52
  go_wp2_with fail
  go_quiet ((go_at_call 53; exact Calls.quiet_of_same (HC.out _)))
  clear hd1 hd2
  go_wp2_with fail
  clear hmk q1
  obtain ⟨W0, hW0⟩ : ∃ W0, (w.drewN nq).alloc (.cells (roomOf [] N) 5) = W0 := ⟨_, rfl⟩
  rw [hW0]
  have b0 : Blk W0 w.heap.size 5 (roomOf [] N) := by rw [← hW0]; exact Blk.new (w.drewN nq) _ _
  have g0 : w.grownBy W0 none := by rw [← hW0]; exact only_alloc (only_drewN (World.grownBy.refl w none) nq) _
  have sz0 : W0.heap.size = w.heap.size + 1 := by rw [← hW0]; simp
  have B0 := Lib.hid b0
  have G0 := Lib.hid g0
  have SZ0 := Lib.hid sz0
  clear b0 g0 sz0 hW0
  go_loopw [5, 29] (fun a i wr => ∃ k : Nat, k ≤ j ∧ i = .int .i64 k ∧ a = .int .i64 (ws.take k).sum ∧ PackR W0 w.heap.size N l ws k wr) (fun _ i _ => n - (intOf i).toNat)
  case atStart => exact ⟨0, by omega, rfl, rfl, by rw [pre_zero]; exact B0.out, World.grownBy.refl _ _⟩
  case round =>
    obtain ⟨k, hk, rfl, rfl, hbk, hgr⟩ := hrel
    have HBK := Lib.hid hbk
    have hgA : w.grownBy wr none := ⟨hgr.os.trans G0.out.os, hgr.tape.trans G0.out.tape, hgr.output.trans G0.out.output, Nat.le_trans G0.out.size hgr.size, fun i hi hne => (hgr.block i (Nat.lt_of_lt_of_le hi G0.out.size) (by intro e; injection e with e; omega)).trans (G0.out.block i hi hne)⟩
    have HG := Lib.hid hgr
    have HGA := Lib.hid hgA
    clear hbk hgr hgA
    have r0 : wr.cell? p0 = some (.slice A0 n c0) := (HGA.out.cell_far p0 lt0 (by simp)).trans h0
    obtain ⟨s0, s1⟩ := wsum_mono HW.out k
    have s2 := (wsum_le _ HW.out).2
    have hlt : k < n := by omega
    by_cases hkj : k < j
    · obtain ⟨al, x, rfl, hx, hcx⟩ := (HL.out.grown HGA.out (by simp)).num_at hlt
      obtain ⟨aw, z, rfl, hz, hcz⟩ := (HRR.out.grown HGA.out (by simp)).int_at hlt
      obtain ⟨z1, z2⟩ := wok_at HW.out hz
      obtain ⟨zn, rfl⟩ := Int.eq_ofNat_of_zero_le (by omega : 0 ≤ z)
      obtain ⟨s3, s4⟩ := wsum_mono HW.out (k + 1)
      have hss := wsum_succ hz
      have hlen := pre_length l ws k (by rw [HLL.out, HLW.out]) HW.out
      obtain ⟨at_, hat⟩ := Int.eq_ofNat_of_zero_le s0
      have hpl : (pre l ws k).length = at_ := by omega
      have hxb := HBIG.out k x _ hkj hx hz
      have hps := pre_succ l ws k x _ hx hz
      rw [Int.toNat_natCast] at hps hxb
      have hput := roomOf_put (bs := pre l ws k) (new := le zn x) (size := N) (by rw [le_length]; omega)
      rw [le_length, hpl, ← hps] at hput
      have hlay := lay_yes ⟨w.heap.size, at_, none⟩ zn (N - at_) x (roomOf (pre l ws k) N) wr.drew (by omega) (by omega) hxb rfl (by rw [roomOf_size (by omega)]; simp only; omega) HBK.out
      simp only [hput] at hlay
      rw [hat] at hss ⊢
      have hal := (HL.out.lt (by omega) : al.block < w.heap.size)
      have HLAY := Lib.hid hlay
      have HSS := Lib.hid hss
      have X1 := Lib.hid hx
      have X2 := Lib.hid hz
      rw [hat] at s1 s0
      have hsum : ((at_ : Int) + (zn : Int)) ≤ N := by omega
      clear hlay hss hx hz hps hput hxb hpl hlen hat
      have hd : decide ((zn : Int) < 1) = false := by simp; omega
      have hN2 : ¬ N = at_ := by omega
      go_wp2_with fail
      have f1 : IntKind.i64.wrap ((at_ : Int) + (zn : Int)) = (at_ : Int) + (zn : Int) := by rw [IntKind.wrap_i64]; omega
      have f2 : ((at_ : Int) + (zn : Int)).toNat = at_ + zn := by omega
      have f3 : (at_ : Int) ≤ (at_ : Int) + (zn : Int) := by omega
      have f4 : (0 : Int) ≤ (k : Int) := by omega
      have f5 : (k : Int) < (n : Int) := by omega
      have f6 : (0 : Int) ≤ (at_ : Int) + (zn : Int) := by omega
      go_region_held3 (fun w' => w'.cell? p0 = some (.slice (some al) n c0) ∧ w'.cell? (al.add k) = some (.int .u64 (x : Int)))
        (first | go_keep | (refine ⟨?_, ?_⟩ <;> (rw [hg.cell_far _ (by first | exact Nat.lt_of_lt_of_le lt0 HGA.out.size | (rw [block_of_add]; exact Nat.lt_of_lt_of_le hal HGA.out.size)) (by first | (simp; omega) | (rw [block_of_add]; simp; omega))]; assumption)))
        (first | (go_simp; go_at_call 54; refine HLAY.out.mono ?_; rintro e w2 ⟨rfl, hbk, hg⟩))
      clear f1 f2 f6
      have hbk2 := hbk
      have hg2 : wr.grownBy w2 (some w.heap.size) := only_of_drew hg
      have HB2 := Lib.hid hbk
      have HG2 := Lib.hid hg2
      clear hbk hbk2 hg hg2
      go_wp2_with fail
      go_roundw
      case rel => exact ⟨k + 1, by omega, by go_num, by rw [HSS.out], HB2.out, only_trans HG.out HG2.out⟩
      case measure => simp [intOf]; omega
    · obtain rfl : k = j := by omega
      obtain ⟨al, x, rfl, hx, hcx⟩ := (HL.out.grown HGA.out (by simp)).num_at hlt
      obtain ⟨aw, z, rfl, hz, hcz⟩ := (HRR.out.grown HGA.out (by simp)).int_at hlt
      obtain ⟨z1, z2⟩ := wok_at HW.out hz
      obtain rfl : x = xj := by have := HJ1.out; rw [hx] at this; injection this
      obtain rfl : z = zj := by have := HJ2.out; rw [hz] at this; injection this
      obtain ⟨zn, rfl⟩ := Int.eq_ofNat_of_zero_le (by omega : 0 ≤ z)
      obtain ⟨s3, s4⟩ := wsum_mono HW.out (k + 1)
      have hss := wsum_succ hz
      obtain ⟨at_, hat⟩ := Int.eq_ofNat_of_zero_le s0
      have hxb := HJ3.out
      rw [Int.toNat_natCast] at hxb
      have h7 : zn < 8 := by
        rcases Nat.lt_or_ge zn 8 with h | h
        · exact h
        · have h8 : zn = 8 := by omega
          rw [h8] at hxb
          exact absurd hx64 (by simpa using hxb)
      have HXB := Lib.hid hxb
      rw [hat] at hss ⊢
      rw [hat] at s1 s0
      have hsum : ((at_ : Int) + (zn : Int)) ≤ N := by omega
      clear hss hx hz hxb hat hx64
      have hd : decide ((zn : Int) < 1) = false := by simp; omega
      have hN2 : ¬ N = at_ := by omega
      go_wp2_with fail
      have f1 : IntKind.i64.wrap ((at_ : Int) + (zn : Int)) = (at_ : Int) + (zn : Int) := by rw [IntKind.wrap_i64]; omega
      have f2 : ((at_ : Int) + (zn : Int)).toNat = at_ + zn := by omega
      have f3 : (at_ : Int) ≤ (at_ : Int) + (zn : Int) := by omega
      have f4 : (0 : Int) ≤ (k : Int) := by omega
      have f5 : (k : Int) < (n : Int) := by omega
      have f6 : (0 : Int) ≤ (at_ : Int) + (zn : Int) := by omega
      refine wp_region_held_drew (S := fun w' => w'.cell? p0 = some (.slice (some al) n c0) ∧ w'.cell? (al.add k) = some (.int .u64 (x : Int))) (by kernel_rfl) ⟨r0, hcx⟩ (fun hHeld => ?_)
      refine wpAnyH_take (i := 0) (v := ?_) rfl (by kernel_rfl) (by kernel_rfl) (by kernel_rfl) (fun _ _ _ h => h) (Or.inl ⟨by rfl, ?_⟩) (by assumption) ?_
      rotate_left
      · intro w' hSw
        (try dsimp only at hSw)
        go_simp
        with_reducible rfl
      try simp only [Act.put, List.setIfInBounds_toArray, List.set_cons_zero, List.set_cons_succ]
      refine wpAnyH_take (i := 1) (v := ?_) rfl (by kernel_rfl) (by kernel_rfl) (by kernel_rfl) (fun _ _ _ h => h) (Or.inl ⟨by rfl, ?_⟩) (by assumption) ?_
      rotate_left
      · intro w' hSw
        (try dsimp only at hSw)
        go_simp
        with_reducible rfl
      try simp only [Act.put, List.setIfInBounds_toArray, List.set_cons_zero, List.set_cons_succ]
      refine wpAnyH_take (i := 2) (v := ?_) rfl (by kernel_rfl) (by kernel_rfl) (by kernel_rfl) (fun _ _ _ h => h) (Or.inl ⟨by rfl, ?_⟩) (by assumption) ?_
      rotate_left
      · intro w' hSw
        (try dsimp only at hSw)
        go_simp
        with_reducible rfl
      try simp only [Act.put, List.setIfInBounds_toArray, List.set_cons_zero, List.set_cons_succ]
      refine wpAnyH_take (i := 3) (v := ?_) rfl (by kernel_rfl) (by kernel_rfl) (by kernel_rfl) (fun _ _ _ h => h) (Or.inl ⟨by rfl, ?_⟩) (by assumption) ?_
      rotate_left
      · intro w' hSw
        (try dsimp only at hSw)
        go_simp
        with_reducible rfl
      try simp only [Act.put, List.setIfInBounds_toArray, List.set_cons_zero, List.set_cons_succ]
      refine wpAnyH_take (i := 4) (v := ?_) rfl (by kernel_rfl) (by kernel_rfl) (by kernel_rfl) (fun _ _ _ h => h) (Or.inl ⟨by rfl, ?_⟩) (by assumption) ?_
      rotate_left
      · intro w' hSw
        (try dsimp only at hSw)
        go_simp
        with_reducible rfl
      try simp only [Act.put, List.setIfInBounds_toArray, List.set_cons_zero, List.set_cons_succ]
      refine wpAnyH_take (i := 5) (v := ?_) rfl (by kernel_rfl) (by kernel_rfl) (by kernel_rfl) (fun _ _ _ h => h) (Or.inl ⟨by rfl, ?_⟩) (by assumption) ?_
      rotate_left
      · intro w' hSw
        (try dsimp only at hSw)
        go_simp
        with_reducible rfl
      try simp only [Act.put, List.setIfInBounds_toArray, List.set_cons_zero, List.set_cons_succ]
      refine wpAnyH_take (i := 6) (v := ?_) rfl (by kernel_rfl) (by kernel_rfl) (by kernel_rfl) (fun _ _ _ h => h) (Or.inl ⟨by rfl, ?_⟩) (by assumption) ?_
      rotate_left
      · intro w' hSw
        (try dsimp only at hSw)
        go_simp
        with_reducible rfl
      try simp only [Act.put, List.setIfInBounds_toArray, List.set_cons_zero, List.set_cons_succ]
      refine wpAnyH_take (i := 7) (v := ?_) rfl (by kernel_rfl) (by kernel_rfl) (by kernel_rfl) (fun _ _ _ h => h) (Or.inl ⟨by rfl, ?_⟩) (by assumption) ?_
      rotate_left
      · intro w' hSw
        (try dsimp only at hSw)
        go_simp
        with_reducible rfl
      try simp only [Act.put, List.setIfInBounds_toArray, List.set_cons_zero, List.set_cons_succ]
      refine wpAnyH_take (i := 8) (v := ?_) rfl (by kernel_rfl) (by kernel_rfl) (by kernel_rfl) (fun _ _ _ h => h) (Or.inl ⟨by rfl, ?_⟩) (by assumption) ?_
      rotate_left
      · intro w' hSw
        (try dsimp only at hSw)
        go_simp
        with_reducible rfl
      try simp only [Act.put, List.setIfInBounds_toArray, List.set_cons_zero, List.set_cons_succ]
      refine wpAnyH_take (i := 9) (v := ?_) rfl (by kernel_rfl) (by kernel_rfl) (by kernel_rfl) (fun _ _ _ h => h) (Or.inl ⟨by rfl, ?_⟩) (by assumption) ?_
      rotate_left
      · intro w' hSw
        (try dsimp only at hSw)
        go_simp
        with_reducible rfl
      try simp only [Act.put, List.setIfInBounds_toArray, List.set_cons_zero, List.set_cons_succ]
      refine wpAnyH_ready (rs := [10]) (by kernel_rfl) (by simp) ?_
      refine AllReadyH.cons rfl (fun K hK => ?_) AllReadyH.nil
      go_simp
      go_at_call 54
      refine (lay_no _ _ _ _ _ h7 HXB.out).mono ?_
      rintro e w' ⟨rfl, rfl⟩
      exact ⟨rfl, rfl, only_drew HGA.out⟩
end Go.Proofs.Ytafonjnanfekkaa.Wire
