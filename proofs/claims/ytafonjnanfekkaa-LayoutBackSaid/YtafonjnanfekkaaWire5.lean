
/-
  THE WALKS of layer 1 (wire), the program's, fifth part: Seal, Sealed.
-/
import Derived.Test.YtafonjnanfekkaaWire4
namespace Go.Proofs.Ytafonjnanfekkaa.Wire
open Go.RowKit
set_option maxHeartbeats 8000000
set_option maxRecDepth 100000
set_option linter.unusedVariables false
set_option linter.unusedSimpArgs false

theorem enter_seal (caps : Array Value) (w : World) : (callFunc 57 caps).run Try.prog w = .ok (.enter 57 caps) w := by simp [go_sem]
theorem boxes3 (w : World) (c0 c1 c2 : Value) (t0 t1 t2 : TypeId) (W : World) (hW : ((w.alloc (.cells #[c0] t0)).alloc (.cells #[c1] t1)).alloc (.cells #[c2] t2) = W) :
    Blk W w.heap.size t0 #[c0] ∧ Blk W (w.heap.size + 1) t1 #[c1] ∧ Blk W (w.heap.size + 1 + 1) t2 #[c2] ∧ Below w.heap.size w W ∧ W.heap.size = w.heap.size + 1 + 1 + 1 := by
  subst hW
  refine ⟨((Blk.new w t0 #[c0]).alloc _).alloc _, ?_, ?_, ?_, by simp⟩
  · have := (Blk.new (w.alloc (.cells #[c0] t0)) t1 #[c1]).alloc (.cells #[c2] t2)
    simpa using this
  · have := Blk.new ((w.alloc (.cells #[c0] t0)).alloc (.cells #[c1] t1)) t2 #[c2]
    simpa using this
  · exact (((Below.refl w.heap.size w).alloc (Nat.le_refl _) _).alloc (by simp) _).alloc (by simp; omega) _

theorem fits4 {len : Nat} (h : 4 ≤ len) : fits len ((len : Int) - 4) 4 = true := fits_mk (by omega) (by omega) (by omega) (by omega)
theorem fits4_no {len : Nat} (h : ¬ 4 ≤ len) : fits len ((len : Int) - 4) 4 = false := by
  cases e : fits len ((len : Int) - 4) 4
  · rfl
  · have := fits_true e; omega

theorem seal1_ok (p0 p1 p2 : Addr) (a : Addr) (len cap : Nat) (seed : BitVec 32) (bs : List UInt8) (cs : Array Value) (w : World) (hl : len ≤ cap) (hcp : cap ≤ 9223372036854775807) (h4 : 4 ≤ len)
    (c0 : w.cell? p0 = some (.slice (some a) len cap)) (c1 : w.cell? p1 = some (.int .i64 ((len : Int) - 4))) (c2 : w.cell? p2 = some (.int .u32 (seed.toNat : Int)))
    (n0 : p0.block ≠ a.block) (n1 : p1.block ≠ a.block) (n2 : p2.block ≠ a.block)
    (hs : a.spot = none) (hcs : a.off + len ≤ cs.size) (hb : Blk w a.block 5 cs) (hby : BytesAt w (some a) len bs) :
    Calls Try.prog 57 #[.pointer (some p0), .pointer (some p1), .pointer (some p2)] w fun e w' => e = .returned (.tuple #[]) ∧
      Blk w' a.block 5 (putN cs (a.off + (len - 4)) (le 4 (crc seed (bs.take (len - 4))).toNat) 4) ∧ w.grownBy w' (some a.block) := by
  have hto : ((len : Int) - 4).toNat = len - 4 := by omega
  have hpart := part_ok a len cap ((len : Int) - 4) 4 w hl hcp (fits4 h4)
  rw [hto] at hpart
  have hx : (crc seed (bs.take (len - 4))).toNat < 256 ^ 4 := (crc seed (bs.take (len - 4))).isLt
  have hlay := fun wx (hbx : Blk wx a.block 5 cs) => lay_yes (a.add (len - 4)) 4 (cap - (len - 4)) (crc seed (bs.take (len - 4))).toNat cs wx (by omega) (by omega) hx (by rw [add_spot hs]) (by rw [add_spot hs]; simp only; omega) (by rw [block_of_add]; exact hbx)
  rw [block_of_add, show (a.add (len - 4)).off = a.off + (len - 4) by rw [add_spot hs]] at hlay
  have hcrc := fun wx (hbx : BytesAt wx (some a) len bs) => crc_any seed (some a) (len - 4) cap (bs.take (len - 4)) wx (by omega) (hbx.take_ (len - 4) (by omega))
  have hdr : BytesAt w.drew (some a) len bs := hby
  have HC := Lib.hid (hcrc _ hdr)
  have HL := Lib.hid (hlay _ hb.drew)
  have HP := Lib.hid hpart
  have h32 : IntKind.u64.wrap ((crc seed (bs.take (len - 4))).toNat : Int) = ((crc seed (bs.take (len - 4))).toNat : Int) := by
    have := (crc seed (bs.take (len - 4))).isLt
    rw [IntKind.wrap_u64]; omega
  have i0 : (0 : Int) ≤ (len : Int) - 4 := by omega
  have i1 : (len : Int) - 4 ≤ (cap : Int) := by omega
  have i2 : (4 : Int) ≤ (len : Int) := by omega
  have i3 : (len : Int) ≤ (cap : Int) + 4 := by omega
  clear hlay hpart hb hcs hs hx hcrc hby hdr
  go_enter Try.func57, Try.ntmps57
  go_wp2_with (go_at_call 58; refine HP.out.mono ?_; rintro e w' ⟨rfl, rfl⟩)
  go_region_held3 (fun w' => w'.cell? p0 = some (.slice (some a) len cap) ∧ w'.cell? p1 = some (.int .i64 ((len : Int) - 4)) ∧ w'.cell? p2 = some (.int .u32 (seed.toNat : Int)))
    (first | go_keep | (refine ⟨?_, ?_, ?_⟩ <;> (rw [hg.cell_far _ (by first | exact World.block_lt_of_cell? w _ c0 | exact World.block_lt_of_cell? w _ c1 | exact World.block_lt_of_cell? w _ c2) (by simpa)]; assumption)))
    (first | (go_simp; go_at_call 50; refine HC.out.mono ?_; rintro e w' ⟨rfl, rfl⟩) | (go_simp; go_at_call 54; refine HL.out.mono ?_; rintro e w' ⟨rfl, hbk, hg⟩))
  go_end0
  exact ⟨rfl, hbk, only_of_drew hg⟩

theorem seal1_no (p0 p1 p2 : Addr) (A : Option Addr) (len cap : Nat) (w : World) (hl : len ≤ 9223372036854775807) (h4 : ¬ 4 ≤ len)
    (c0 : w.cell? p0 = some (.slice A len cap)) (c1 : w.cell? p1 = some (.int .i64 ((len : Int) - 4))) :
    Calls Try.prog 57 #[.pointer (some p0), .pointer (some p1), .pointer (some p2)] w fun e w' => e = .panicked [{ v := wrong 22, recovered := false }] ∧ w = w' := by
  have HP := Lib.hid (part_no A len cap ((len : Int) - 4) 4 w hl (fits4_no h4))
  go_enter Try.func57, Try.ntmps57
  go_wp2_with (go_at_call 58; refine HP.out.mono ?_; rintro e w' ⟨rfl, rfl⟩)
  exact ⟨rfl, rfl, rfl⟩

theorem seal_of (A : Option Addr) (len cap : Nat) (seed : BitVec 32) (c : Int) (w : World) (R : World → World → Prop) (hl : len ≤ 9223372036854775807)
    (h : ∀ W, ((w.alloc (.cells #[.slice A len cap] 26)).alloc (.cells #[.int .u32 (seed.toNat : Int)] 24)).alloc (.cells #[.int .i64 ((len : Int) - 4)] 3) = W →
      Calls Try.prog 51 #[.func (.func 57) #[] #[.pointer (some ⟨w.heap.size, 0, none⟩), .pointer (some ⟨w.heap.size + 1 + 1, 0, none⟩), .pointer (some ⟨w.heap.size + 1, 0, none⟩)]] W
        fun e w' => e = .returned (.int .i64 c) ∧ R W w') :
    Calls Try.prog 19 #[.slice A len cap, .int .u32 (seed.toNat : Int)] w fun e w' => e = .returned (.int .i64 c) ∧
      ∃ W, ((w.alloc (.cells #[.slice A len cap] 26)).alloc (.cells #[.int .u32 (seed.toNat : Int)] 24)).alloc (.cells #[.int .i64 ((len : Int) - 4)] 3) = W ∧ R W w' := by
  have hmf : ∀ (fn : Fn) (first cap : Array Value) (w : World), (Instr.makeFunc fn first cap).run Try.prog w = .ok (.func fn first cap) w := fun _ _ _ _ => rfl
  have H := Lib.hid (h _ rfl)
  clear h
  go_enter Try.func19, Try.ntmps19
  go_wp2_with fail
  refine H.out.mono ?_
  rintro e w1 ⟨rfl, hr⟩
  have HR := Lib.hid hr
  clear hr
  go_wp2_with fail
  go_ret
  exact ⟨rfl, _, rfl, HR.out⟩

theorem seal_no (A : Option Addr) (len cap : Nat) (seed : BitVec 32) (w : World) (hl : len ≤ 9223372036854775807) (h4 : ¬ 4 ≤ len) :
    Calls Try.prog 19 #[.slice A len cap, .int .u32 (seed.toNat : Int)] w fun e w' => e = .returned (.int .i64 22) ∧ Below w.heap.size w w' := by
  refine (seal_of A len cap seed 22 w (fun W w' => (W.alloc (.cells #[.int .i64 0] 27)).grownBy w' (some W.heap.size)) hl (fun W hW => ?_)).mono ?_
  · obtain ⟨b0, b1, b2, hbel, hsz⟩ := boxes3 w _ _ _ _ _ _ W hW
    refine (try_gives 57 _ W (fun w' => W.alloc (.cells #[.int .i64 0] 27) = w') 22 (enter_seal _) (seal1_no _ _ _ A len cap _ hl h4 (blk_cell0 (b0.alloc _)) (blk_cell0 (b2.alloc _))) (fun w' h => by rw [← h]; exact Blk.new W _ _)).mono ?_
    rintro e w' ⟨he, w1, rfl, hg⟩
    exact ⟨he, hg⟩
  · rintro e w' ⟨he, W, hW, hg⟩
    obtain ⟨b0, b1, b2, hbel, hsz⟩ := boxes3 w _ _ _ _ _ _ W hW
    exact ⟨he, below_only (hbel.alloc hbel.size _) hg (fun g hg => by injection hg with hg; omega)⟩

theorem seal_ok (a : Addr) (len cap : Nat) (seed : BitVec 32) (bs : List UInt8) (cs : Array Value) (w : World) (hl : len ≤ cap) (hcp : cap ≤ 9223372036854775807) (h4 : 4 ≤ len)
    (hs : a.spot = none) (hcs : a.off + len ≤ cs.size) (hb : Blk w a.block 5 cs) (hby : BytesAt w (some a) len bs) :
    Calls Try.prog 19 #[.slice (some a) len cap, .int .u32 (seed.toNat : Int)] w fun e w' => e = .returned (.int .i64 0) ∧
      Blk w' a.block 5 (putN cs (a.off + (len - 4)) (le 4 (crc seed (bs.take (len - 4))).toNat) 4) ∧ w.grownBy w' (some a.block) := by
  have hlt := hb.lt
  refine (seal_of (some a) len cap seed 0 w (fun W w' => ∃ w1, (Blk w1 a.block 5 (putN cs (a.off + (len - 4)) (le 4 (crc seed (bs.take (len - 4))).toNat) 4) ∧ (W.alloc (.cells #[.int .i64 0] 27)).grownBy w1 (some a.block)) ∧ w1.grownBy w' (some W.heap.size)) (by omega) (fun W hW => ?_)).mono ?_
  · obtain ⟨b0, b1, b2, hbel, hsz⟩ := boxes3 w _ _ _ _ _ _ W hW
    have hbW := (hb.belowAll hbel).alloc (.cells #[.int .i64 0] 27)
    have hyW := (hby.below hbel).alloc (.cells #[.int .i64 0] 27)
    exact try_ok 57 _ W (fun w1 => Blk w1 a.block 5 (putN cs (a.off + (len - 4)) (le 4 (crc seed (bs.take (len - 4))).toNat) 4) ∧ (W.alloc (.cells #[.int .i64 0] 27)).grownBy w1 (some a.block)) (enter_seal _)
      (seal1_ok _ _ _ a len cap seed bs cs _ hl hcp h4 (blk_cell0 (b0.alloc _)) (blk_cell0 (b2.alloc _)) (blk_cell0 (b1.alloc _)) (by simp; omega) (by simp; omega) (by simp; omega) hs hcs hbW hyW)
      (fun w' h => (Blk.new W _ _).grown h.2 (by simp; omega))
  · rintro e w' ⟨he, W, hW, w1, ⟨hbk, hg1⟩, hg2⟩
    obtain ⟨b0, b1, b2, hbel, hsz⟩ := boxes3 w _ _ _ _ _ _ W hW
    have hba := hbel.alloc hbel.size (.cells #[.int .i64 0] 27)
    refine ⟨he, hbk.grown hg2 (by simp; omega), ?_⟩
    have h1 := only_trans (only_of_below hba (some a.block)) hg1
    exact ⟨hg2.os.trans h1.os, hg2.tape.trans h1.tape, hg2.output.trans h1.output, Nat.le_trans h1.size hg2.size, fun i hi hne => (hg2.block i (Nat.lt_of_lt_of_le hi h1.size) (by simp; omega)).trans (h1.block i hi hne)⟩

theorem sealed_any (A : Option Addr) (len cap : Nat) (seed : BitVec 32) (bs : List UInt8) (w : World) (hl : len ≤ cap) (hcp : cap ≤ 9223372036854775807) (hby : BytesAt w A len bs) :
    Calls Try.prog 20 #[.slice A len cap, .int .u32 (seed.toNat : Int)] w fun e w' => e = .returned (.bool (sealedB seed bs)) ∧ Below w.heap.size w w' := by
  have hlen := hby.len
  by_cases h4 : 4 ≤ len
  · obtain ⟨a, c, rfl, _, _⟩ := hby.at_ (k := 0) (by omega)
    have hnum := fun wx (hbx : BytesAt wx (some a) len bs) => number_any (some (a.add (len - 4))) 4 (cap - (len - 4)) (bs.drop (len - 4)) wx (by omega) (by
      have := hbx.cut (len - 4) len (by omega) (Nat.le_refl _)
      rw [show len - (len - 4) = 4 by omega, List.take_of_length_le (by rw [List.length_drop]; omega)] at this
      exact this)
    have hcrc := fun wx (hbx : BytesAt wx (some a) len bs) => crc_any seed (some a) (len - 4) cap (bs.take (len - 4)) wx (by omega) (hbx.take_ (len - 4) (by omega))
    have hdr : BytesAt w.drew (some a) len bs := hby
    have HC := Lib.hid (hcrc _ hdr)
    have HN := Lib.hid (hnum _ hdr)
    have hsb : sealedB seed bs = ((num (bs.drop (len - 4)) : Int) == ((crc seed (bs.take (len - 4))).toNat : Int)) := by
      unfold sealedB
      rw [hlen]
      simp only [h4, decide_true, Bool.true_and]
      rw [Bool.eq_iff_iff]; simp only [beq_iff_eq]; omega
    have HSB := Lib.hid hsb
    have h32 : IntKind.u64.wrap ((crc seed (bs.take (len - 4))).toNat : Int) = ((crc seed (bs.take (len - 4))).toNat : Int) := by
      have := (crc seed (bs.take (len - 4))).isLt
      rw [IntKind.wrap_u64]; omega
    have hto : ((len : Int) - 4).toNat = len - 4 := by omega
    have i0 : (0 : Int) ≤ (len : Int) - 4 := by omega
    have i1 : (len : Int) - 4 ≤ (cap : Int) := by omega
    have i2 : (4 : Int) ≤ (len : Int) := by omega
    have i3 : (len : Int) ≤ (cap : Int) + 4 := by omega
    have i4 : (len : Int) - 4 ≤ (len : Int) := by omega
    have i5 : ¬ cap = len - 4 := by omega
    have i6 : len - (len - 4) = 4 := by omega
    clear hnum hcrc hdr hsb hby
    go_enter Try.func20, Try.ntmps20
    go_wp2_with fail
    go_region_held3 (fun _ => True)
      (first | trivial)
      (first | (go_simp; go_at_call 56; refine HN.out.mono ?_; rintro e w' ⟨rfl, rfl⟩) | (go_simp; go_at_call 50; refine HC.out.mono ?_; rintro e w' ⟨rfl, rfl⟩))
    go_wp2
    go_ret
    exact ⟨ret_bool HSB.out.symm, (Below.refl _ _).drew⟩
  · have hsb : sealedB seed bs = false := by simp [sealedB, hlen]; omega
    have HSB := Lib.hid hsb
    have hd : decide ((0 : Int) ≤ (len : Int) - 4) = false := by simp; omega
    have hd3 : decide ((4 : Int) ≤ (len : Int)) = false := by simp; omega
    clear hsb
    go_enter Try.func20, Try.ntmps20
    go_wp2_with fail
    go_quiet (fail)
    go_wp2
    go_ret
    exact ⟨ret_bool HSB.out.symm, below_drewN (Below.refl _ _) _⟩
end Go.Proofs.Ytafonjnanfekkaa.Wire
