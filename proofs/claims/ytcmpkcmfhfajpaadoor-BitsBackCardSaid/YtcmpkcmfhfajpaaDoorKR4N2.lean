
/-
  THE WALKS of layer 1 (wire), the program's, third part: Get, Put.
  THE WALKS of layer 1 (wire), the program's, fourth part: Put.
  THE WALKS of layer 1 (wire), the program's, fifth part: Seal, Sealed.
  THE WALKS of layer 1 (wire), the program's, sixth part: whole, Pack.
  THE WALKS of layer 1 (wire), the program's, seventh part: Pack.
  THE WALKS of layer 1 (wire), the program's, eighth part: Pack, whole.
  THE WALKS of layer 1's reference: Same; the law's sameNumbers.
  THE WALKS of layer 1's reference: Crc.
-/
import Derived.Test.YtcmpkcmfhfajpaaDoorKR4N1
import Derived.Laws.MakeOwn
import Derived.Test.YtcmpkcmfhfajpaaDoorProg
namespace Go.Proofs.YtcmpkcmfhfajpaaDoor.Wire
open Go.RowKit
set_option maxHeartbeats 8000000
set_option maxRecDepth 100000
set_option linter.unusedVariables false
set_option linter.unusedSimpArgs false

theorem sub_bytes {w : World} {a : Addr} {len : Nat} {bs : List UInt8} {at_ n : Int} (hb : BytesAt w (some a) len bs) (hf : fits len at_ n = true) :
    BytesAt w (some (a.add at_.toNat)) n.toNat (sub bs at_ n) := by
  obtain ⟨h1, h2, h3, h4, h5⟩ := fits_true hf
  have := hb.cut at_.toNat (at_.toNat + n.toNat) (by omega) (by omega)
  rwa [Nat.add_sub_cancel_left] at this

/-- The four variables that a closure of Get or Put holds. -/
theorem boxes (w : World) (c0 c1 c2 c3 : Value) (t0 t1 t2 t3 : TypeId) (W : World) (hW : (((w.alloc (.cells #[c0] t0)).alloc (.cells #[c1] t1)).alloc (.cells #[c2] t2)).alloc (.cells #[c3] t3) = W) :
    Blk W w.heap.size t0 #[c0] ∧ Blk W (w.heap.size + 1) t1 #[c1] ∧ Blk W (w.heap.size + 1 + 1) t2 #[c2] ∧ Blk W (w.heap.size + 1 + 1 + 1) t3 #[c3] ∧ Below w.heap.size w W ∧ W.heap.size = w.heap.size + 1 + 1 + 1 + 1 := by
  subst hW
  refine ⟨(((Blk.new w t0 #[c0]).alloc _).alloc _).alloc _, ?_, ?_, ?_, ?_, by simp⟩
  · have := ((Blk.new (w.alloc (.cells #[c0] t0)) t1 #[c1]).alloc (.cells #[c2] t2)).alloc (.cells #[c3] t3)
    simpa using this
  · have := (Blk.new ((w.alloc (.cells #[c0] t0)).alloc (.cells #[c1] t1)) t2 #[c2]).alloc (.cells #[c3] t3)
    simpa using this
  · have := Blk.new (((w.alloc (.cells #[c0] t0)).alloc (.cells #[c1] t1)).alloc (.cells #[c2] t2)) t3 #[c3]
    simpa using this
  · exact ((((Below.refl w.heap.size w).alloc (Nat.le_refl _) _).alloc (by simp) _).alloc (by simp; omega) _).alloc (by simp; omega) _
theorem blk_cell0 {w : World} {g : Nat} {t : TypeId} {c : Value} (h : Blk w g t #[c]) : w.cell? ⟨g, 0, none⟩ = some c := h.cell 0

end Go.Proofs.YtcmpkcmfhfajpaaDoor.Wire

namespace Go.Proofs.YtcmpkcmfhfajpaaDoor.Wire
open Go.RowKit
set_option maxHeartbeats 8000000
set_option maxRecDepth 100000
set_option linter.unusedVariables false
set_option linter.unusedSimpArgs false

theorem only_of_drew {w w' : World} {row : Option Nat} (h : w.drew.grownBy w' row) : w.grownBy w' row := ⟨h.os, h.tape, h.output, h.size, h.block⟩

end Go.Proofs.YtcmpkcmfhfajpaaDoor.Wire

namespace Go.Proofs.YtcmpkcmfhfajpaaDoor.Wire
open Go.RowKit
set_option maxHeartbeats 8000000
set_option maxRecDepth 100000
set_option linter.unusedVariables false
set_option linter.unusedSimpArgs false

theorem enter_seal (caps : Array Value) (w : World) : (callFunc 44 caps).run Tryd.prog w = .ok (.enter 44 caps) w := by simp [go_sem]
theorem boxes3 (w : World) (c0 c1 c2 : Value) (t0 t1 t2 : TypeId) (W : World) (hW : ((w.alloc (.cells #[c0] t0)).alloc (.cells #[c1] t1)).alloc (.cells #[c2] t2) = W) :
    Blk W w.heap.size t0 #[c0] ∧ Blk W (w.heap.size + 1) t1 #[c1] ∧ Blk W (w.heap.size + 1 + 1) t2 #[c2] ∧ Below w.heap.size w W ∧ W.heap.size = w.heap.size + 1 + 1 + 1 := by
  subst hW
  refine ⟨((Blk.new w t0 #[c0]).alloc _).alloc _, ?_, ?_, ?_, by simp⟩
  · have := (Blk.new (w.alloc (.cells #[c0] t0)) t1 #[c1]).alloc (.cells #[c2] t2)
    simpa using this
  · have := Blk.new ((w.alloc (.cells #[c0] t0)).alloc (.cells #[c1] t1)) t2 #[c2]
    simpa using this
  · exact (((Below.refl w.heap.size w).alloc (Nat.le_refl _) _).alloc (by simp) _).alloc (by simp; omega) _

theorem fits4 {len : Nat} (h : 4 ≤ len) : fits len ((len : Int) - 4) 4 = true := fits_mk (by omega) (by omega) (by omega) (by omega)
theorem fits4_no {len : Nat} (h : ¬ 4 ≤ len) : fits len ((len : Int) - 4) 4 = false := by
  cases e : fits len ((len : Int) - 4) 4
  · rfl
  · have := fits_true e; omega

theorem seal1_ok (p0 p1 p2 : Addr) (a : Addr) (len cap : Nat) (seed : BitVec 32) (bs : List UInt8) (cs : Array Value) (w : World) (hl : len ≤ cap) (hcp : cap ≤ 9223372036854775807) (h4 : 4 ≤ len)
    (c0 : w.cell? p0 = some (.slice (some a) len cap)) (c1 : w.cell? p1 = some (.int .i64 ((len : Int) - 4))) (c2 : w.cell? p2 = some (.int .u32 (seed.toNat : Int)))
    (n0 : p0.block ≠ a.block) (n1 : p1.block ≠ a.block) (n2 : p2.block ≠ a.block)
    (hs : a.spot = none) (hcs : a.off + len ≤ cs.size) (hb : Blk w a.block 5 cs) (hby : BytesAt w (some a) len bs) :
    Calls Tryd.prog 44 #[.pointer (some p0), .pointer (some p1), .pointer (some p2)] w fun e w' => e = .returned (.tuple #[]) ∧
      Blk w' a.block 5 (putN cs (a.off + (len - 4)) (le 4 (crc seed (bs.take (len - 4))).toNat) 4) ∧ w.grownBy w' (some a.block) := by
  have hto : ((len : Int) - 4).toNat = len - 4 := by omega
  have hpart := part_ok a len cap ((len : Int) - 4) 4 w hl hcp (fits4 h4)
  rw [hto] at hpart
  have hx : (crc seed (bs.take (len - 4))).toNat < 256 ^ 4 := (crc seed (bs.take (len - 4))).isLt
  have hlay := fun wx (hbx : Blk wx a.block 5 cs) => lay_yes (a.add (len - 4)) 4 (cap - (len - 4)) (crc seed (bs.take (len - 4))).toNat cs wx (by omega) (by omega) hx (by rw [add_spot hs]) (by rw [add_spot hs]; simp only; omega) (by rw [block_of_add]; exact hbx)
  rw [block_of_add, show (a.add (len - 4)).off = a.off + (len - 4) by rw [add_spot hs]] at hlay
  have hcrc := fun wx (hbx : BytesAt wx (some a) len bs) => crc_any seed (some a) (len - 4) cap (bs.take (len - 4)) wx (by omega) (hbx.take_ (len - 4) (by omega))
  have hdr : BytesAt w.drew (some a) len bs := hby
  have HC := Lib.hid (hcrc _ hdr)
  have HL := Lib.hid (hlay _ hb.drew)
  have HP := Lib.hid hpart
  have h32 : IntKind.u64.wrap ((crc seed (bs.take (len - 4))).toNat : Int) = ((crc seed (bs.take (len - 4))).toNat : Int) := by
    have := (crc seed (bs.take (len - 4))).isLt
    rw [IntKind.wrap_u64]; omega
  have i0 : (0 : Int) ≤ (len : Int) - 4 := by omega
  have i1 : (len : Int) - 4 ≤ (cap : Int) := by omega
  have i2 : (4 : Int) ≤ (len : Int) := by omega
  have i3 : (len : Int) ≤ (cap : Int) + 4 := by omega
  clear hlay hpart hb hcs hs hx hcrc hby hdr
  go_enter Tryd.func44, Tryd.ntmps44
  go_wp2_with (go_at_call 45; refine HP.out.mono ?_; rintro e w' ⟨rfl, rfl⟩)
  go_region_held3 (fun w' => w'.cell? p0 = some (.slice (some a) len cap) ∧ w'.cell? p1 = some (.int .i64 ((len : Int) - 4)) ∧ w'.cell? p2 = some (.int .u32 (seed.toNat : Int)))
    (first | go_keep | (refine ⟨?_, ?_, ?_⟩ <;> (rw [hg.cell_far _ (by first | exact World.block_lt_of_cell? w _ c0 | exact World.block_lt_of_cell? w _ c1 | exact World.block_lt_of_cell? w _ c2) (by simpa)]; assumption)))
    (first | (go_simp; go_at_call 47; refine HC.out.mono ?_; rintro e w' ⟨rfl, rfl⟩) | (go_simp; go_at_call 46; refine HL.out.mono ?_; rintro e w' ⟨rfl, hbk, hg⟩))
  go_end0
  exact ⟨rfl, hbk, only_of_drew hg⟩

theorem seal1_no (p0 p1 p2 : Addr) (A : Option Addr) (len cap : Nat) (w : World) (hl : len ≤ 9223372036854775807) (h4 : ¬ 4 ≤ len)
    (c0 : w.cell? p0 = some (.slice A len cap)) (c1 : w.cell? p1 = some (.int .i64 ((len : Int) - 4))) :
    Calls Tryd.prog 44 #[.pointer (some p0), .pointer (some p1), .pointer (some p2)] w fun e w' => e = .panicked [{ v := wrong 22, recovered := false }] ∧ w = w' := by
  have HP := Lib.hid (part_no A len cap ((len : Int) - 4) 4 w hl (fits4_no h4))
  go_enter Tryd.func44, Tryd.ntmps44
  go_wp2_with (go_at_call 45; refine HP.out.mono ?_; rintro e w' ⟨rfl, rfl⟩)
  exact ⟨rfl, rfl, rfl⟩

theorem seal_of (A : Option Addr) (len cap : Nat) (seed : BitVec 32) (c : Int) (w : World) (R : World → World → Prop) (hl : len ≤ 9223372036854775807)
    (h : ∀ W, ((w.alloc (.cells #[.slice A len cap] 22)).alloc (.cells #[.int .u32 (seed.toNat : Int)] 31)).alloc (.cells #[.int .i64 ((len : Int) - 4)] 3) = W →
      Calls Tryd.prog 43 #[.func (.func 44) #[] #[.pointer (some ⟨w.heap.size, 0, none⟩), .pointer (some ⟨w.heap.size + 1 + 1, 0, none⟩), .pointer (some ⟨w.heap.size + 1, 0, none⟩)]] W
        fun e w' => e = .returned (.int .i64 c) ∧ R W w') :
    Calls Tryd.prog 34 #[.slice A len cap, .int .u32 (seed.toNat : Int)] w fun e w' => e = .returned (.int .i64 c) ∧
      ∃ W, ((w.alloc (.cells #[.slice A len cap] 22)).alloc (.cells #[.int .u32 (seed.toNat : Int)] 31)).alloc (.cells #[.int .i64 ((len : Int) - 4)] 3) = W ∧ R W w' := by
  have hmf : ∀ (fn : Fn) (first cap : Array Value) (w : World), (Instr.makeFunc fn first cap).run Tryd.prog w = .ok (.func fn first cap) w := fun _ _ _ _ => rfl
  have H := Lib.hid (h _ rfl)
  clear h
  go_enter Tryd.func34, Tryd.ntmps34
  go_wp2_with fail
  refine H.out.mono ?_
  rintro e w1 ⟨rfl, hr⟩
  have HR := Lib.hid hr
  clear hr
  go_wp2_with fail
  go_ret
  exact ⟨rfl, _, rfl, HR.out⟩

theorem seal_no (A : Option Addr) (len cap : Nat) (seed : BitVec 32) (w : World) (hl : len ≤ 9223372036854775807) (h4 : ¬ 4 ≤ len) :
    Calls Tryd.prog 34 #[.slice A len cap, .int .u32 (seed.toNat : Int)] w fun e w' => e = .returned (.int .i64 22) ∧ Below w.heap.size w w' := by
  refine (seal_of A len cap seed 22 w (fun W w' => (W.alloc (.cells #[.int .i64 0] 32)).grownBy w' (some W.heap.size)) hl (fun W hW => ?_)).mono ?_
  · obtain ⟨b0, b1, b2, hbel, hsz⟩ := boxes3 w _ _ _ _ _ _ W hW
    refine (try_gives 44 _ W (fun w' => W.alloc (.cells #[.int .i64 0] 32) = w') 22 (enter_seal _) (seal1_no _ _ _ A len cap _ hl h4 (blk_cell0 (b0.alloc _)) (blk_cell0 (b2.alloc _))) (fun w' h => by rw [← h]; exact Blk.new W _ _)).mono ?_
    rintro e w' ⟨he, w1, rfl, hg⟩
    exact ⟨he, hg⟩
  · rintro e w' ⟨he, W, hW, hg⟩
    obtain ⟨b0, b1, b2, hbel, hsz⟩ := boxes3 w _ _ _ _ _ _ W hW
    exact ⟨he, below_only (hbel.alloc hbel.size _) hg (fun g hg => by injection hg with hg; omega)⟩

theorem seal_ok (a : Addr) (len cap : Nat) (seed : BitVec 32) (bs : List UInt8) (cs : Array Value) (w : World) (hl : len ≤ cap) (hcp : cap ≤ 9223372036854775807) (h4 : 4 ≤ len)
    (hs : a.spot = none) (hcs : a.off + len ≤ cs.size) (hb : Blk w a.block 5 cs) (hby : BytesAt w (some a) len bs) :
    Calls Tryd.prog 34 #[.slice (some a) len cap, .int .u32 (seed.toNat : Int)] w fun e w' => e = .returned (.int .i64 0) ∧
      Blk w' a.block 5 (putN cs (a.off + (len - 4)) (le 4 (crc seed (bs.take (len - 4))).toNat) 4) ∧ w.grownBy w' (some a.block) := by
  have hlt := hb.lt
  refine (seal_of (some a) len cap seed 0 w (fun W w' => ∃ w1, (Blk w1 a.block 5 (putN cs (a.off + (len - 4)) (le 4 (crc seed (bs.take (len - 4))).toNat) 4) ∧ (W.alloc (.cells #[.int .i64 0] 32)).grownBy w1 (some a.block)) ∧ w1.grownBy w' (some W.heap.size)) (by omega) (fun W hW => ?_)).mono ?_
  · obtain ⟨b0, b1, b2, hbel, hsz⟩ := boxes3 w _ _ _ _ _ _ W hW
    have hbW := (hb.belowAll hbel).alloc (.cells #[.int .i64 0] 32)
    have hyW := (hby.below hbel).alloc (.cells #[.int .i64 0] 32)
    exact try_ok 44 _ W (fun w1 => Blk w1 a.block 5 (putN cs (a.off + (len - 4)) (le 4 (crc seed (bs.take (len - 4))).toNat) 4) ∧ (W.alloc (.cells #[.int .i64 0] 32)).grownBy w1 (some a.block)) (enter_seal _)
      (seal1_ok _ _ _ a len cap seed bs cs _ hl hcp h4 (blk_cell0 (b0.alloc _)) (blk_cell0 (b2.alloc _)) (blk_cell0 (b1.alloc _)) (by simp; omega) (by simp; omega) (by simp; omega) hs hcs hbW hyW)
      (fun w' h => (Blk.new W _ _).grown h.2 (by simp; omega))
  · rintro e w' ⟨he, W, hW, w1, ⟨hbk, hg1⟩, hg2⟩
    obtain ⟨b0, b1, b2, hbel, hsz⟩ := boxes3 w _ _ _ _ _ _ W hW
    have hba := hbel.alloc hbel.size (.cells #[.int .i64 0] 32)
    refine ⟨he, hbk.grown hg2 (by simp; omega), ?_⟩
    have h1 := only_trans (only_of_below hba (some a.block)) hg1
    exact ⟨hg2.os.trans h1.os, hg2.tape.trans h1.tape, hg2.output.trans h1.output, Nat.le_trans h1.size hg2.size, fun i hi hne => (hg2.block i (Nat.lt_of_lt_of_le hi h1.size) (by simp; omega)).trans (h1.block i hi hne)⟩

theorem sealed_any (A : Option Addr) (len cap : Nat) (seed : BitVec 32) (bs : List UInt8) (w : World) (hl : len ≤ cap) (hcp : cap ≤ 9223372036854775807) (hby : BytesAt w A len bs) :
    Calls Tryd.prog 37 #[.slice A len cap, .int .u32 (seed.toNat : Int)] w fun e w' => e = .returned (.bool (sealedB seed bs)) ∧ Below w.heap.size w w' := by
  have hlen := hby.len
  by_cases h4 : 4 ≤ len
  · obtain ⟨a, c, rfl, _, _⟩ := hby.at_ (k := 0) (by omega)
    have hnum := fun wx (hbx : BytesAt wx (some a) len bs) => number_any (some (a.add (len - 4))) 4 (cap - (len - 4)) (bs.drop (len - 4)) wx (by omega) (by
      have := hbx.cut (len - 4) len (by omega) (Nat.le_refl _)
      rw [show len - (len - 4) = 4 by omega, List.take_of_length_le (by rw [List.length_drop]; omega)] at this
      exact this)
    have hcrc := fun wx (hbx : BytesAt wx (some a) len bs) => crc_any seed (some a) (len - 4) cap (bs.take (len - 4)) wx (by omega) (hbx.take_ (len - 4) (by omega))
    have hdr : BytesAt w.drew (some a) len bs := hby
    have HC := Lib.hid (hcrc _ hdr)
    have HN := Lib.hid (hnum _ hdr)
    have hsb : sealedB seed bs = ((num (bs.drop (len - 4)) : Int) == ((crc seed (bs.take (len - 4))).toNat : Int)) := by
      unfold sealedB
      rw [hlen]
      simp only [h4, decide_true, Bool.true_and]
      rw [Bool.eq_iff_iff]; simp only [beq_iff_eq]; omega
    have HSB := Lib.hid hsb
    have h32 : IntKind.u64.wrap ((crc seed (bs.take (len - 4))).toNat : Int) = ((crc seed (bs.take (len - 4))).toNat : Int) := by
      have := (crc seed (bs.take (len - 4))).isLt
      rw [IntKind.wrap_u64]; omega
    have hto : ((len : Int) - 4).toNat = len - 4 := by omega
    have i0 : (0 : Int) ≤ (len : Int) - 4 := by omega
    have i1 : (len : Int) - 4 ≤ (cap : Int) := by omega
    have i2 : (4 : Int) ≤ (len : Int) := by omega
    have i3 : (len : Int) ≤ (cap : Int) + 4 := by omega
    have i4 : (len : Int) - 4 ≤ (len : Int) := by omega
    have i5 : ¬ cap = len - 4 := by omega
    have i6 : len - (len - 4) = 4 := by omega
    clear hnum hcrc hdr hsb hby
    go_enter Tryd.func37, Tryd.ntmps37
    go_wp2_with fail
    go_region_held3 (fun _ => True)
      (first | trivial)
      (first | (go_simp; go_at_call 49; refine HN.out.mono ?_; rintro e w' ⟨rfl, rfl⟩) | (go_simp; go_at_call 47; refine HC.out.mono ?_; rintro e w' ⟨rfl, rfl⟩))
    go_wp2
    go_ret
    exact ⟨ret_bool HSB.out.symm, (Below.refl _ _).drew⟩
  · have hsb : sealedB seed bs = false := by simp [sealedB, hlen]; omega
    have HSB := Lib.hid hsb
    have hd : decide ((0 : Int) ≤ (len : Int) - 4) = false := by simp; omega
    have hd3 : decide ((4 : Int) ≤ (len : Int)) = false := by simp; omega
    clear hsb
    go_enter Tryd.func37, Tryd.ntmps37
    go_wp2_with fail
    go_quiet (fail)
    go_wp2
    go_ret
    exact ⟨ret_bool HSB.out.symm, below_drewN (Below.refl _ _) _⟩
end Go.Proofs.YtcmpkcmfhfajpaaDoor.Wire

namespace Go.Proofs.YtcmpkcmfhfajpaaDoor.Wire
open Go.RowKit
set_option maxHeartbeats 8000000
set_option maxRecDepth 100000
set_option linter.unusedVariables false
set_option linter.unusedSimpArgs false

/-- Bytes, and noughts behind them. -/
def roomOf (bs : List UInt8) (size : Nat) : Array Value := (bvl (bs ++ List.replicate (size - bs.length) 0)).toArray
theorem roomOf_size {bs : List UInt8} {size : Nat} (h : bs.length ≤ size) : (roomOf bs size).size = size := by
  simp [roomOf, bvl]; omega
theorem roomOf_nil (size : Nat) : madeCells (Value.int .u8 0).cells size = roomOf [] size := by
  apply Array.ext
  · rw [size_madeCells, roomOf_size (by simp)]
  · intro i h1 h2
    simp [madeCells, roomOf, bvl, bval, Value.cells]
    rw [Nat.mod_one]; rfl
theorem roomOf_put {bs new : List UInt8} {size : Nat} (h : bs.length + new.length ≤ size) : putN (roomOf bs size) bs.length new new.length = roomOf (bs ++ new) size := by
  apply Array.ext_getElem?
  intro j
  rw [putN_get _ _ _ _ _ (by rw [roomOf_size (by omega)]; omega)]
  simp only [roomOf, List.getElem?_toArray, bvl_get]
  by_cases h1 : bs.length ≤ j ∧ j < bs.length + new.length
  · rw [if_pos h1, List.getElem?_append_left (by simp; omega), List.getElem?_append_right (by omega), List.getD_eq_getElem?_getD, List.getElem?_eq_getElem (by omega : j - bs.length < new.length)]
    simp
  · rw [if_neg h1]
    by_cases h2 : j < bs.length
    · rw [List.getElem?_append_left h2, List.append_assoc, List.getElem?_append_left h2]
    · rw [List.getElem?_append_right (by omega), List.getElem?_append_right (by simp; omega)]
      simp only [List.length_append, List.getElem?_replicate]
      by_cases h3 : j < size
      · rw [if_pos (by omega), if_pos (by omega)]
      · rw [if_neg (by omega), if_neg (by omega)]

end Go.Proofs.YtcmpkcmfhfajpaaDoor.Wire

namespace Go.Proofs.YtcmpkcmfhfajpaaDoor.Wire
open Go.RowKit
set_option maxHeartbeats 16000000
set_option maxRecDepth 100000
set_option linter.unusedVariables false
set_option linter.unusedSimpArgs false

theorem info_u8 : (Tryd.prog.info? 5).map (fun i => (i.zero, i.size, i.bytes)) = some (some (.int .u8 0), 1, 1) := by kernel_rfl
theorem make_bytes (N : Nat) (hN : N ≤ 140737488355328) (w : World) :
    (Instr.makeSlice 22 (.int .i64 (N : Int)) (.int .i64 (N : Int))).run Tryd.prog w = .ok (.slice (some ⟨w.heap.size, 0, none⟩) N N) (w.alloc (.cells (roomOf [] N) 5)) := by
  obtain ⟨i0, hi, hz0, hz1, hz2⟩ := info_parts info_u8
  have := run_make (P := Tryd.prog) w 22 5 i0 (.int .u8 0) Tryd.underlying22 hi hz0 .i64 .i64 N N (by omega) (by omega) (by rw [hz2]; omega) (by omega)
  rw [hz1, Nat.mul_one, Int.toNat_natCast, roomOf_nil] at this
  exact this

/-- The loop of Pack: what each round keeps. -/
def PackR (W0 : World) (g N : Nat) (l : List Nat) (ws : List Int) (k : Nat) (wr : World) : Prop :=
  Blk wr g 5 (roomOf (pre l ws k) N) ∧ W0.grownBy wr (some g)

theorem pre_zero (l : List Nat) (ws : List Int) : pre l ws 0 = [] := by cases l <;> cases ws <;> rfl

end Go.Proofs.YtcmpkcmfhfajpaaDoor.Wire

namespace Go.Proofs.YtcmpkcmfhfajpaaDoor.Wire
open Go.RowKit
set_option maxHeartbeats 16000000
set_option maxRecDepth 100000
set_option linter.unusedVariables false
set_option linter.unusedSimpArgs false

end Go.Proofs.YtcmpkcmfhfajpaaDoor.Wire

namespace Go.Proofs.YtcmpkcmfhfajpaaDoor.Wire
open Go.RowKit
set_option maxHeartbeats 8000000
set_option maxRecDepth 100000
set_option linter.unusedVariables false
set_option linter.unusedSimpArgs false

theorem take_ne {α : Type} {x y : List α} {k : Nat} {c d : α} (hx : x[k]? = some c) (hy : y[k]? = some d) (h : c ≠ d) : x ≠ y := by
  rintro rfl; rw [hx] at hy; injection hy with hy; exact h hy
theorem take_eq {α : Type} {x y : List α} {k : Nat} {c : α} (hx : x[k]? = some c) (hy : y[k]? = some c) (h : x.take k = y.take k) : x.take (k + 1) = y.take (k + 1) := by
  rw [List.take_add_one, List.take_add_one, hx, hy, h]
theorem take_all {α : Type} {x y : List α} {n : Nat} (hx : x.length = n) (hy : y.length = n) (h : x.take n = y.take n) : x = y := by
  rw [List.take_of_length_le (by omega), List.take_of_length_le (by omega)] at h; exact h

theorem same_any (A B : Option Addr) (n m ca cb : Nat) (x y : List UInt8) (w : World) (hn : n ≤ 1125899906842624000) (ha : BytesAt w A n x) (hb : BytesAt w B m y) :
    Calls Tryd.prog 19 #[.slice A n ca, .slice B m cb] w fun e w' => e = .returned (.bool (x == y)) ∧ ∃ k, w' = w.drewN k := by
  have lx : x.length = n := by have := ha.len; exact this
  have ly : y.length = m := by have := hb.len; exact this
  by_cases hnm : n = m
  · subst hnm
    have HA := Lib.hid ha
    have HB := Lib.hid hb
    have HL := Lib.hid (And.intro lx ly)
    clear ha hb lx ly
    go_enter Tryd.func19, Tryd.ntmps19
    go_wp2_with fail
    go_loopw [5] (fun i wr => ∃ k : Nat, k ≤ n ∧ i = .int .i64 k ∧ x.take k = y.take k ∧ ∃ q, wr = w.drewN q) (fun i _ => n - (intOf i).toNat)
    case atStart => exact ⟨0, by omega, rfl, by simp, 0, rfl⟩
    case round =>
      obtain ⟨k, hk, rfl, htk, q, rfl⟩ := hrel
      have HT := Lib.hid htk
      clear htk
      by_cases hlt : k < n
      · obtain ⟨a, c, rfl, hx, hc⟩ := HA.out.at_ hlt
        obtain ⟨b, d, rfl, hy, hd⟩ := HB.out.at_ hlt
        have HX := Lib.hid hx
        have HY := Lib.hid hy
        clear hx hy
        by_cases hcd : c = d
        · subst hcd
          have hq : ((c.toNat : Int) != (c.toNat : Int)) = false := by simp
          go_wp2_with fail
          go_quiet (fail)
          go_wp2_with fail
          go_roundw
          case rel => exact ⟨k + 1, by omega, by go_num, take_eq HX.out HY.out HT.out, _, by first | rfl | rw [World.drewN_drewN]⟩
          case measure => simp [intOf]; omega
        · have hq : ((c.toNat : Int) != (d.toNat : Int)) = true := by
            simp only [bne_iff_ne, ne_eq]
            intro h; exact hcd (UInt8.toNat_inj.mp (by omega))
          have hxy := take_ne HX.out HY.out hcd
          go_wp2_with fail
          go_quiet (fail)
          go_wp2_with fail
          go_ret
          exact ⟨ret_bool (by simpa using hxy), _, by first | rfl | rw [World.drewN_drewN]⟩
      · obtain rfl : k = n := by omega
        have hxy := take_all HL.out.1 HL.out.2 HT.out
        go_wp2_with fail
        go_ret
        exact ⟨ret_bool (by simpa using hxy), _, by first | rfl | rw [World.drewN_drewN]⟩
  · have hd : ((n : Int) != (m : Int)) = true := by simp; omega
    have hxy : x ≠ y := by rintro rfl; omega
    have HXY := Lib.hid hxy
    clear hxy hnm ha hb
    go_enter Tryd.func19, Tryd.ntmps19
    go_wp2_with fail
    go_ret
    exact ⟨ret_bool (by simpa using HXY.out), 0, rfl⟩

end Go.Proofs.YtcmpkcmfhfajpaaDoor.Wire

namespace Go.Proofs.YtcmpkcmfhfajpaaDoor.Wire
open Go.RowKit
set_option maxHeartbeats 8000000
set_option maxRecDepth 100000
set_option linter.unusedVariables false
set_option linter.unusedSimpArgs false

attribute [local irreducible] stpN

theorem rem2 (a : BitVec 32) : (Int.tmod (a.toNat : Int) 2 == 1) = a.getLsbD 0 := by
  have h : Int.tmod (a.toNat : Int) 2 = ((a.toNat % 2 : Nat) : Int) := by rw [Int.tmod_eq_emod_of_nonneg (by omega)]; omega
  rw [h, BitVec.getLsbD, Nat.testBit_zero]
  rcases Nat.mod_two_eq_zero_or_one a.toNat with e | e <;> simp [e]
theorem rem2e (a : BitVec 32) : (((a.toNat : Int) % 2) == 1) = a.getLsbD 0 := by
  have h : (a.toNat : Int) % 2 = ((a.toNat % 2 : Nat) : Int) := by omega
  rw [h, BitVec.getLsbD, Nat.testBit_zero]
  rcases Nat.mod_two_eq_zero_or_one a.toNat with e | e <;> simp [e]

theorem ref_crc (s : BitVec 32) (A : Option Addr) (n cap : Nat) (bs : List UInt8) (w : World) (hn : n ≤ 9223372036854775807) (hb : BytesAt w A n bs) :
    Calls Tryd.prog 51 #[.int .u32 (s.toNat : Int), .slice A n cap] w fun e w' => e = .returned (.int .u32 ((crc s bs).toNat : Int)) ∧ w = w' := by
  have HBY := Lib.hid hb
  clear hb
  have hsg : IntKind.u32.signed = false := rfl
  have hnot := u32_not s
  go_enter Tryd.func51, Tryd.ntmps51
  go_wp2_with fail
  go_loop [5, 6] (fun x i => ∃ k : Nat, k ≤ n ∧ i = .int .i64 k ∧ x = .int .u32 ((crcF (~~~ s) (bs.take k)).toNat : Int)) (fun _ i => n - (intOf i).toNat)
  case atStart => exact ⟨0, by omega, rfl, by rw [List.take_zero, crcF_nil]; simp⟩
  case round =>
    clear hnot
    obtain ⟨k, hk, rfl, rfl⟩ := hrel
    by_cases hlt : k < n
    · obtain ⟨a, c, rfl, hx, hc⟩ := HBY.out.at_ hlt
      have hs : crcF (~~~ s) (bs.take (k + 1)) = stpN 8 (xb (crcF (~~~ s) (bs.take k)) c) := by
        rw [List.take_add_one, hx]; exact crcF_snoc _ _ _
      have HS := Lib.hid hs
      have HX := Lib.hid hx
      clear hs hx
      generalize crcF (~~~ s) (bs.take k) = y at HS ⊢
      have q1 := u32_xb y c
      have c1 : (c.toNat : Int) < 256 := by have := c.toNat_lt; omega
      have c2 : (y.toNat : Int) < 4294967296 := by have := y.isLt; omega
      go_wp2_with fail
      clear q1
      generalize xb y c = z at HS ⊢
      go_loop [5, 7] (fun x i => ∃ j : Nat, j ≤ 8 ∧ i = .int .i64 j ∧ x = .int .u32 ((stpN j z).toNat : Int)) (fun _ i => 8 - (intOf i).toNat)
      case atStart => exact ⟨0, by omega, rfl, by rw [stpN_zero]⟩
      case round =>
        obtain ⟨j, hj, rfl, rfl⟩ := hrel
        by_cases hj8 : (j : Int) < 8
        · have h0 := rem2 (stpN j z)
          have h0' := rem2e (stpN j z)
          have h1 : ((stpN j z).toNat : Int) < 4294967296 := by have := (stpN j z).isLt; omega
          have hp : bits .xor .u32 (((stpN j z).toNat : Int) / 2) 2197175160 = (((stpN j z >>> 1) ^^^ poly).toNat : Int) := by
            rw [u32_half]; exact u32_xor (stpN j z >>> 1) poly
          have hs := stpN_succ j z
          have hq := u32_half (stpN j z)
          have HS2 := Lib.hid hs
          have HP := Lib.hid hp
          have HQ := Lib.hid hq
          clear hs hp hq
          cases hb : (stpN j z).getLsbD 0
          · rw [hb] at h0 h0'
            have HB := Lib.hid hb
            clear hb
            go_wp2_with fail
            go_round
            case rel => exact ⟨j + 1, by omega, by go_num, by rw [HQ.out, HS2.out, HB.out]; simp⟩
            case measure => simp [intOf]; omega
          · rw [hb] at h0 h0'
            have HB := Lib.hid hb
            clear hb
            go_wp2_with fail
            go_round
            case rel => exact ⟨j + 1, by omega, by go_num, by rw [HP.out, HS2.out, HB.out]; simp⟩
            case measure => simp [intOf]; omega
        · obtain rfl : j = 8 := by omega
          go_wp2_with fail
          go_round
          case rel => exact ⟨k + 1, by omega, by go_num, by rw [HS.out]⟩
          case measure => simp [intOf]; omega
    · obtain rfl : k = n := by omega
      have hs : bs.take k = bs := List.take_of_length_le (by have := HBY.out.len; omega)
      rw [hs]
      have hcr := crc_eq s bs
      have HC := Lib.hid hcr
      clear hs hcr
      generalize crcF (~~~ s) bs = y at HC ⊢
      have hnot := u32_not y
      go_wp2_with fail
      go_ret
      exact ⟨ret_int (by rw [HC.out]; simp), rfl⟩
end Go.Proofs.YtcmpkcmfhfajpaaDoor.Wire
