
/-
  THE WALKS of layer 1 (wire), the program's, third part: Get, Put.
-/
import Derived.Test.YtafonjnanfekkaaWire2
namespace Go.Proofs.Ytafonjnanfekkaa.Wire
open Go.RowKit
set_option maxHeartbeats 8000000
set_option maxRecDepth 100000
set_option linter.unusedVariables false
set_option linter.unusedSimpArgs false

theorem enter_get (caps : Array Value) (w : World) : (callFunc 90 caps).run Try.prog w = .ok (.enter 90 caps) w := by simp [go_sem]
theorem enter_put (caps : Array Value) (w : World) : (callFunc 91 caps).run Try.prog w = .ok (.enter 91 caps) w := by simp [go_sem]

theorem sub_bytes {w : World} {a : Addr} {len : Nat} {bs : List UInt8} {at_ n : Int} (hb : BytesAt w (some a) len bs) (hf : fits len at_ n = true) :
    BytesAt w (some (a.add at_.toNat)) n.toNat (sub bs at_ n) := by
  obtain ⟨h1, h2, h3, h4, h5⟩ := fits_true hf
  have := hb.cut at_.toNat (at_.toNat + n.toNat) (by omega) (by omega)
  rwa [Nat.add_sub_cancel_left] at this

theorem get1_ok (p0 p1 p2 p3 : Addr) (a : Addr) (len cap : Nat) (at_ n x : Int) (bs : List UInt8) (w : World) (hl : len ≤ cap) (hcp : cap ≤ 9223372036854775807) (hf : fits len at_ n = true)
    (c0 : w.cell? p0 = some (.slice (some a) len cap)) (c1 : w.cell? p1 = some (.int .i64 at_)) (c2 : w.cell? p2 = some (.int .i64 n)) (c3 : w.cell? p3 = some (.int .u64 x)) (hz : w.frozen? p3 = false) (hb : BytesAt w (some a) len bs) :
    Calls Try.prog 90 #[.pointer (some p0), .pointer (some p1), .pointer (some p2), .pointer (some p3)] w fun e w' => e = .returned (.tuple #[]) ∧ w' = w.setCell p3 (.int .u64 (num (sub bs at_ n) : Int)) := by
  have hs := sub_bytes hb hf
  have h8 : n.toNat ≤ 8 := by have := fits_true hf; omega
  have HS := Lib.hid hs
  have HF := Lib.hid hf
  clear hb hs hf
  go_enter Try.func90, Try.ntmps90
  go_wp2_with (first | (go_at_call 58; refine (part_ok _ _ _ _ _ _ hl hcp HF.out).mono ?_; rintro e w' ⟨rfl, rfl⟩) | (go_at_call 56; refine (number_any _ _ _ _ _ h8 HS.out).mono ?_; rintro e w' ⟨rfl, rfl⟩))
  go_end0
  exact ⟨rfl, rfl⟩
theorem get1_no (p0 p1 p2 p3 : Addr) (A : Option Addr) (len cap : Nat) (at_ n : Int) (w : World) (hl : len ≤ 9223372036854775807) (hf : fits len at_ n = false)
    (c0 : w.cell? p0 = some (.slice A len cap)) (c1 : w.cell? p1 = some (.int .i64 at_)) (c2 : w.cell? p2 = some (.int .i64 n)) :
    Calls Try.prog 90 #[.pointer (some p0), .pointer (some p1), .pointer (some p2), .pointer (some p3)] w fun e w' => e = .panicked [{ v := wrong 22, recovered := false }] ∧ w = w' := by
  have HF := Lib.hid hf
  clear hf
  go_enter Try.func90, Try.ntmps90
  go_wp2_with (first | (go_at_call 58; refine (part_no _ _ _ _ _ _ hl HF.out).mono ?_; rintro e w' ⟨rfl, rfl⟩))
  exact ⟨rfl, rfl, rfl⟩

/-- The four variables that a closure of Get or Put holds. -/
theorem boxes (w : World) (c0 c1 c2 c3 : Value) (t0 t1 t2 t3 : TypeId) (W : World) (hW : (((w.alloc (.cells #[c0] t0)).alloc (.cells #[c1] t1)).alloc (.cells #[c2] t2)).alloc (.cells #[c3] t3) = W) :
    Blk W w.heap.size t0 #[c0] ∧ Blk W (w.heap.size + 1) t1 #[c1] ∧ Blk W (w.heap.size + 1 + 1) t2 #[c2] ∧ Blk W (w.heap.size + 1 + 1 + 1) t3 #[c3] ∧ Below w.heap.size w W ∧ W.heap.size = w.heap.size + 1 + 1 + 1 + 1 := by
  subst hW
  refine ⟨(((Blk.new w t0 #[c0]).alloc _).alloc _).alloc _, ?_, ?_, ?_, ?_, by simp⟩
  · have := ((Blk.new (w.alloc (.cells #[c0] t0)) t1 #[c1]).alloc (.cells #[c2] t2)).alloc (.cells #[c3] t3)
    simpa using this
  · have := (Blk.new ((w.alloc (.cells #[c0] t0)).alloc (.cells #[c1] t1)) t2 #[c2]).alloc (.cells #[c3] t3)
    simpa using this
  · have := Blk.new (((w.alloc (.cells #[c0] t0)).alloc (.cells #[c1] t1)).alloc (.cells #[c2] t2)) t3 #[c3]
    simpa using this
  · exact ((((Below.refl w.heap.size w).alloc (Nat.le_refl _) _).alloc (by simp) _).alloc (by simp; omega) _).alloc (by simp; omega) _
theorem blk_cell0 {w : World} {g : Nat} {t : TypeId} {c : Value} (h : Blk w g t #[c]) : w.cell? ⟨g, 0, none⟩ = some c := h.cell 0

theorem get_any (A : Option Addr) (len cap : Nat) (at_ n : Int) (bs : List UInt8) (w : World) (hl : len ≤ cap) (hcp : cap ≤ 9223372036854775807) (hb : BytesAt w A len bs) :
    Calls Try.prog 48 #[.slice A len cap, .int .i64 at_, .int .i64 n] w fun e w' => e = .returned (.tuple #[.int .u64 (getX bs at_ n : Int), .int .i64 (getE len at_ n)]) ∧ Below w.heap.size w w' := by
  have hmf : ∀ (fn : Fn) (first cap : Array Value) (w : World), (Instr.makeFunc fn first cap).run Try.prog w = .ok (.func fn first cap) w := fun _ _ _ _ => rfl
  have hlen := hb.len
  have HBY := Lib.hid hb
  clear hb
  obtain ⟨W, hW⟩ : ∃ W, (((w.alloc (.cells #[.slice A len cap] 26)).alloc (.cells #[.int .i64 at_] 3)).alloc (.cells #[.int .i64 n] 3)).alloc (.cells #[.int .u64 0] 84) = W := ⟨_, rfl⟩
  obtain ⟨b0, b1, b2, b3, hbel, hsz⟩ := boxes w _ _ _ _ _ _ _ _ W hW
  have e0 := b0.alloc (.cells #[.int .i64 0] 27)
  have e1 := b1.alloc (.cells #[.int .i64 0] 27)
  have e2 := b2.alloc (.cells #[.int .i64 0] 27)
  have e3 := b3.alloc (.cells #[.int .i64 0] 27)
  have HW := Lib.hid hW
  have HSZ := Lib.hid hsz
  have HBEL := Lib.hid hbel
  have hbelA := hbel.alloc hbel.size (.cells #[.int .i64 0] 27)
  have HBA := Lib.hid hbelA
  clear hW hsz hbel hbelA b0 b1 b2 b3
  cases hf : fits len at_ n
  · have hx : getX bs at_ n = 0 := by simp [getX, hlen, hf]
    have he : getE len at_ n = 22 := by simp [getE, hf]
    have HX := Lib.hid hx
    have HE := Lib.hid he
    have HF := Lib.hid hf
    clear hx he hf hlen
    have hcall := get1_no ⟨w.heap.size, 0, none⟩ ⟨w.heap.size + 1, 0, none⟩ ⟨w.heap.size + 1 + 1, 0, none⟩ ⟨w.heap.size + 1 + 1 + 1, 0, none⟩ A len cap at_ n (W.alloc (.cells #[.int .i64 0] 27)) (by omega) HF.out (blk_cell0 e0) (blk_cell0 e1) (blk_cell0 e2)
    have htry := try_gives 90 _ W (fun w' => W.alloc (.cells #[.int .i64 0] 27) = w') 22 (enter_get _) hcall (fun w' h => by rw [← h]; exact Blk.new W _ _)
    have HT := Lib.hid htry
    clear htry hcall
    go_enter Try.func48, Try.ntmps48
    go_wp2_with fail
    rw [HW.out]
    refine HT.out.mono ?_
    rintro e w1 ⟨rfl, _, rfl, hg⟩
    have f3 := e3.grown hg (by rw [HSZ.out]; simp)
    have c3 := (blk_cell0 f3)
    have z3 := f3.frozen 0
    have HB := Lib.hid (below_only HBA.out hg (fun g hg => by have := HSZ.out; injection hg with hg; omega))
    clear hg e0 e1 e2 e3
    have F3 := Lib.hid f3
    clear f3
    go_wp2_with fail
    have hc4 : (w1.setCell ⟨w.heap.size + 1 + 1 + 1, 0, none⟩ (.int .u64 0)).cell? ⟨w.heap.size + 1 + 1 + 1, 0, none⟩ = some (.int .u64 0) := (F3.out.set_ 0 (.int .u64 0)).cell 0
    refine bodyPost_ret (v := .tuple #[.int .u64 0, .int .i64 22]) (by simp [results, Try.results48, go_sem, hc4]) rfl ⟨by rw [HX.out, HE.out]; rfl, HB.out.setCell (by simp; omega) _⟩
  · have hx : getX bs at_ n = num (sub bs at_ n) := by simp [getX, hlen, hf]
    have he : getE len at_ n = 0 := by simp [getE, hf]
    have hpos : 0 < len := by have := fits_true hf; omega
    obtain ⟨a, c, rfl, _, _⟩ := HBY.out.at_ hpos
    have HX := Lib.hid hx
    have HE := Lib.hid he
    have HF := Lib.hid hf
    have hba := (HBY.out.below (HBEL.out)).alloc (.cells #[.int .i64 0] 27)
    clear hx he hf hlen
    have hcall := get1_ok ⟨w.heap.size, 0, none⟩ ⟨w.heap.size + 1, 0, none⟩ ⟨w.heap.size + 1 + 1, 0, none⟩ ⟨w.heap.size + 1 + 1 + 1, 0, none⟩ a len cap at_ n 0 bs (W.alloc (.cells #[.int .i64 0] 27)) hl hcp HF.out (blk_cell0 e0) (blk_cell0 e1) (blk_cell0 e2) (blk_cell0 e3) (e3.frozen 0) hba
    obtain ⟨y, hy⟩ : ∃ y, (num (sub bs at_ n) : Int) = y := ⟨_, rfl⟩
    rw [hy] at hcall
    have HY := Lib.hid hy
    clear hy hba
    have htry := try_ok 90 _ W (fun w' => w' = (W.alloc (.cells #[.int .i64 0] 27)).setCell ⟨w.heap.size + 1 + 1 + 1, 0, none⟩ (.int .u64 y)) (enter_get _) hcall (fun w' h => by rw [h]; exact (Blk.new W _ _).far (by simp; have := HSZ.out; omega) _)
    have HT := Lib.hid htry
    clear htry hcall
    go_enter Try.func48, Try.ntmps48
    go_wp2_with fail
    rw [HW.out]
    refine HT.out.mono ?_
    rintro e w1 ⟨rfl, _, rfl, hg⟩
    have f3 := (e3.set_ 0 (.int .u64 y)).grown hg (by rw [HSZ.out]; simp)
    have c3 : w1.cell? ⟨w.heap.size + 1 + 1 + 1, 0, none⟩ = some (.int .u64 y) := f3.cell 0
    have z3 := f3.frozen 0
    have HB := Lib.hid (below_only (HBA.out.setCell (p := ⟨w.heap.size + 1 + 1 + 1, 0, none⟩) (by simp; omega) (.int .u64 y)) hg (fun g hg => by have := HSZ.out; injection hg with hg; omega))
    clear hg e0 e1 e2 e3
    have F3 := Lib.hid f3
    clear f3
    go_wp2_with fail
    have hc4 : (w1.setCell ⟨w.heap.size + 1 + 1 + 1, 0, none⟩ (.int .u64 y)).cell? ⟨w.heap.size + 1 + 1 + 1, 0, none⟩ = some (.int .u64 y) := (F3.out.set_ 0 (.int .u64 y)).cell 0
    refine bodyPost_ret (v := .tuple #[.int .u64 y, .int .i64 0]) (by simp [results, Try.results48, go_sem, hc4]) rfl ⟨by rw [HX.out, HE.out, HY.out], HB.out.setCell (by simp; omega) _⟩
end Go.Proofs.Ytafonjnanfekkaa.Wire
