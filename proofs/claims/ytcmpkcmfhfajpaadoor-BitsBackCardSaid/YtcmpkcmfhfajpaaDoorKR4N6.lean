
/-
  THE WALKS of bits.Orders, bits.Find.
  THE WALK of bits.Find.
  THE WALKS of the document's Set, Test, Check, Zeros.
  THE WALKS of the document's free, Buddy.
  THE WALKS of the document's Orders, Find.
  THE WALK of the document's Find.
  THE WALKS of the document's bytes (bits put into bytes, sealed), New, Turn.
  THE WALK of the document's Turn.
-/
import Derived.Test.YtcmpkcmfhfajpaaDoorKR4N5
import Derived.Test.YtcmpkcmfhfajpaaDoorKR4N4
namespace Go.Proofs.YtcmpkcmfhfajpaaDoor.Bits
open Go.RowKit Go.Proofs.YtcmpkcmfhfajpaaDoor.Wire
set_option maxHeartbeats 16000000
set_option maxRecDepth 100000
set_option linter.unusedVariables false
set_option linter.unusedSimpArgs false

theorem field_counts (t : T) (h1 : t.1.length = 11) (h2 : t.2.length = 11) (w : World) : (Instr.field 46 (.agg (tc t)) 1).run Tryd.prog w = .ok (.agg (ints t.2).toArray) w := by
  obtain ⟨l1, l2⟩ := t
  obtain ⟨x0, x1, x2, x3, x4, x5, x6, x7, x8, x9, x10, rfl⟩ := eleven h1
  obtain ⟨y0, y1, y2, y3, y4, y5, y6, y7, y8, y9, y10, rfl⟩ := eleven h2
  kernel_rfl
theorem ends_orders {w wf : World} {bs : List UInt8} {l : List Int} (hl : l.length = 11) (hk : Blk wf w.heap.size 27 (ints l).toArray) (hb : Below w.heap.size w wf) (a : Act) (ha : a.defers = []) (ht : a.tmps.getD 2 undef = .pointer (some ⟨w.heap.size, 0, none⟩)) :
    bodyPost Tryd.prog Tryd.f15 (fun e w' => e = .returned (.agg (ints l).toArray) ∧ Below w.heap.size w w') .ret a wf :=
  bodyPost_ret (results_cell_row (P := Tryd.prog) (fn := Tryd.f15) (p := 2) (ty := 27) rfl a.tmps wf w.heap.size 27 (ints l).toArray (0, 0) _ ht hk Tryd.underlying27 rfl (by rw [show (ints l).toArray.size = 11 by simp [ints, hl]]; kernel_rfl)) ha ⟨rfl, hb⟩
theorem orders_any (A : Option Addr) (n c : Nat) (bs : List UInt8) (w : World) (hb : BytesAt w A n bs) (hT : Tab w) :
    Calls Tryd.prog 15 #[.slice A n c] w fun e w' => e = .returned (.agg (ints (bo (setN bs)).2).toArray) ∧ Below w.heap.size w w' := by
  obtain ⟨W, hW⟩ : ∃ W, w.alloc (.cells #[.int .i64 0, .int .i64 0, .int .i64 0, .int .i64 0, .int .i64 0, .int .i64 0, .int .i64 0, .int .i64 0, .int .i64 0, .int .i64 0, .int .i64 0] 27) = W := ⟨_, rfl⟩
  have hbel : Below w.heap.size w W := by rw [← hW]; exact (Below.refl w.heap.size w).alloc (Nat.le_refl _) _
  have hb0 : Blk W w.heap.size 27 #[.int .i64 0, .int .i64 0, .int .i64 0, .int .i64 0, .int .i64 0, .int .i64 0, .int .i64 0, .int .i64 0, .int .i64 0, .int .i64 0, .int .i64 0] := by rw [← hW]; exact Blk.new w _ _
  have HC := Lib.hid (buddiesOf_any A n c bs W (hb.below hbel) (hT.below hbel))
  have HW := Lib.hid hW
  have HB := Lib.hid hbel
  have K0 := Lib.hid hb0
  obtain ⟨t, ht⟩ : ∃ t, bo (setN bs) = t := ⟨_, rfl⟩
  have hl1 : t.1.length = 11 := by rw [← ht]; exact (bo_good (setN bs) (setN_far bs 2016 (Nat.le_refl _))).l1
  have hl2 : t.2.length = 11 := by rw [← ht]; exact (bo_good (setN bs) (setN_far bs 2016 (Nat.le_refl _))).l2
  rw [ht] at HC ⊢
  clear hW hbel hb0 ht hb hT
  go_enter Tryd.func15, Tryd.ntmps15
  go_wp2_with fail
  rw [HW.out]
  refine HC.out.mono ?_
  rintro e w1 ⟨rfl, hb1⟩
  have K1 := Lib.hid (K0.out.belowAll hb1)
  have B1 := Lib.hid (below_all HB.out HB.out.size hb1)
  clear hb1
  have hfld := field_counts t hl1 hl2
  have HON := Lib.hid (show (ints t.2).toArray.all (·.oneCell') = true by
    rw [Array.all_eq_true_iff_forall_mem]
    intro u hu
    simp only [List.mem_toArray, ints, List.mem_map] at hu
    obtain ⟨x, _, rfl⟩ := hu
    rfl)
  have HSZ := Lib.hid (show (ints t.2).toArray.size = 11 by simp [ints, hl2])
  have HIN := Lib.hid (show (Tryd.prog.info? 27).map (·.size) = some (ints t.2).toArray.size by rw [HSZ.out]; kernel_rfl)
  go_wp2_with (first
    | (refine wpList_store_row rfl 27 (.tmp 2) (.tmp 5) rfl w.heap.size (ints t.2).toArray rfl rfl 27 _ K1.out HIN.out (by rw [HSZ.out]; rfl) HON.out ?_)
    | fail)
  exact ends_orders (bs := bs) hl2 (setRow_heap w1 w.heap.size _ _ 27 (0, 0) K1.out) (below_rowSet B1.out _) _ rfl rfl
end Go.Proofs.YtcmpkcmfhfajpaaDoor.Bits

namespace Go.Proofs.YtcmpkcmfhfajpaaDoor.Bits
open Go.RowKit Go.Proofs.YtcmpkcmfhfajpaaDoor.Wire
set_option maxHeartbeats 16000000
set_option maxRecDepth 100000
set_option linter.unusedVariables false
set_option linter.unusedSimpArgs false

def runF (bs : List UInt8) (g : Int) : Nat → Nat → Nat
  | 0, n => n
  | m + 1, n => if setZ bs (g + n) = true then n else runF bs g m (n + 1)
/-- How many bits are free from the goal on, up to so many. -/
def runN (bs : List UInt8) (g want : Int) : Nat := if 0 ≤ g then runF bs g (min want 2017).toNat 0 else 0
def upF (c : List Int) : Nat → Nat → Option Nat
  | 0, _ => none
  | m + 1, k => if 0 < c.getD k 0 then some k else upF c m (k + 1)
def dnF (c : List Int) : Nat → Option Nat
  | 0 => none
  | k + 1 => if 0 < c.getD k 0 then some k else dnF c k
def leastOf (want : Int) : Nat := Lib.bitLen (min want 1024 - 1).toNat
def findC (t : T) (want : Int) : Int × Int × Bool :=
  match upF t.2 (11 - leastOf want) (leastOf want) with
  | some k => (t.1.getD k 0, min want 1024, true)
  | none => match dnF t.2 (leastOf want) with
    | some k => (t.1.getD k 0, ((2 ^ k : Nat) : Int), true)
    | none => (0, 0, false)
def findX (bs : List UInt8) (goal want : Int) : Int × Int × Bool :=
  if want < 1 then (0, 0, false) else if 0 < runN bs goal want then (goal, (runN bs goal want : Int), true) else findC (bo (setN bs)) want
theorem tc_cells {t : T} (h1 : t.1.length = 11) (h2 : t.2.length = 11) {k : Nat} (hk : k ≤ 10) : (tc t)[11 + k]? = some (.int .i64 (t.2.getD k 0)) ∧ (tc t)[k]? = some (.int .i64 (t.1.getD k 0)) := by
  unfold tc
  constructor
  · rw [List.getElem?_toArray, List.getElem?_append_right (by simp [ints]; omega)]
    simp only [ints, List.length_map, h1, Nat.add_sub_cancel_left, List.getElem?_map, List.getD_eq_getElem?_getD]
    rw [List.getElem?_eq_getElem (by omega)]; rfl
  · rw [List.getElem?_toArray, List.getElem?_append_left (by simp [ints]; omega)]
    simp only [ints, List.getElem?_map, List.getD_eq_getElem?_getD]
    rw [List.getElem?_eq_getElem (by omega)]; rfl
theorem setZ_low {bs : List UInt8} {z : Int} (h : setZ bs z = false) : 0 ≤ z ∧ z < 2016 := by
  simp only [setZ, setN, Bool.or_eq_false_iff, decide_eq_false_iff_not] at h
  omega
theorem find_no (A : Option Addr) (n c : Nat) (bs : List UInt8) (goal want : Int) (w : World) (hw : want < 1) :
    Calls Tryd.prog 11 #[.slice A n c, .int .i64 goal, .int .i64 want] w fun e w' => e = .returned (.tuple #[.int .i64 0, .int .i64 0, .bool false]) ∧ Below w.heap.size w w' := by
  go_enter Tryd.func11, Tryd.ntmps11
  go_wp2
  go_ret3
  exact ⟨rfl, Below.refl _ _⟩
theorem find_in (A : Option Addr) (n c : Nat) (bs : List UInt8) (goal want : Int) (w : World) (hb : BytesAt w A n bs) (hT : Tab w) (hg : goal ≤ 9223372036854775807) (hw : 1 ≤ want) :
    Calls Tryd.prog 11 #[.slice A n c, .int .i64 goal, .int .i64 want] w fun e w' => e = .returned (.tuple #[.int .i64 (findX bs goal want).1, .int .i64 (findX bs goal want).2.1, .bool (findX bs goal want).2.2]) ∧ Below w.heap.size w w' := by
  have HB := Lib.hid hb
  have HT := Lib.hid hT
  have HFX := Lib.hid (show findX bs goal want = if 0 < runN bs goal want then (goal, (runN bs goal want : Int), true) else findC (bo (setN bs)) want by rw [findX, if_neg (by omega)])
  have HRN := Lib.hid (show runN bs goal want = if 0 ≤ goal then runF bs goal (min want 2017).toNat 0 else 0 from rfl)
  obtain ⟨R, hR⟩ : ∃ R, runN bs goal want = R := ⟨_, rfl⟩
  rw [hR] at HFX HRN
  obtain ⟨M, hM⟩ : ∃ M, (min want 2017).toNat = M := ⟨_, rfl⟩
  rw [hM] at HRN
  have hMw : (M : Int) ≤ want ∧ (M = 2017 ∨ (M : Int) = want) := by omega
  clear hb hT hR hM
  have hwn : ¬ want < 1 := by omega
  go_enter Tryd.func11, Tryd.ntmps11
  go_wp2_with fail
  go_loopw [9] (fun v wr => ∃ j : Nat, v = .int .i64 j ∧ j ≤ M ∧ (j = 0 ∨ 0 ≤ goal ∧ goal + j ≤ 2016) ∧ (0 ≤ goal → runF bs goal (M - j) j = R) ∧ wr = w) (fun v _ => M - (intOf v).toNat)
  case atStart => exact ⟨0, rfl, by omega, .inl rfl, fun h => by rw [HRN.out, if_pos h]; rfl, rfl⟩
  case round =>
    obtain ⟨j, rfl, hjM, hj0, hrun, rfl⟩ := hrel
    have X1 := Lib.hid hrun
    clear hrun
    by_cases hgo : (j : Int) < want ∧ 0 ≤ goal ∧ setZ bs (goal + j) = false
    · obtain ⟨g1, g2, g3⟩ := hgo
      have hlo := setZ_low g3
      have HS := Lib.hid (set_any A n c bs (goal + (j : Int)) wr HB.out)
      rw [g3] at HS
      have wg : IntKind.i64.wrap (goal + (j : Int)) = goal + (j : Int) := by rw [IntKind.wrap_i64]; omega
      have HX := Lib.hid (show runF bs goal (M - (j + 1)) (j + 1) = R by
        have := X1.out g2
        rw [show M - j = (M - (j + 1)) + 1 by omega, runF, if_neg (by rw [g3]; simp)] at this
        exact this)
      clear g3
      go_wp2_with fail
      refine HS.out.mono ?_
      rintro e w' ⟨rfl, rfl⟩
      go_wp2
      go_roundw
      case rel => exact ⟨j + 1, by go_num, by omega, .inr ⟨g2, by push_cast; omega⟩, fun _ => HX.out, by first | trivial | rfl⟩
      case measure => simp [intOf]; omega
    · have hjR : (goal < 0 → j = 0 ∧ R = 0) := fun h => ⟨by omega, by rw [HRN.out, if_neg (by omega)]⟩
      have hE : ¬ (j : Int) < want ∧ 0 ≤ goal ∧ R = j ∧ 0 < j ∨ (j : Int) < want ∧ goal < 0 ∧ R = 0 ∧ j = 0 ∨ (j : Int) < want ∧ 0 ≤ goal ∧ setZ bs (goal + j) = true ∧ R = j := by
        by_cases e1 : (j : Int) < want
        · right
          by_cases e2 : 0 ≤ goal
          · right
            cases e3 : setZ bs (goal + j)
            · exact absurd ⟨e1, e2, e3⟩ hgo
            · refine ⟨e1, e2, rfl, ?_⟩
              have := X1.out e2
              rw [show M - j = (M - j - 1) + 1 by omega, runF, if_pos e3] at this
              exact this.symm
          · left
            exact ⟨e1, by omega, (hjR (by omega)).2, (hjR (by omega)).1⟩
        · left
          have e2 : 0 ≤ goal := by
            rcases Int.lt_or_le goal 0 with h | h
            · have := (hjR h).1; omega
            · exact h
          refine ⟨e1, e2, ?_, by omega⟩
          have := X1.out e2
          rw [show M - j = 0 by omega, runF] at this
          exact this.symm
      clear hjR hgo
      rcases hE with ⟨e1, e2, e3, e4⟩ | ⟨e1, e2, e3, e4⟩ | ⟨e1, e2, e3, e4⟩
      · have HF := Lib.hid (show findX bs goal want = (goal, (j : Int), true) by rw [HFX.out, e3, if_pos e4])
        have e5 : (0 : Int) < (j : Int) := by omega
        clear e3 hj0
        go_wp2_with fail
        go_ret3
        exact ⟨by rw [HF.out]; rfl, Below.refl _ _⟩
      · have HR0 := Lib.hid e3
        subst e4
        clear e3 hj0
        have HFC := Lib.hid (show findX bs goal want = findC (bo (setN bs)) want by rw [HFX.out, HR0.out]; rfl)
        have HBO := Lib.hid (buddiesOf_any A n c bs wr HB.out HT.out)
        obtain ⟨t, ht⟩ : ∃ t, bo (setN bs) = t := ⟨_, rfl⟩
        have hl1 : t.1.length = 11 := by rw [← ht]; exact (bo_good (setN bs) (setN_far bs 2016 (Nat.le_refl _))).l1
        have hl2 : t.2.length = 11 := by rw [← ht]; exact (bo_good (setN bs) (setN_far bs 2016 (Nat.le_refl _))).l2
        rw [ht] at HBO HFC
        obtain ⟨cs, hcs⟩ : ∃ cs, tc t = cs := ⟨_, rfl⟩
        have hsz : cs.size = 22 := by rw [← hcs]; simp [tc, ints, hl1, hl2]
        have HON := Lib.hid (show cs.all (·.oneCell') = true by rw [← hcs]; exact tc_one _)
        have HIN := Lib.hid (show (Tryd.prog.info? 46).map (·.size) = some cs.size by rw [hsz]; kernel_rfl)
        have HSZ := Lib.hid hsz
        rw [hcs] at HBO
        have HCS := Lib.hid hcs
        have HL1 := Lib.hid hl1
        have HL2 := Lib.hid hl2
        clear ht hcs hsz hl1 hl2
        go_wp2_with fail
        refine HBO.out.mono ?_
        rintro e w1 ⟨rfl, hb1⟩
        have B1 := Lib.hid hb1
        have K2 := Lib.hid (Blk.new w1 46 #[.int .i64 0, .int .i64 0, .int .i64 0, .int .i64 0, .int .i64 0, .int .i64 0, .int .i64 0, .int .i64 0, .int .i64 0, .int .i64 0, .int .i64 0, .int .i64 0, .int .i64 0, .int .i64 0, .int .i64 0, .int .i64 0, .int .i64 0, .int .i64 0, .int .i64 0, .int .i64 0, .int .i64 0, .int .i64 0])
        have B2 := Lib.hid (hb1.alloc hb1.size (.cells #[.int .i64 0, .int .i64 0, .int .i64 0, .int .i64 0, .int .i64 0, .int .i64 0, .int .i64 0, .int .i64 0, .int .i64 0, .int .i64 0, .int .i64 0, .int .i64 0, .int .i64 0, .int .i64 0, .int .i64 0, .int .i64 0, .int .i64 0, .int .i64 0, .int .i64 0, .int .i64 0, .int .i64 0, .int .i64 0] 46))
        have hzz : wr.heap.size ≤ w1.heap.size := hb1.size
        clear hb1 HBO
        obtain ⟨w3, hw3⟩ : ∃ w3, (w1.alloc (.cells #[.int .i64 0, .int .i64 0, .int .i64 0, .int .i64 0, .int .i64 0, .int .i64 0, .int .i64 0, .int .i64 0, .int .i64 0, .int .i64 0, .int .i64 0, .int .i64 0, .int .i64 0, .int .i64 0, .int .i64 0, .int .i64 0, .int .i64 0, .int .i64 0, .int .i64 0, .int .i64 0, .int .i64 0, .int .i64 0] 46)).setRow w1.heap.size cs = w3 := ⟨_, rfl⟩
        have K3 := Lib.hid (show Blk w3 w1.heap.size 46 (tc t) by rw [HCS.out, ← hw3]; exact setRow_heap _ w1.heap.size _ cs 46 (0, 0) K2.out)
        have B3 := Lib.hid (show Below wr.heap.size wr w3 from hw3 ▸ B2.out.trans ⟨rfl, rfl, rfl, by simp [World.setRow], fun k hk => setRow_other _ w1.heap.size k cs (by omega)⟩)
        have HW3 := Lib.hid hw3
        clear hw3
        have hlb : (min want 1024 - 1).toNat < 2 ^ 10 := by omega
        have hll := Lib.bitLenAux_le 64 (min want 1024 - 1).toNat 10 hlb
        have HLN := Lib.hid (len_any (min want 1024 - 1) w3 (by omega) (by omega))
        obtain ⟨L, hL⟩ : ∃ L, Lib.bitLen (min want 1024 - 1).toNat = L := ⟨_, rfl⟩
        have hL10 : L ≤ 10 := by rw [← hL]; exact hll
        have HLE := Lib.hid (show leastOf want = L from hL)
        rw [hL] at HLN
        clear hL hll hlb
        obtain ⟨W, hWm⟩ : ∃ W, min want 1024 = W := ⟨_, rfl⟩
        have hW1 : 1 ≤ W ∧ W ≤ 1024 := by omega
        rw [hWm] at HLN
        have w5 : IntKind.i64.wrap (W - 1) = W - 1 := by rw [IntKind.wrap_i64]; omega
        have w6 : IntKind.u64.wrap (W - 1) = W - 1 := by rw [IntKind.wrap_u64]; omega
        have HWM := Lib.hid hWm
        go_wp2_with (first
          | (refine wpList_store_row rfl 46 (.tmp 10) (.tmp 38) rfl w1.heap.size cs rfl rfl 46 _ K2.out HIN.out (by rw [HSZ.out]; rfl) HON.out ?_; rw [HW3.out])
          | fail)
        refine HLN.out.mono ?_
        rintro e w' ⟨rfl, rfl⟩
        have HFD := Lib.hid (show findC t want = (match upF t.2 (11 - L) L with | some k => (t.1.getD k 0, W, true) | none => match dnF t.2 L with | some k => (t.1.getD k 0, ((2 ^ k : Nat) : Int), true) | none => (0, 0, false)) by rw [findC, HLE.out, HWM.out])
        have HTO := Lib.hid (show ∀ k, k ≤ 10 → (tc t)[11 + k]? = some (.int .i64 (t.2.getD k 0)) ∧ (tc t)[k]? = some (.int .i64 (t.1.getD k 0)) from fun k hk => tc_cells HL1.out HL2.out hk)
        have fin : ∀ (a b : Int) (o : Bool), findC t want = (a, b, o) → Ending.returned (.tuple #[.int .i64 a, .int .i64 b, .bool o]) = .returned (.tuple #[.int .i64 (findX bs goal want).1, .int .i64 (findX bs goal want).2.1, .bool (findX bs goal want).2.2]) := fun a b o h => by rw [HFC.out, h]
        have FIN := Lib.hid fin
        clear fin w5 w6 HLN
        go_wp2_with fail
        go_loopw [12] (fun v wq => ∃ k : Nat, v = .int .i64 k ∧ L ≤ k ∧ k ≤ 11 ∧ upF t.2 (11 - k) k = upF t.2 (11 - L) L ∧ wq = w3) (fun v _ => 11 - (intOf v).toNat)
        case atStart => exact ⟨L, rfl, Nat.le_refl _, by omega, rfl, rfl⟩
        case round =>
          obtain ⟨k, rfl, hLk, hk, hup, rfl⟩ := hrel
          have U1 := Lib.hid hup
          clear hup
          by_cases hlt : k < 11
          · obtain ⟨t1, t2⟩ := HTO.out k (by omega)
            have c1 : wr.cell? ⟨w1.heap.size, 11 + k, none⟩ = some (.int .i64 (t.2.getD k 0)) := (K3.out.cell _).trans t1
            have c2 : wr.cell? ⟨w1.heap.size, k, none⟩ = some (.int .i64 (t.1.getD k 0)) := (K3.out.cell _).trans t2
            have k0 : (0 : Int) ≤ (k : Int) := by omega
            have k1 : (k : Int) < 11 := by omega
            have k2 : (k : Int) ≤ 10 := by omega
            have HST := Lib.hid (show upF t.2 (11 - k) k = if 0 < t.2.getD k 0 then some k else upF t.2 (11 - (k + 1)) (k + 1) by rw [show 11 - k = (11 - (k + 1)) + 1 by omega, upF])
            obtain ⟨cv, hcv⟩ : ∃ cv, t.2.getD k 0 = cv := ⟨_, rfl⟩
            obtain ⟨fv, hfv⟩ : ∃ fv, t.1.getD k 0 = fv := ⟨_, rfl⟩
            rw [hcv] at c1 HST
            rw [hfv] at c2
            clear t1 t2 hcv
            by_cases hc : 0 < cv
            · have HV := Lib.hid (FIN.out fv W true (by rw [HFD.out, ← U1.out, HST.out, if_pos hc]; simp only [hfv]))
              clear hfv
              go_wp2
              go_ret3
              exact ⟨HV.out, B3.out⟩
            · have HN := Lib.hid (show upF t.2 (11 - (k + 1)) (k + 1) = upF t.2 (11 - L) L by rw [← U1.out, HST.out, if_neg hc])
              clear hfv
              go_wp2
              go_roundw
              case rel => exact ⟨k + 1, by go_num, by omega, by omega, HN.out, by first | trivial | rfl⟩
              case measure => simp [intOf]; omega
          · obtain rfl : k = 11 := by omega
            have HUN := Lib.hid (show upF t.2 (11 - L) L = none by rw [← U1.out]; rfl)
            have wl : IntKind.i64.wrap ((L : Int) - 1) = (L : Int) - 1 := by rw [IntKind.wrap_i64]; omega
            clear U1
            go_wp2_with fail
            clear wl
            go_loopw [13] (fun v wr3 => ∃ k : Nat, v = .int .i64 ((k : Int) - 1) ∧ k ≤ L ∧ dnF t.2 k = dnF t.2 L ∧ wr3 = wr) (fun v _ => (intOf v + 1).toNat)
            case atStart => exact ⟨L, rfl, Nat.le_refl _, rfl, rfl⟩
            case round =>
              obtain ⟨k, rfl, hkL, hdn, rfl⟩ := hrel
              have U2 := Lib.hid hdn
              clear hdn
              cases k with
              | zero =>
                have HV := Lib.hid (FIN.out 0 0 false (by rw [HFD.out, HUN.out, ← U2.out]; rfl))
                go_wp2
                go_ret3
                exact ⟨HV.out, B3.out⟩
              | succ i =>
                obtain ⟨t1, t2⟩ := HTO.out i (by omega)
                have c1 : wr.cell? ⟨w1.heap.size, 11 + i, none⟩ = some (.int .i64 (t.2.getD i 0)) := (K3.out.cell _).trans t1
                have c2 : wr.cell? ⟨w1.heap.size, i, none⟩ = some (.int .i64 (t.1.getD i 0)) := (K3.out.cell _).trans t2
                have k0 : (0 : Int) ≤ (i : Int) := by omega
                have k1 : (i : Int) < 11 := by omega
                have k3 : ¬ (i : Int) < 0 := by omega
                have ei : ((i + 1 : Nat) : Int) - 1 = (i : Int) := by omega
                have HST := Lib.hid (show dnF t.2 (i + 1) = if 0 < t.2.getD i 0 then some i else dnF t.2 i from rfl)
                have hpt := pow_ten i (by omega)
                have wp : IntKind.i64.wrap ((2 : Int) ^ i) = ((2 ^ i : Nat) : Int) := by rw [hpt.1, IntKind.wrap_i64]; omega
                obtain ⟨cv, hcv⟩ : ∃ cv, t.2.getD i 0 = cv := ⟨_, rfl⟩
                obtain ⟨fv, hfv⟩ : ∃ fv, t.1.getD i 0 = fv := ⟨_, rfl⟩
                rw [hcv] at c1 HST
                rw [hfv] at c2
                rw [ei]
                clear t1 t2 hcv hpt
                by_cases hc : 0 < cv
                · have HV := Lib.hid (FIN.out fv ((2 ^ i : Nat) : Int) true (by rw [HFD.out, HUN.out, ← U2.out, HST.out, if_pos hc]; simp only [hfv]))
                  clear hfv
                  go_wp2_with fail
                  refine region_still (by kernel_rfl) (by kernel_rfl) ?_
                  iterate 9 (refine still_take (v := ?_) (by kernel_rfl) ?_ (fun K hK => ?_); rotate_left; (· (go_simp; with_reducible rfl)); simp only [Act.put, List.setIfInBounds_toArray, List.set_cons_zero, List.set_cons_succ]; refine hK _ ?_; clear hK K)
                  refine still_end ?_
                  go_wp2_with fail
                  go_ret3
                  exact ⟨HV.out, below_drewN B3.out 1⟩
                · have HN := Lib.hid (show dnF t.2 i = dnF t.2 L by rw [← U2.out, HST.out, if_neg hc])
                  have wi : IntKind.i64.wrap ((i : Int) - 1) = (i : Int) - 1 := by rw [IntKind.wrap_i64]; omega
                  clear hfv
                  go_wp2
                  go_roundw
                  case rel => exact ⟨i, by first | rfl | trivial | go_num, by omega, HN.out, by first | trivial | rfl⟩
                  case measure => simp [intOf]; try omega
      · have HS := Lib.hid (set_any A n c bs (goal + (j : Int)) wr HB.out)
        rw [e3] at HS
        have wg : IntKind.i64.wrap (goal + (j : Int)) = goal + (j : Int) := by rw [IntKind.wrap_i64]; omega
        have HR3 := Lib.hid e4
        clear e3 e4 hj0
        rcases Nat.eq_zero_or_pos j with rfl | e4
        · have HFC := Lib.hid (show findX bs goal want = findC (bo (setN bs)) want by rw [HFX.out, HR3.out]; rfl)
          have HR0 := HR3
          rw [show goal + ((0 : Nat) : Int) = goal by omega] at HS wg
          have HBO := Lib.hid (buddiesOf_any A n c bs wr HB.out HT.out)
          obtain ⟨t, ht⟩ : ∃ t, bo (setN bs) = t := ⟨_, rfl⟩
          have hl1 : t.1.length = 11 := by rw [← ht]; exact (bo_good (setN bs) (setN_far bs 2016 (Nat.le_refl _))).l1
          have hl2 : t.2.length = 11 := by rw [← ht]; exact (bo_good (setN bs) (setN_far bs 2016 (Nat.le_refl _))).l2
          rw [ht] at HBO HFC
          obtain ⟨cs, hcs⟩ : ∃ cs, tc t = cs := ⟨_, rfl⟩
          have hsz : cs.size = 22 := by rw [← hcs]; simp [tc, ints, hl1, hl2]
          have HON := Lib.hid (show cs.all (·.oneCell') = true by rw [← hcs]; exact tc_one _)
          have HIN := Lib.hid (show (Tryd.prog.info? 46).map (·.size) = some cs.size by rw [hsz]; kernel_rfl)
          have HSZ := Lib.hid hsz
          rw [hcs] at HBO
          have HCS := Lib.hid hcs
          have HL1 := Lib.hid hl1
          have HL2 := Lib.hid hl2
          clear ht hcs hsz hl1 hl2
          go_wp2_with fail
          refine HS.out.mono ?_
          rintro e w' ⟨rfl, rfl⟩
          clear wg HS
          go_wp2_with fail
          refine HBO.out.mono ?_
          rintro e w1 ⟨rfl, hb1⟩
          have B1 := Lib.hid hb1
          have K2 := Lib.hid (Blk.new w1 46 #[.int .i64 0, .int .i64 0, .int .i64 0, .int .i64 0, .int .i64 0, .int .i64 0, .int .i64 0, .int .i64 0, .int .i64 0, .int .i64 0, .int .i64 0, .int .i64 0, .int .i64 0, .int .i64 0, .int .i64 0, .int .i64 0, .int .i64 0, .int .i64 0, .int .i64 0, .int .i64 0, .int .i64 0, .int .i64 0])
          have B2 := Lib.hid (hb1.alloc hb1.size (.cells #[.int .i64 0, .int .i64 0, .int .i64 0, .int .i64 0, .int .i64 0, .int .i64 0, .int .i64 0, .int .i64 0, .int .i64 0, .int .i64 0, .int .i64 0, .int .i64 0, .int .i64 0, .int .i64 0, .int .i64 0, .int .i64 0, .int .i64 0, .int .i64 0, .int .i64 0, .int .i64 0, .int .i64 0, .int .i64 0] 46))
          have hzz : wr.heap.size ≤ w1.heap.size := hb1.size
          clear hb1 HBO
          obtain ⟨w3, hw3⟩ : ∃ w3, (w1.alloc (.cells #[.int .i64 0, .int .i64 0, .int .i64 0, .int .i64 0, .int .i64 0, .int .i64 0, .int .i64 0, .int .i64 0, .int .i64 0, .int .i64 0, .int .i64 0, .int .i64 0, .int .i64 0, .int .i64 0, .int .i64 0, .int .i64 0, .int .i64 0, .int .i64 0, .int .i64 0, .int .i64 0, .int .i64 0, .int .i64 0] 46)).setRow w1.heap.size cs = w3 := ⟨_, rfl⟩
          have K3 := Lib.hid (show Blk w3 w1.heap.size 46 (tc t) by rw [HCS.out, ← hw3]; exact setRow_heap _ w1.heap.size _ cs 46 (0, 0) K2.out)
          have B3 := Lib.hid (show Below wr.heap.size wr w3 from hw3 ▸ B2.out.trans ⟨rfl, rfl, rfl, by simp [World.setRow], fun k hk => setRow_other _ w1.heap.size k cs (by omega)⟩)
          have HW3 := Lib.hid hw3
          clear hw3
          have hlb : (min want 1024 - 1).toNat < 2 ^ 10 := by omega
          have hll := Lib.bitLenAux_le 64 (min want 1024 - 1).toNat 10 hlb
          have HLN := Lib.hid (len_any (min want 1024 - 1) w3 (by omega) (by omega))
          obtain ⟨L, hL⟩ : ∃ L, Lib.bitLen (min want 1024 - 1).toNat = L := ⟨_, rfl⟩
          have hL10 : L ≤ 10 := by rw [← hL]; exact hll
          have HLE := Lib.hid (show leastOf want = L from hL)
          rw [hL] at HLN
          clear hL hll hlb
          obtain ⟨W, hWm⟩ : ∃ W, min want 1024 = W := ⟨_, rfl⟩
          have hW1 : 1 ≤ W ∧ W ≤ 1024 := by omega
          rw [hWm] at HLN
          have w5 : IntKind.i64.wrap (W - 1) = W - 1 := by rw [IntKind.wrap_i64]; omega
          have w6 : IntKind.u64.wrap (W - 1) = W - 1 := by rw [IntKind.wrap_u64]; omega
          have HWM := Lib.hid hWm
          go_wp2_with (first
            | (refine wpList_store_row rfl 46 (.tmp 10) (.tmp 38) rfl w1.heap.size cs rfl rfl 46 _ K2.out HIN.out (by rw [HSZ.out]; rfl) HON.out ?_; rw [HW3.out])
            | fail)
          refine HLN.out.mono ?_
          rintro e w' ⟨rfl, rfl⟩
          have HFD := Lib.hid (show findC t want = (match upF t.2 (11 - L) L with | some k => (t.1.getD k 0, W, true) | none => match dnF t.2 L with | some k => (t.1.getD k 0, ((2 ^ k : Nat) : Int), true) | none => (0, 0, false)) by rw [findC, HLE.out, HWM.out])
          have HTO := Lib.hid (show ∀ k, k ≤ 10 → (tc t)[11 + k]? = some (.int .i64 (t.2.getD k 0)) ∧ (tc t)[k]? = some (.int .i64 (t.1.getD k 0)) from fun k hk => tc_cells HL1.out HL2.out hk)
          have fin : ∀ (a b : Int) (o : Bool), findC t want = (a, b, o) → Ending.returned (.tuple #[.int .i64 a, .int .i64 b, .bool o]) = .returned (.tuple #[.int .i64 (findX bs goal want).1, .int .i64 (findX bs goal want).2.1, .bool (findX bs goal want).2.2]) := fun a b o h => by rw [HFC.out, h]
          have FIN := Lib.hid fin
          clear fin w5 w6 HLN
          go_wp2_with fail
          go_loopw [12] (fun v wq => ∃ k : Nat, v = .int .i64 k ∧ L ≤ k ∧ k ≤ 11 ∧ upF t.2 (11 - k) k = upF t.2 (11 - L) L ∧ wq = w3) (fun v _ => 11 - (intOf v).toNat)
          case atStart => exact ⟨L, rfl, Nat.le_refl _, by omega, rfl, rfl⟩
          case round =>
            obtain ⟨k, rfl, hLk, hk, hup, rfl⟩ := hrel
            have U1 := Lib.hid hup
            clear hup
            by_cases hlt : k < 11
            · obtain ⟨t1, t2⟩ := HTO.out k (by omega)
              have c1 : wr.cell? ⟨w1.heap.size, 11 + k, none⟩ = some (.int .i64 (t.2.getD k 0)) := (K3.out.cell _).trans t1
              have c2 : wr.cell? ⟨w1.heap.size, k, none⟩ = some (.int .i64 (t.1.getD k 0)) := (K3.out.cell _).trans t2
              have k0 : (0 : Int) ≤ (k : Int) := by omega
              have k1 : (k : Int) < 11 := by omega
              have k2 : (k : Int) ≤ 10 := by omega
              have HST := Lib.hid (show upF t.2 (11 - k) k = if 0 < t.2.getD k 0 then some k else upF t.2 (11 - (k + 1)) (k + 1) by rw [show 11 - k = (11 - (k + 1)) + 1 by omega, upF])
              obtain ⟨cv, hcv⟩ : ∃ cv, t.2.getD k 0 = cv := ⟨_, rfl⟩
              obtain ⟨fv, hfv⟩ : ∃ fv, t.1.getD k 0 = fv := ⟨_, rfl⟩
              rw [hcv] at c1 HST
              rw [hfv] at c2
              clear t1 t2 hcv
              by_cases hc : 0 < cv
              · have HV := Lib.hid (FIN.out fv W true (by rw [HFD.out, ← U1.out, HST.out, if_pos hc]; simp only [hfv]))
                clear hfv
                go_wp2
                go_ret3
                exact ⟨HV.out, B3.out⟩
              · have HN := Lib.hid (show upF t.2 (11 - (k + 1)) (k + 1) = upF t.2 (11 - L) L by rw [← U1.out, HST.out, if_neg hc])
                clear hfv
                go_wp2
                go_roundw
                case rel => exact ⟨k + 1, by go_num, by omega, by omega, HN.out, by first | trivial | rfl⟩
                case measure => simp [intOf]; omega
            · obtain rfl : k = 11 := by omega
              have HUN := Lib.hid (show upF t.2 (11 - L) L = none by rw [← U1.out]; rfl)
              have wl : IntKind.i64.wrap ((L : Int) - 1) = (L : Int) - 1 := by rw [IntKind.wrap_i64]; omega
              clear U1
              go_wp2_with fail
              clear wl
              go_loopw [13] (fun v wr3 => ∃ k : Nat, v = .int .i64 ((k : Int) - 1) ∧ k ≤ L ∧ dnF t.2 k = dnF t.2 L ∧ wr3 = wr) (fun v _ => (intOf v + 1).toNat)
              case atStart => exact ⟨L, rfl, Nat.le_refl _, rfl, rfl⟩
              case round =>
                obtain ⟨k, rfl, hkL, hdn, rfl⟩ := hrel
                have U2 := Lib.hid hdn
                clear hdn
                cases k with
                | zero =>
                  have HV := Lib.hid (FIN.out 0 0 false (by rw [HFD.out, HUN.out, ← U2.out]; rfl))
                  go_wp2
                  go_ret3
                  exact ⟨HV.out, B3.out⟩
                | succ i =>
                  obtain ⟨t1, t2⟩ := HTO.out i (by omega)
                  have c1 : wr.cell? ⟨w1.heap.size, 11 + i, none⟩ = some (.int .i64 (t.2.getD i 0)) := (K3.out.cell _).trans t1
                  have c2 : wr.cell? ⟨w1.heap.size, i, none⟩ = some (.int .i64 (t.1.getD i 0)) := (K3.out.cell _).trans t2
                  have k0 : (0 : Int) ≤ (i : Int) := by omega
                  have k1 : (i : Int) < 11 := by omega
                  have k3 : ¬ (i : Int) < 0 := by omega
                  have ei : ((i + 1 : Nat) : Int) - 1 = (i : Int) := by omega
                  have HST := Lib.hid (show dnF t.2 (i + 1) = if 0 < t.2.getD i 0 then some i else dnF t.2 i from rfl)
                  have hpt := pow_ten i (by omega)
                  have wp : IntKind.i64.wrap ((2 : Int) ^ i) = ((2 ^ i : Nat) : Int) := by rw [hpt.1, IntKind.wrap_i64]; omega
                  obtain ⟨cv, hcv⟩ : ∃ cv, t.2.getD i 0 = cv := ⟨_, rfl⟩
                  obtain ⟨fv, hfv⟩ : ∃ fv, t.1.getD i 0 = fv := ⟨_, rfl⟩
                  rw [hcv] at c1 HST
                  rw [hfv] at c2
                  rw [ei]
                  clear t1 t2 hcv hpt
                  by_cases hc : 0 < cv
                  · have HV := Lib.hid (FIN.out fv ((2 ^ i : Nat) : Int) true (by rw [HFD.out, HUN.out, ← U2.out, HST.out, if_pos hc]; simp only [hfv]))
                    clear hfv
                    go_wp2_with fail
                    refine region_still (by kernel_rfl) (by kernel_rfl) ?_
                    iterate 9 (refine still_take (v := ?_) (by kernel_rfl) ?_ (fun K hK => ?_); rotate_left; (· (go_simp; with_reducible rfl)); simp only [Act.put, List.setIfInBounds_toArray, List.set_cons_zero, List.set_cons_succ]; refine hK _ ?_; clear hK K)
                    refine still_end ?_
                    go_wp2_with fail
                    go_ret3
                    exact ⟨HV.out, below_drewN B3.out 1⟩
                  · have HN := Lib.hid (show dnF t.2 i = dnF t.2 L by rw [← U2.out, HST.out, if_neg hc])
                    have wi : IntKind.i64.wrap ((i : Int) - 1) = (i : Int) - 1 := by rw [IntKind.wrap_i64]; omega
                    clear hfv
                    go_wp2
                    go_roundw
                    case rel => exact ⟨i, by first | rfl | trivial | go_num, by omega, HN.out, by first | trivial | rfl⟩
                    case measure => simp [intOf]; try omega
        · have HF := Lib.hid (show findX bs goal want = (goal, (j : Int), true) by rw [HFX.out, HR3.out, if_pos e4])
          have e5 : (0 : Int) < (j : Int) := by omega
          go_wp2_with fail
          refine HS.out.mono ?_
          rintro e w' ⟨rfl, rfl⟩
          go_wp2_with fail
          go_ret3
          exact ⟨by rw [HF.out]; rfl, Below.refl _ _⟩
/-- Find's three answers. -/
theorem find_any (A : Option Addr) (n c : Nat) (bs : List UInt8) (goal want : Int) (w : World) (hb : BytesAt w A n bs) (hT : Tab w) (hg : goal ≤ 9223372036854775807) :
    Calls Tryd.prog 11 #[.slice A n c, .int .i64 goal, .int .i64 want] w fun e w' => e = .returned (.tuple #[.int .i64 (findX bs goal want).1, .int .i64 (findX bs goal want).2.1, .bool (findX bs goal want).2.2]) ∧ Below w.heap.size w w' := by
  by_cases h : want < 1
  · have e : findX bs goal want = (0, 0, false) := by rw [findX, if_pos h]
    rw [e]
    exact find_no A n c bs goal want w h
  · exact find_in A n c bs goal want w hb hT hg (by omega)
end Go.Proofs.YtcmpkcmfhfajpaaDoor.Bits

namespace Go.Proofs.YtcmpkcmfhfajpaaDoor.Bits
open Go.RowKit Go.Proofs.YtcmpkcmfhfajpaaDoor.Wire
set_option maxHeartbeats 8000000
set_option maxRecDepth 100000
set_option linter.unusedVariables false
set_option linter.unusedSimpArgs false

theorem ref_set_in (A : Option Addr) (n c : Nat) (bs : List UInt8) (i : Nat) (x : UInt8) (w : World) (hb : BytesAt w A n bs) (hi : i < 2016) (hx : bs[i / 8]? = some x) :
    Calls Tryd.prog 30 #[.slice A n c, .int .i64 (i : Int)] w fun e w' => e = .returned (.bool (x.toNat.testBit (i % 8))) ∧ w = w' := by
  have hl := hb.len
  have hlt : i / 8 < n := by have := (List.getElem?_eq_some_iff.1 hx).1; omega
  obtain ⟨a, c', rfl, hc, hcell⟩ := hb.at_ hlt
  obtain rfl : x = c' := by rw [hx] at hc; injection hc
  have g0 : (0 : Int) ≤ (i : Int) := by omega
  have g1 : (i : Int) < 2016 := by omega
  have e1 : (i : Int) / 8 = ((i / 8 : Nat) : Int) := by omega
  have e2 : (i : Int) % 8 = ((i % 8 : Nat) : Int) := by omega
  have e3 : (i : Int).tmod 8 = ((i % 8 : Nat) : Int) := by rw [Int.tmod_eq_emod_of_nonneg (by omega)]; omega
  have e4 : IntKind.i64.wrap ((i / 8 : Nat) : Int) = ((i / 8 : Nat) : Int) := by rw [IntKind.wrap_i64]; omega
  have g2 : ((i / 8 : Nat) : Int) < (n : Int) := by omega
  have g3 : (0 : Int) ≤ ((i / 8 : Nat) : Int) := by omega
  have hr8 : i % 8 < 8 := Nat.mod_lt _ (by omega)
  have hxl := x.toNat_lt
  obtain ⟨X, hX⟩ : ∃ X, x.toNat = X := ⟨_, rfl⟩
  rw [hX] at hcell hxl
  have HR := Lib.hid (show x.toNat.testBit (i % 8) = decide (X / 2 ^ (i % 8) % 2 = 1) by rw [← hX]; exact Nat.testBit_eq_decide_div_mod_eq)
  generalize i / 8 = j at *
  generalize i % 8 = r at *
  clear hb hx hc hl hX
  go_enter Tryd.func30, Tryd.ntmps30
  go_wp2_with fail
  go_loop [5, 6] (fun v k => ∃ q : Nat, q ≤ r ∧ k = .int .i64 q ∧ v = .int .i64 ((X / 2 ^ q : Nat) : Int)) (fun _ k => r - (intOf k).toNat)
  case atStart => exact ⟨0, Nat.zero_le _, rfl, by simp⟩
  case round =>
    obtain ⟨q, hq, rfl, rfl⟩ := hrel
    have HY := Lib.hid (show X / 2 ^ q / 2 = X / 2 ^ (q + 1) by rw [Nat.div_div_eq_div_mul, Nat.pow_succ])
    have hy : X / 2 ^ q ≤ 255 := Nat.le_trans (Nat.div_le_self _ _) (by omega)
    obtain ⟨Y, hYe⟩ : ∃ Y, X / 2 ^ q = Y := ⟨_, rfl⟩
    have HYE := Lib.hid hYe
    rw [hYe] at hy HY ⊢
    clear hYe
    have f1 : (0 : Int) ≤ (Y : Int) := by omega
    have f2 : IntKind.i64.wrap ((Y : Int) / 2) = (Y : Int) / 2 := by rw [IntKind.wrap_i64]; omega
    by_cases hlt2 : q < r
    · have HZ := Lib.hid (show Value.int IntKind.i64 ((Y : Int) / 2) = .int .i64 ((X / 2 ^ (q + 1) : Nat) : Int) by rw [← HY.out]; simp)
      go_wp2_with fail
      go_round
      case rel => exact ⟨q + 1, by omega, by go_num, HZ.out⟩
      case measure => simp [intOf]; omega
    · obtain rfl : q = r := by omega
      have f3 : (Y : Int).tmod 2 = (Y : Int) % 2 := by rw [Int.tmod_eq_emod_of_nonneg (by omega)]
      have f4 : IntKind.i64.wrap ((Y : Int) % 2) = (Y : Int) % 2 := by rw [IntKind.wrap_i64]; omega
      have HB := Lib.hid (show ((Y : Int) % 2 == 1) = decide (Y % 2 = 1) by rw [Bool.eq_iff_iff]; simp; omega)
      go_wp2_with fail
      go_ret
      refine ⟨?_, rfl⟩
      rw [HR.out, HYE.out, ← HB.out]; rfl
theorem ref_set_out (A : Option Addr) (n c : Nat) (bs : List UInt8) (z : Int) (w : World) (hb : BytesAt w A n bs) (h : z < 0 ∨ ¬ z < 0 ∧ (2016 ≤ z ∨ ¬ 2016 ≤ z ∧ (n : Int) ≤ z / 8)) :
    Calls Tryd.prog 30 #[.slice A n c, .int .i64 z] w fun e w' => e = .returned (.bool true) ∧ w = w' := by
  clear hb
  rcases h with h | ⟨h, h' | ⟨h', h''⟩⟩
  · go_enter Tryd.func30, Tryd.ntmps30
    go_wp2
    go_ret
    exact ⟨rfl, rfl⟩
  · go_enter Tryd.func30, Tryd.ntmps30
    go_wp2
    go_ret
    exact ⟨rfl, rfl⟩
  · obtain ⟨k, hk⟩ : ∃ k, z / 8 = k := ⟨_, rfl⟩
    have e4 : IntKind.i64.wrap k = k := by rw [IntKind.wrap_i64]; omega
    have e5 : z.tdiv 8 = k := by rw [Int.tdiv_eq_ediv_of_nonneg (by omega)]; exact hk
    rw [hk] at h''
    go_enter Tryd.func30, Tryd.ntmps30
    go_wp2
    go_ret
    exact ⟨rfl, rfl⟩
theorem ref_set_any (A : Option Addr) (n c : Nat) (bs : List UInt8) (z : Int) (w : World) (hb : BytesAt w A n bs) :
    Calls Tryd.prog 30 #[.slice A n c, .int .i64 z] w fun e w' => e = .returned (.bool (setZ bs z)) ∧ w = w' := by
  have hl := hb.len
  by_cases h0 : z < 0
  · rw [show setZ bs z = true by simp [setZ, h0]]
    exact ref_set_out A n c bs z w hb (.inl h0)
  obtain ⟨i, rfl⟩ := Int.eq_ofNat_of_zero_le (show 0 ≤ z by omega)
  have e0 : setZ bs (i : Int) = setN bs i := by
    rw [setZ, show decide ((i : Int) < 0) = false by simp]; rfl
  rw [e0]
  by_cases h1 : 2016 ≤ i
  · rw [setN_far bs i h1]
    exact ref_set_out A n c bs i w hb (.inr ⟨h0, .inl (by omega)⟩)
  by_cases h2 : n ≤ i / 8
  · rw [show setN bs i = true by simp [setN, hl, h2]]
    exact ref_set_out A n c bs i w hb (.inr ⟨h0, .inr ⟨by omega, by omega⟩⟩)
  obtain ⟨x, hx⟩ : ∃ x, bs[i / 8]? = some x := ⟨_, List.getElem?_eq_getElem (by omega)⟩
  rw [setN_in (by omega) hx]
  exact ref_set_in A n c bs i x w hb (by omega) hx
theorem setZ_nat (bs : List UInt8) (j : Nat) : setZ bs (j : Int) = setN bs j := by rw [setZ, show decide ((j : Int) < 0) = false by simp]; rfl
theorem ref_test_any (A : Option Addr) (n c : Nat) (bs : List UInt8) (z : Int) (w : World) (hb : BytesAt w A n bs) :
    Calls Tryd.prog 24 #[.slice A n c, .int .i64 z] w fun e w' => e = .returned (.tuple #[.bool (testX bs z), .int .i64 (testE z)]) ∧ w = w' := by
  have HS := Lib.hid (ref_set_any A n c bs z w hb)
  clear hb
  by_cases h0 : z < 0
  · have e1 := Lib.hid (show testX bs z = false by rw [testX, if_neg (by omega)])
    have e2 := Lib.hid (show testE z = 22 by rw [testE, if_neg (by omega)])
    go_enter Tryd.func24, Tryd.ntmps24
    go_wp2
    go_ret2
    exact ⟨by rw [e1.out, e2.out]; rfl, rfl⟩
  by_cases h1 : 2016 ≤ z
  · have e1 := Lib.hid (show testX bs z = false by rw [testX, if_neg (by omega)])
    have e2 := Lib.hid (show testE z = 22 by rw [testE, if_neg (by omega)])
    go_enter Tryd.func24, Tryd.ntmps24
    go_wp2
    go_ret2
    exact ⟨by rw [e1.out, e2.out]; rfl, rfl⟩
  · have e1 := Lib.hid (show testX bs z = setZ bs z by rw [testX, if_pos (by omega)])
    have e2 := Lib.hid (show testE z = 0 by rw [testE, if_pos (by omega)])
    go_enter Tryd.func24, Tryd.ntmps24
    go_wp2_with fail
    refine HS.out.mono ?_
    rintro e w' ⟨rfl, rfl⟩
    go_wp2_with fail
    go_ret2
    exact ⟨by rw [e1.out, e2.out]; rfl, rfl⟩
theorem ref_check_any (A : Option Addr) (len cap : Nat) (n : Int) (seed : BitVec 32) (bs : List UInt8) (w : World) (hl : len ≤ cap) (hcp : cap ≤ 9223372036854775807) (hb : BytesAt w A len bs) :
    Calls Tryd.prog 26 #[.slice A len cap, .int .i64 n, .int .u32 (seed.toNat : Int)] w fun e w' => e = .returned (.int .i64 (chkE bs n seed)) ∧ w = w' := by
  have hlen := hb.len
  by_cases h0 : n < 0
  · have HE := Lib.hid (show chkE bs n seed = 22 by rw [chkE, if_pos (.inl h0)])
    clear hb
    go_enter Tryd.func26, Tryd.ntmps26
    go_wp2
    go_ret
    exact ⟨ret_int HE.out.symm, rfl⟩
  by_cases h1 : 2016 < n
  · have HE := Lib.hid (show chkE bs n seed = 22 by rw [chkE, if_pos (.inr h1)])
    clear hb
    go_enter Tryd.func26, Tryd.ntmps26
    go_wp2
    go_ret
    exact ⟨ret_int HE.out.symm, rfl⟩
  obtain ⟨m, rfl⟩ := Int.eq_ofNat_of_zero_le (show 0 ≤ n by omega)
  have hce : chkE bs (m : Int) seed = if (decide (len = 256) && sealedB seed bs) = true ∧ allSet bs m = true then 0 else 117 := by
    rw [chkE, if_neg (by omega), hlen]; rfl
  by_cases h2 : len = 256
  rotate_left
  · have HE := Lib.hid (show chkE bs m seed = 117 by rw [hce]; simp [h2])
    have hne : ((len : Int) != 256) = true := by simp; omega
    clear hb hce h2
    go_enter Tryd.func26, Tryd.ntmps26
    go_wp2
    go_ret
    exact ⟨ret_int HE.out.symm, rfl⟩
  subst h2
  have hne : (((256 : Nat) : Int) != 256) = false := by decide
  have HS := Lib.hid (ref_sealed_any A 256 cap seed bs w hl hcp hb)
  have HB := Lib.hid hb
  cases hs : sealedB seed bs
  · have HE := Lib.hid (show chkE bs m seed = 117 by rw [hce]; simp [hs])
    rw [hs] at HS
    clear hb hce hs
    go_enter Tryd.func26, Tryd.ntmps26
    go_wp2_with fail
    refine HS.out.mono ?_
    rintro e w1 ⟨rfl, rfl⟩
    go_wp2
    go_ret
    exact ⟨ret_int HE.out.symm, rfl⟩
  have HE := Lib.hid (show chkE bs m seed = if allSet bs m = true then 0 else 117 by rw [hce]; simp [hs])
  rw [hs] at HS
  clear hb hce hs
  go_enter Tryd.func26, Tryd.ntmps26
  go_wp2_with fail
  clear hne
  refine HS.out.mono ?_
  rintro e w1 ⟨rfl, rfl⟩
  clear HS
  go_wp2_with fail
  go_loop [7] (fun i => ∃ j : Nat, m ≤ j ∧ j ≤ 2016 ∧ i = .int .i64 j ∧ (∀ i, m ≤ i → i < j → setN bs i = true)) (fun i => 2016 - (intOf i).toNat)
  case atStart => exact ⟨m, Nat.le_refl _, by omega, rfl, fun i _ _ => by omega⟩
  case round =>
    obtain ⟨j, hmj, hj, rfl, hall⟩ := hrel
    have X1 := Lib.hid hall
    clear hall
    by_cases hlt : j < 2016
    · have HG := Lib.hid (ref_set_any A 256 cap bs (j : Int) w HB.out)
      rw [setZ_nat] at HG
      cases hs : setN bs j
      · rw [hs] at HG
        have HV := Lib.hid (show chkE bs m seed = 117 by rw [HE.out, allSet_false hmj hlt hs]; rfl)
        clear hs
        go_wp2_with fail
        refine HG.out.mono ?_
        rintro e w' ⟨rfl, rfl⟩
        go_wp2
        go_ret
        exact ⟨ret_int HV.out.symm, rfl⟩
      · rw [hs] at HG
        have HX := Lib.hid (show ∀ i, m ≤ i → i < j + 1 → setN bs i = true from fun i h1 h2 => by
          rcases Nat.lt_or_ge i j with h | h
          · exact X1.out i h1 h
          · obtain rfl : i = j := by omega
            exact hs)
        clear hs
        go_wp2_with fail
        refine HG.out.mono ?_
        rintro e w' ⟨rfl, rfl⟩
        go_wp2
        go_round
        case rel => exact ⟨j + 1, by omega, by omega, by go_num, HX.out⟩
        case measure => simp [intOf]; omega
    · obtain rfl : j = 2016 := by omega
      have HV := Lib.hid (show chkE bs m seed = 0 by rw [HE.out, allSet_true X1.out]; rfl)
      go_wp2
      go_ret
      exact ⟨ret_int HV.out.symm, rfl⟩
theorem zc_le (s : Nat → Bool) : ∀ n, zc s n ≤ n
  | 0 => Nat.le_refl _
  | n + 1 => by have := zc_le s n; simp only [zc]; split <;> omega
theorem ref_zeros_any (A : Option Addr) (n c : Nat) (bs : List UInt8) (w : World) (hb : BytesAt w A n bs) :
    Calls Tryd.prog 14 #[.slice A n c] w fun e w' => e = .returned (.int .i64 (zc (setN bs) 2016)) ∧ w = w' := by
  have HB := Lib.hid hb
  clear hb
  go_enter Tryd.func14, Tryd.ntmps14
  go_wp2_with fail
  go_loop [3, 4] (fun v i => ∃ j : Nat, j ≤ 2016 ∧ i = .int .i64 j ∧ v = .int .i64 (zc (setN bs) j)) (fun _ i => 2016 - (intOf i).toNat)
  case atStart => exact ⟨0, by omega, rfl, rfl⟩
  case round =>
    obtain ⟨j, hj, rfl, rfl⟩ := hrel
    by_cases hlt : j < 2016
    · have HG := Lib.hid (ref_set_any A n c bs (j : Int) w HB.out)
      rw [setZ_nat] at HG
      have HZ := Lib.hid (show zc (setN bs) (j + 1) = zc (setN bs) j + (if setN bs j = false then 1 else 0) from rfl)
      have hzl := zc_le (setN bs) j
      generalize zc (setN bs) j = z at *
      cases hs : setN bs j
      · rw [hs] at HG HZ
        clear hs
        go_wp2_with fail
        refine HG.out.mono ?_
        rintro e w' ⟨rfl, rfl⟩
        go_wp2
        go_round
        case rel => exact ⟨j + 1, by omega, by go_num, by rw [HZ.out]; go_num⟩
        case measure => simp [intOf]; omega
      · rw [hs] at HG HZ
        clear hs
        go_wp2_with fail
        refine HG.out.mono ?_
        rintro e w' ⟨rfl, rfl⟩
        go_wp2
        go_round
        case rel => exact ⟨j + 1, by omega, by go_num, by rw [HZ.out]; rfl⟩
        case measure => simp [intOf]; omega
    · obtain rfl : j = 2016 := by omega
      go_wp2
      go_ret
      exact ⟨rfl, rfl⟩
end Go.Proofs.YtcmpkcmfhfajpaaDoor.Bits

namespace Go.Proofs.YtcmpkcmfhfajpaaDoor.Bits
open Go.RowKit Go.Proofs.YtcmpkcmfhfajpaaDoor.Wire
set_option maxHeartbeats 8000000
set_option maxRecDepth 100000
set_option linter.unusedVariables false
set_option linter.unusedSimpArgs false

/-- Is a chunk free? -/
def frB (bs : List UInt8) (p k : Nat) : Bool := (List.range (2 ^ k)).all fun i => !setN bs (p + i)
theorem frB_iff (bs : List UInt8) (p k : Nat) : frB bs p k = true ↔ fr (setN bs) p k := by
  unfold frB fr
  rw [List.all_eq_true]
  constructor
  · intro h i h1 h2
    have := h (i - p) (by rw [List.mem_range]; omega)
    rw [show p + (i - p) = i by omega] at this
    simpa using this
  · intro h i hi
    rw [List.mem_range] at hi
    rw [h (p + i) (by omega) (by omega)]; rfl
theorem pow_elv (j : Nat) (h : j ≤ 11) : (2 : Int) ^ j = ((2 ^ j : Nat) : Int) ∧ (2 : Nat) ^ j ≤ 2048 ∧ 1 ≤ (2 : Nat) ^ j := by
  refine ⟨by push_cast; rfl, ?_, Nat.one_le_two_pow⟩
  have : (2 : Nat) ^ j ≤ 2 ^ 11 := Nat.pow_le_pow_right (by omega) h
  omega
theorem free_any (A : Option Addr) (n c : Nat) (bs : List UInt8) (p k : Nat) (w : World) (hb : BytesAt w A n bs) (hp : p ≤ 4096) (hk : k ≤ 11) :
    Calls Tryd.prog 42 #[.slice A n c, .int .i64 (p : Int), .int .i64 (k : Int)] w fun e w' => e = .returned (.bool (frB bs p k)) ∧ w = w' := by
  have HB := Lib.hid hb
  obtain ⟨P, hP⟩ : ∃ P, (2 : Nat) ^ k = P := ⟨_, rfl⟩
  have hpt := pow_elv k hk
  rw [hP] at hpt
  obtain ⟨hp1, hp2, hp3⟩ := hpt
  have w1 : IntKind.i64.wrap ((2 : Int) ^ k) = (P : Int) := by rw [hp1, IntKind.wrap_i64]; omega
  have w2 : IntKind.i64.wrap ((p : Int) + (P : Int)) = ((p + P : Nat) : Int) := by rw [IntKind.wrap_i64]; omega
  have k0 : (0 : Int) ≤ (k : Int) := by omega
  have k1 : ¬ (k : Int) < 0 := by omega
  have HPP := Lib.hid hP
  clear hb hP hp1
  go_enter Tryd.func42, Tryd.ntmps42
  go_wp2_with fail
  go_loop [7] (fun i => ∃ j : Nat, p ≤ j ∧ j ≤ p + P ∧ i = .int .i64 j ∧ (∀ i, p ≤ i → i < j → setN bs i = false)) (fun i => p + P - (intOf i).toNat)
  case atStart => exact ⟨p, Nat.le_refl _, by omega, rfl, fun i _ _ => by omega⟩
  case round =>
    obtain ⟨j, hpj, hj, rfl, hall⟩ := hrel
    have X1 := Lib.hid hall
    clear hall
    by_cases hlt : j < p + P
    · have HG := Lib.hid (ref_set_any A n c bs (j : Int) w HB.out)
      rw [setZ_nat] at HG
      have hlt' : (j : Int) < ((p + P : Nat) : Int) := by omega
      cases hs : setN bs j
      · rw [hs] at HG
        have HX := Lib.hid (show ∀ i, p ≤ i → i < j + 1 → setN bs i = false from fun i h1 h2 => by
          rcases Nat.lt_or_ge i j with h | h
          · exact X1.out i h1 h
          · obtain rfl : i = j := by omega
            exact hs)
        clear hs
        go_wp2_with fail
        refine HG.out.mono ?_
        rintro e w' ⟨rfl, rfl⟩
        go_wp2
        go_round
        case rel => exact ⟨j + 1, by omega, by omega, by go_num, HX.out⟩
        case measure => simp [intOf]; omega
      · rw [hs] at HG
        have HV := Lib.hid (show frB bs p k = false by
          rw [Bool.eq_false_iff]
          intro h
          have := (frB_iff bs p k).1 h j hpj (by rw [HPP.out]; exact hlt)
          rw [hs] at this; cases this)
        clear hs
        go_wp2_with fail
        refine HG.out.mono ?_
        rintro e w' ⟨rfl, rfl⟩
        go_wp2
        go_ret
        exact ⟨ret_bool HV.out.symm, rfl⟩
    · obtain rfl : j = p + P := by omega
      have HV := Lib.hid (show frB bs p k = true from (frB_iff bs p k).2 fun i h1 h2 => X1.out i h1 (by rw [HPP.out] at h2; exact h2))
      have hlt' : ¬ ((p + P : Nat) : Int) < ((p + P : Nat) : Int) := by omega
      go_wp2
      go_ret
      exact ⟨ret_bool HV.out.symm, rfl⟩
/-- Is a chunk a buddy's? As the document reckons it. -/
def par (p k : Nat) : Nat := p - p % (2 * 2 ^ k)
def budB (bs : List UInt8) (p k : Nat) : Bool := if 2016 < p + 2 ^ k ∨ frB bs p k = false then false else decide (k = 10) || decide (2016 < par p k + 2 * 2 ^ k) || !frB bs (par p k) (k + 1)
theorem budB_iff (bs : List UInt8) (p k : Nat) (hk : k ≤ 10) (hd : 2 ^ k ∣ p) : budB bs p k = true ↔ buddy (setN bs) p k := by
  have hpp := pow_pos2 k
  have hp2 : 2 * 2 ^ k = 2 ^ (k + 1) := by rw [Nat.pow_succ]; omega
  unfold budB buddy par
  have hout : ∀ q j, 2016 < q + 2 ^ j → ¬ fr (setN bs) q j := fun q j h hf => by
    have hj := pow_pos2 j
    have := hf (q + 2 ^ j - 1) (by omega) (by omega)
    rw [setN_far bs _ (by omega)] at this; cases this
  split
  · rename_i h
    simp only [Bool.false_eq_true, false_iff]
    rintro ⟨_, _, h1, _⟩
    rcases h with h | h
    · exact hout p k h h1
    · rw [(frB_iff bs p k).2 h1] at h; cases h
  · rename_i h
    have h1 : fr (setN bs) p k := (frB_iff bs p k).1 (by cases hf : frB bs p k; exact absurd (.inr hf) h; rfl)
    rw [hp2]
    simp only [Bool.or_eq_true, decide_eq_true_eq, Bool.not_eq_true']
    constructor
    · rintro ((h2 | h2) | h2)
      · exact ⟨hd, hk, h1, .inl h2⟩
      · exact ⟨hd, hk, h1, .inr (hout _ _ h2)⟩
      · exact ⟨hd, hk, h1, .inr fun h3 => by rw [(frB_iff bs _ _).2 h3] at h2; cases h2⟩
    · rintro ⟨_, _, _, h2 | h2⟩
      · exact .inl (.inl h2)
      · right
        cases hf : frB bs (p - p % 2 ^ (k + 1)) (k + 1)
        · rfl
        · exact absurd ((frB_iff bs _ _).1 hf) h2
theorem buddy_any (A : Option Addr) (n c : Nat) (bs : List UInt8) (p k : Nat) (w : World) (hb : BytesAt w A n bs) (hp : p ≤ 2016) (hk : k ≤ 10) :
    Calls Tryd.prog 33 #[.slice A n c, .int .i64 (p : Int), .int .i64 (k : Int)] w fun e w' => e = .returned (.bool (budB bs p k)) ∧ w = w' := by
  have HF1 := Lib.hid (free_any A n c bs p k w hb (by omega) (by omega))
  have hpl : par p k ≤ p := Nat.sub_le _ _
  have HF2 := Lib.hid (free_any A n c bs (par p k) (k + 1) w hb (by omega) (by omega))
  have HBU := Lib.hid (show budB bs p k = if 2016 < p + 2 ^ k ∨ frB bs p k = false then false else decide (k = 10) || decide (2016 < par p k + 2 * 2 ^ k) || !frB bs (par p k) (k + 1) from rfl)
  have HPA := Lib.hid (show par p k = p - p % (2 * 2 ^ k) from rfl)
  generalize par p k = pa at *
  generalize frB bs p k = f1 at *
  generalize frB bs pa (k + 1) = f2 at *
  obtain ⟨P, hP⟩ : ∃ P, (2 : Nat) ^ k = P := ⟨_, rfl⟩
  have hpt := pow_ten k hk
  rw [hP] at hpt HBU HPA
  obtain ⟨hp1, hp2, hp3⟩ := hpt
  have w1 : IntKind.i64.wrap ((2 : Int) ^ k) = (P : Int) := by rw [hp1, IntKind.wrap_i64]; omega
  have w2 : IntKind.i64.wrap ((p : Int) + (P : Int)) = ((p + P : Nat) : Int) := by rw [IntKind.wrap_i64]; omega
  have hml := Nat.mod_le p (2 * P)
  obtain ⟨M, hM⟩ : ∃ M, p % (2 * P) = M := ⟨_, rfl⟩
  have w4 : (p : Int) % (2 * (P : Int)) = (M : Int) := by
    rw [show (2 * (P : Int)) = ((2 * P : Nat) : Int) by omega, ← Int.natCast_emod, hM]
  rw [hM] at HPA hml
  have hpa : pa = p - M := HPA.out
  have w5 : (p : Int) - (M : Int) = (pa : Int) := by omega
  rw [show ((k + 1 : Nat) : Int) = (k : Int) + 1 by omega] at HF2
  have k0 : (0 : Int) ≤ (k : Int) := by omega
  have k1 : ¬ (k : Int) < 0 := by omega
  clear hb hP hp1 hM hpa
  have HK2 := Lib.hid hml
  by_cases c1 : 2016 < p + P
  · have HV := Lib.hid (show budB bs p k = false by rw [HBU.out, if_pos (.inl c1)])
    have c1' : (2016 : Int) < ((p + P : Nat) : Int) := by omega
    go_enter Tryd.func33, Tryd.ntmps33
    go_wp2_with fail
    go_ret
    exact ⟨ret_bool HV.out.symm, rfl⟩
  have c1' : ¬ (2016 : Int) < ((p + P : Nat) : Int) := by omega
  cases f1 with
  | false =>
    have HV := Lib.hid (show budB bs p k = false by rw [HBU.out, if_pos (.inr rfl)])
    go_enter Tryd.func33, Tryd.ntmps33
    go_wp2_with fail
    refine HF1.out.mono ?_
    rintro e w' ⟨rfl, rfl⟩
    go_wp2_with fail
    go_ret
    exact ⟨ret_bool HV.out.symm, rfl⟩
  | true =>
    have HBV := Lib.hid (show budB bs p k = (decide (k = 10) || decide (2016 < pa + 2 * P) || !f2) by rw [HBU.out, if_neg (by rintro (h | h); exact c1 h; cases h)])
    by_cases c2 : k = 10
    · have HV := Lib.hid (show budB bs p k = true by rw [HBV.out, c2]; simp)
      have HC2 := Lib.hid (show ((k : Int) == 10) = true by simp; omega)
      clear c2
      go_enter Tryd.func33, Tryd.ntmps33
      go_wp2_with fail
      refine HF1.out.mono ?_
      rintro e w' ⟨rfl, rfl⟩
      have c2' := HC2.out
      clear w1 w2
      go_wp2_with fail
      go_ret
      exact ⟨ret_bool HV.out.symm, rfl⟩
    have c2' : ((k : Int) == 10) = false := by simp; omega
    by_cases c3 : 2016 < pa + 2 * P
    · have HV := Lib.hid (show budB bs p k = true by rw [HBV.out]; simp [c3])
      have c3' : (2016 : Int) < (pa : Int) + 2 * (P : Int) := by omega
      go_enter Tryd.func33, Tryd.ntmps33
      go_wp2_with fail
      refine HF1.out.mono ?_
      rintro e w' ⟨rfl, rfl⟩
      go_wp2_with fail
      go_ret
      exact ⟨ret_bool HV.out.symm, rfl⟩
    have c3' : ¬ (2016 : Int) < (pa : Int) + 2 * (P : Int) := by omega
    have HV := Lib.hid (show (decide ((2016 : Int) < (pa : Int) + 2 * (P : Int)) || !f2) = budB bs p k by rw [HBV.out, decide_eq_false c3', decide_eq_false c2, decide_eq_false c3]; rfl)
    go_enter Tryd.func33, Tryd.ntmps33
    go_wp2_with fail
    refine HF1.out.mono ?_
    rintro e w' ⟨rfl, rfl⟩
    go_wp2_with fail
    refine HF2.out.mono ?_
    rintro e w' ⟨rfl, rfl⟩
    go_wp2_with fail
    go_ret
    exact ⟨ret_bool HV.out, rfl⟩
/-- The first chunk of an order that is a buddy's. -/
noncomputable def firstZ (bs : List UInt8) (k : Nat) : Int := match fst? (setN bs) k 2017 with | some p => (p : Int) | none => -1
theorem firstZ_some {bs : List UInt8} {k p : Nat} (hk : k ≤ 10) (hp : p ≤ 2016) (hb : buddy (setN bs) p k) (hn : ∀ q, q < p → ¬ buddy (setN bs) q k) : firstZ bs k = (p : Int) := by
  unfold firstZ
  cases hf : fst? (setN bs) k 2017 with
  | none =>
    exfalso
    have hc := (fst_none 2017).1 hf
    have : ∀ m, p < m → 0 < cnt (setN bs) k m := fun m => by
      induction m with
      | zero => intro h; omega
      | succ m ih =>
        intro h1
        simp only [cnt]
        rcases Nat.lt_or_ge p m with h | h
        · have := ih h; omega
        · obtain rfl : p = m := by omega
          rw [if_pos hb]; omega
    have := this 2017 (by omega)
    omega
  | some q =>
    obtain ⟨h1, h2, h3⟩ := fst_some 2017 q hf
    rcases Nat.lt_trichotomy p q with h | h | h
    · exact absurd hb (h3 p h)
    · simp [h]
    · exact absurd h1 (hn q h)
theorem firstZ_none {bs : List UInt8} {k : Nat} (hn : ∀ q, q < 2017 → ¬ buddy (setN bs) q k) : firstZ bs k = -1 := by
  unfold firstZ
  cases hf : fst? (setN bs) k 2017 with
  | none => rfl
  | some q =>
    obtain ⟨h1, h2, _⟩ := fst_some 2017 q hf
    exact absurd h1 (hn q h2)
theorem first_any (A : Option Addr) (n c : Nat) (bs : List UInt8) (k : Nat) (w : World) (hb : BytesAt w A n bs) (hk : k ≤ 10) :
    Calls Tryd.prog 31 #[.slice A n c, .int .i64 (k : Int)] w fun e w' => e = .returned (.int .i64 (firstZ bs k)) ∧ w = w' := by
  have HB := Lib.hid hb
  obtain ⟨P, hP⟩ : ∃ P, (2 : Nat) ^ k = P := ⟨_, rfl⟩
  have hpt := pow_ten k hk
  rw [hP] at hpt
  obtain ⟨hp1, hp2, hp3⟩ := hpt
  have w1 : IntKind.i64.wrap ((2 : Int) ^ k) = (P : Int) := by rw [hp1, IntKind.wrap_i64]; omega
  have k0 : (0 : Int) ≤ (k : Int) := by omega
  have k1 : ¬ (k : Int) < 0 := by omega
  have HPP := Lib.hid hP
  clear hb hP hp1
  go_enter Tryd.func31, Tryd.ntmps31
  go_wp2_with fail
  go_loop [5] (fun i => ∃ j : Nat, P ∣ j ∧ j ≤ 2016 + P ∧ i = .int .i64 j ∧ (∀ q, q < j → ¬ buddy (setN bs) q k)) (fun i => 2016 + P - (intOf i).toNat)
  case atStart => exact ⟨0, Nat.dvd_zero _, by omega, rfl, fun i _ => by omega⟩
  case round =>
    obtain ⟨j, hd, hj, rfl, hall⟩ := hrel
    have X1 := Lib.hid hall
    have XD := Lib.hid hd
    clear hall hd
    by_cases hlt : j < 2016
    · have HG := Lib.hid (buddy_any A n c bs j k w HB.out (by omega) hk)
      have HBI := Lib.hid (budB_iff bs j k hk (by rw [HPP.out]; exact XD.out))
      cases hs : budB bs j k
      · rw [hs] at HG HBI
        have HX := Lib.hid (show ∀ q, q < j + P → ¬ buddy (setN bs) q k from fun q h1 h2 => by
          rcases Nat.lt_or_ge q j with h | h
          · exact X1.out q h h2
          · rcases Nat.eq_or_lt_of_le h with rfl | h
            · exact absurd (HBI.out.2 h2) (by simp)
            · have hq := h2.1
              rw [HPP.out] at hq
              have := dy1 XD.out hq h
              omega)
        have HDD := Lib.hid (show P ∣ j + P from (Nat.dvd_add_right XD.out).2 (Nat.dvd_refl P))
        clear hs
        go_wp2_with fail
        refine HG.out.mono ?_
        rintro e w' ⟨rfl, rfl⟩
        go_wp2
        go_round
        case rel => exact ⟨j + P, HDD.out, by omega, by go_num, HX.out⟩
        case measure => simp [intOf]; omega
      · rw [hs] at HG HBI
        have HV := Lib.hid (firstZ_some hk (by omega) (HBI.out.1 rfl) X1.out)
        clear hs
        go_wp2_with fail
        refine HG.out.mono ?_
        rintro e w' ⟨rfl, rfl⟩
        go_wp2
        go_ret
        exact ⟨ret_int HV.out.symm, rfl⟩
    · have HV := Lib.hid (show firstZ bs k = -1 from firstZ_none fun q hq hb => by
        rcases Nat.lt_or_ge q j with h | h
        · exact X1.out q h hb
        · have := hb.2.2.1 2016 (by omega) (by have := pow_pos2 k; omega)
          rw [setN_far bs 2016 (Nat.le_refl _)] at this; cases this)
      go_wp2
      go_ret
      exact ⟨ret_int HV.out.symm, rfl⟩
end Go.Proofs.YtcmpkcmfhfajpaaDoor.Bits

namespace Go.Proofs.YtcmpkcmfhfajpaaDoor.Bits
open Go.RowKit Go.Proofs.YtcmpkcmfhfajpaaDoor.Wire
set_option maxHeartbeats 16000000
set_option maxRecDepth 100000
set_option linter.unusedVariables false
set_option linter.unusedSimpArgs false

/-- What the document's Orders holds: all orders below k counted, of order k those ahead of i. -/
structure OL (bs : List UInt8) (k i : Nat) (l : List Int) : Prop where
  len : l.length = 11
  lo : ∀ q, q < k → q ≤ 10 → l.getD q 0 = (cnt (setN bs) q 2017 : Int)
  at_ : k ≤ 10 → l.getD k 0 = (cnt (setN bs) k i : Int)
  hi : ∀ q, k < q → l.getD q 0 = 0
theorem OL.start (bs : List UInt8) : OL bs 0 0 (List.replicate 11 0) := ⟨rfl, fun q h => by omega, fun _ => rep_zero 0, fun q _ => rep_zero q⟩
theorem OL.next {bs : List UInt8} {k i : Nat} {l : List Int} (h : OL bs k i l) (hi : cnt (setN bs) k i = cnt (setN bs) k 2017) : OL bs (k + 1) 0 l :=
  ⟨h.len, fun q h1 h2 => by
    rcases Nat.lt_or_ge q k with h3 | h3
    · exact h.lo q h3 h2
    · obtain rfl : q = k := by omega
      rw [h.at_ h2, hi], fun h1 => by rw [h.hi _ (Nat.lt_succ_self k)]; rfl, fun q h1 => h.hi q (by omega)⟩
theorem OL.skip {bs : List UInt8} {k i j : Nat} {l : List Int} (h : OL bs k i l) (hi : cnt (setN bs) k j = cnt (setN bs) k i) : OL bs k j l :=
  ⟨h.len, h.lo, fun h1 => by rw [h.at_ h1, hi], h.hi⟩
theorem OL.up {bs : List UInt8} {k i j : Nat} {l : List Int} (h : OL bs k i l) (hk : k ≤ 10) (hi : cnt (setN bs) k j = cnt (setN bs) k i + 1) : OL bs k j (l.set k (l.getD k 0 + 1)) :=
  ⟨by rw [List.length_set]; exact h.len, fun q h1 h2 => by rw [getD_set_other (by omega)]; exact h.lo q h1 h2,
   fun h1 => by rw [getD_set_self (by rw [h.len]; omega), h.at_ h1, hi]; push_cast; rfl, fun q h1 => by rw [getD_set_other (by omega)]; exact h.hi q h1⟩
theorem OL.done {bs : List UInt8} {i : Nat} {l : List Int} (h : OL bs 11 i l) : l = (bo (setN bs)).2 := by
  have hg := bo_good (setN bs) (setN_far bs 2016 (Nat.le_refl _))
  apply List.ext_getElem (by rw [h.len, hg.l2])
  intro q h1 h2
  have e1 := h.lo q (by rw [h.len] at h1; omega) (by rw [h.len] at h1; omega)
  have e2 := hg.c q (by rw [h.len] at h1; omega)
  rw [← e2, List.getD_eq_getElem?_getD, List.getD_eq_getElem?_getD, List.getElem?_eq_getElem h1, List.getElem?_eq_getElem h2] at e1
  exact e1
theorem cnt_le (s : Nat → Bool) (k : Nat) : ∀ n, cnt s k n ≤ n
  | 0 => Nat.le_refl _
  | n + 1 => by have := cnt_le s k n; simp only [cnt]; split <;> omega
theorem no_far {bs : List UInt8} {q k : Nat} (h : 2016 ≤ q) : ¬ buddy (setN bs) q k := fun hb => by
  have := hb.2.2.1 q (Nat.le_refl _) (by have := pow_pos2 k; omega)
  rw [setN_far bs q h] at this; cases this
theorem cnt_far {bs : List UInt8} {k j : Nat} (h : 2016 ≤ j) : cnt (setN bs) k j = cnt (setN bs) k 2016 := by
  have := (cnt_gap (s := setN bs) (a := 2016) (k := k) (j - 2016) (fun p h1 _ => no_far h1)).1
  rwa [show 2016 + (j - 2016) = j by omega] at this
theorem cnt_step {bs : List UInt8} {k j : Nat} (hd : 2 ^ k ∣ j) : cnt (setN bs) k (j + 2 ^ k) = cnt (setN bs) k (j + 1) := by
  have hp := pow_pos2 k
  have := (cnt_gap (s := setN bs) (a := j + 1) (k := k) (2 ^ k - 1) (fun p h1 h2 hb => by
    have := dy1 hd hb.1 (by omega)
    omega)).1
  rwa [show j + 1 + (2 ^ k - 1) = j + 2 ^ k by omega] at this
theorem cells_get {l : List Int} {k : Nat} (h : k < l.length) : ((ints l).toArray)[k]? = some (.int .i64 (l.getD k 0)) := by
  rw [List.getElem?_toArray]
  simp only [ints, List.getElem?_map, List.getD_eq_getElem?_getD]
  rw [List.getElem?_eq_getElem h]; rfl
theorem cells_set (l : List Int) (k : Nat) (x : Int) : ((ints l).toArray).setIfInBounds k (.int .i64 x) = (ints (l.set k x)).toArray := by
  rw [List.setIfInBounds_toArray]; simp [ints, List.map_set]
theorem cells_one (l : List Int) : (ints l).toArray.all (·.oneCell') = true := by
  rw [Array.all_eq_true_iff_forall_mem]
  intro u hu
  simp only [List.mem_toArray, ints, List.mem_map] at hu
  obtain ⟨x, _, rfl⟩ := hu
  rfl
theorem ends_rorders {w wf : World} {l : List Int} (hl : l.length = 11) (hk : Blk wf w.heap.size 27 (ints l).toArray) (hb : Below w.heap.size w wf) (a : Act) (ha : a.defers = []) (ht : a.tmps.getD 2 undef = .pointer (some ⟨w.heap.size, 0, none⟩)) :
    bodyPost Tryd.prog Tryd.f16 (fun e w' => e = .returned (.agg (ints l).toArray) ∧ Below w.heap.size w w') .ret a wf :=
  bodyPost_ret (results_cell_row (P := Tryd.prog) (fn := Tryd.f16) (p := 2) (ty := 27) rfl a.tmps wf w.heap.size 27 (ints l).toArray (0, 0) _ ht hk Tryd.underlying27 rfl (by rw [show (ints l).toArray.size = 11 by simp [ints, hl]]; kernel_rfl)) ha ⟨rfl, hb⟩
theorem ref_orders_any (A : Option Addr) (n c : Nat) (bs : List UInt8) (w : World) (hb : BytesAt w A n bs) :
    Calls Tryd.prog 16 #[.slice A n c] w fun e w' => e = .returned (.agg (ints (bo (setN bs)).2).toArray) ∧ Below w.heap.size w w' := by
  obtain ⟨W, hW⟩ : ∃ W, (w.alloc (.cells #[.int .i64 0, .int .i64 0, .int .i64 0, .int .i64 0, .int .i64 0, .int .i64 0, .int .i64 0, .int .i64 0, .int .i64 0, .int .i64 0, .int .i64 0] 27)).alloc (.cells #[.int .i64 0, .int .i64 0, .int .i64 0, .int .i64 0, .int .i64 0, .int .i64 0, .int .i64 0, .int .i64 0, .int .i64 0, .int .i64 0, .int .i64 0] 27) = W := ⟨_, rfl⟩
  have hbx : Blk W w.heap.size 27 #[.int .i64 0, .int .i64 0, .int .i64 0, .int .i64 0, .int .i64 0, .int .i64 0, .int .i64 0, .int .i64 0, .int .i64 0, .int .i64 0, .int .i64 0] ∧ Blk W (w.heap.size + 1) 27 (ints (List.replicate 11 0)).toArray ∧ Below w.heap.size w W := by
    subst hW
    refine ⟨(Blk.new w _ _).alloc _, ?_, ((Below.refl w.heap.size w).alloc (Nat.le_refl _) _).alloc (by simp) _⟩
    have := Blk.new (w.alloc (.cells #[.int .i64 0, .int .i64 0, .int .i64 0, .int .i64 0, .int .i64 0, .int .i64 0, .int .i64 0, .int .i64 0, .int .i64 0, .int .i64 0, .int .i64 0] 27)) 27 #[.int .i64 0, .int .i64 0, .int .i64 0, .int .i64 0, .int .i64 0, .int .i64 0, .int .i64 0, .int .i64 0, .int .i64 0, .int .i64 0, .int .i64 0]
    rw [show (w.alloc (.cells #[.int .i64 0, .int .i64 0, .int .i64 0, .int .i64 0, .int .i64 0, .int .i64 0, .int .i64 0, .int .i64 0, .int .i64 0, .int .i64 0, .int .i64 0] 27)).heap.size = w.heap.size + 1 from by simp] at this
    exact this
  obtain ⟨b0, b1, hbel⟩ := hbx
  have HW := Lib.hid hW
  have Z1 := Lib.hid b0
  have K1 := Lib.hid b1
  have B1 := Lib.hid hbel
  have HB := Lib.hid hb
  have O0 := Lib.hid (OL.start bs)
  clear hW b0 b1 hbel hb
  go_enter Tryd.func16, Tryd.ntmps16
  go_wp2_with fail
  rw [HW.out]
  go_loopw [4, 5] (fun kk _ wr => ∃ (k : Nat) (l : List Int), k ≤ 11 ∧ kk = .int .i64 k ∧ OL bs k 0 l ∧ Blk wr w.heap.size 27 #[.int .i64 0, .int .i64 0, .int .i64 0, .int .i64 0, .int .i64 0, .int .i64 0, .int .i64 0, .int .i64 0, .int .i64 0, .int .i64 0, .int .i64 0] ∧ Blk wr (w.heap.size + 1) 27 (ints l).toArray ∧ Below w.heap.size w wr) (fun kk _ _ => 11 - (intOf kk).toNat)
  case atStart => exact ⟨0, List.replicate 11 0, by omega, rfl, O0.out, Z1.out, K1.out, B1.out⟩
  case round =>
    obtain ⟨k, l, hk, rfl, hol, hz, hkk, hbel⟩ := hrel
    have O1 := Lib.hid hol
    have Z4 := Lib.hid hz
    have K4 := Lib.hid hkk
    have B4 := Lib.hid hbel
    clear hol hz hkk hbel
    by_cases hlt : k ≤ 10
    · have k0 : (0 : Int) ≤ (k : Int) := by omega
      have k1 : ¬ (k : Int) < 0 := by omega
      have k2 : (k : Int) < 11 := by omega
      obtain ⟨P, hP⟩ : ∃ P, (2 : Nat) ^ k = P := ⟨_, rfl⟩
      have hpt := pow_ten k hlt
      rw [hP] at hpt
      obtain ⟨hp1, hp2, hp3⟩ := hpt
      have w1 : IntKind.i64.wrap ((2 : Int) ^ k) = (P : Int) := by rw [hp1, IntKind.wrap_i64]; omega
      have HPP := Lib.hid hP
      clear hP hp1
      go_wp2_with fail
      go_loopw [5] (fun ii wq => ∃ (i : Nat) (l' : List Int), P ∣ i ∧ i ≤ 2016 + P ∧ ii = .int .i64 i ∧ OL bs k i l' ∧ Blk wq w.heap.size 27 #[.int .i64 0, .int .i64 0, .int .i64 0, .int .i64 0, .int .i64 0, .int .i64 0, .int .i64 0, .int .i64 0, .int .i64 0, .int .i64 0, .int .i64 0] ∧ Blk wq (w.heap.size + 1) 27 (ints l').toArray ∧ Below w.heap.size w wq) (fun ii _ => 2016 + P - (intOf ii).toNat)
      case atStart => exact ⟨0, l, Nat.dvd_zero _, by omega, rfl, O1.out, Z4.out, K4.out, B4.out⟩
      case round =>
        obtain ⟨i, l', hd, hi, rfl, hol, hz, hkk, hbel⟩ := hrel
        have XD := Lib.hid hd
        have O2 := Lib.hid hol
        have Z5 := Lib.hid hz
        have K5 := Lib.hid hkk
        have B5 := Lib.hid hbel
        clear hd hol hz hkk hbel
        by_cases hli : i < 2016
        · have HG := Lib.hid (buddy_any A n c bs i k wr (HB.out.below B5.out) (by omega) hlt)
          have HBI := Lib.hid (budB_iff bs i k hlt (by rw [HPP.out]; exact XD.out))
          have HCS := Lib.hid (show cnt (setN bs) k (i + P) = cnt (setN bs) k (i + 1) by rw [← HPP.out]; exact cnt_step (by rw [HPP.out]; exact XD.out))
          have HDD := Lib.hid (show P ∣ i + P from (Nat.dvd_add_right XD.out).2 (Nat.dvd_refl P))
          cases hs : budB bs i k
          · rw [hs] at HG HBI
            have HX := Lib.hid (show OL bs k (i + P) l' from O2.out.skip (by
              rw [HCS.out]
              simp only [cnt]
              rw [if_neg (fun h => absurd (HBI.out.2 h) (by simp))]; rfl))
            clear hs
            go_wp2_with fail
            refine HG.out.mono ?_
            rintro e w' ⟨rfl, rfl⟩
            go_wp2
            go_roundw
            case rel => exact ⟨i + P, l', HDD.out, by omega, by go_num, HX.out, Z5.out, K5.out, B5.out⟩
            case measure => simp [intOf]; omega
          · rw [hs] at HG HBI
            have HX := Lib.hid (show OL bs k (i + P) (l'.set k (l'.getD k 0 + 1)) from O2.out.up hlt (by
              rw [HCS.out]
              simp only [cnt]
              rw [if_pos (HBI.out.1 rfl)]))
            have c1 : wr.cell? ⟨w.heap.size + 1, k, none⟩ = some (.int .i64 (l'.getD k 0)) := (K5.out.cell k).trans (cells_get (by rw [O2.out.len]; omega))
            have f1 : wr.frozen? ⟨w.heap.size + 1, k, none⟩ = false := K5.out.frozen k
            have hcv := O2.out.at_ hlt
            have hcl := cnt_le (setN bs) k i
            have hv0 : 0 ≤ l'.getD k 0 ∧ l'.getD k 0 ≤ 3000 := by omega
            have HK := Lib.hid (show Blk (wr.setCell ⟨w.heap.size + 1, k, none⟩ (.int .i64 (l'.getD k 0 + 1))) (w.heap.size + 1) 27 (ints (l'.set k (l'.getD k 0 + 1))).toArray by
              have := K5.out.set_ k (.int .i64 (l'.getD k 0 + 1))
              rwa [cells_set] at this)
            have HZ := Lib.hid (show Blk (wr.setCell ⟨w.heap.size + 1, k, none⟩ (.int .i64 (l'.getD k 0 + 1))) w.heap.size 27 #[.int .i64 0, .int .i64 0, .int .i64 0, .int .i64 0, .int .i64 0, .int .i64 0, .int .i64 0, .int .i64 0, .int .i64 0, .int .i64 0, .int .i64 0] from Z5.out.far (by simp) _)
            have HBe := Lib.hid (B5.out.setCell (p := ⟨w.heap.size + 1, k, none⟩) (by simp) (.int .i64 (l'.getD k 0 + 1)))
            generalize l'.getD k 0 = v at *
            obtain ⟨hv1, hv2⟩ := hv0
            clear hs hcv hcl
            go_wp2_with fail
            refine HG.out.mono ?_
            rintro e w' ⟨rfl, rfl⟩
            go_wp2
            go_roundw
            case rel => exact ⟨i + P, l'.set k (v + 1), HDD.out, by omega, by go_num, HX.out, HZ.out, HK.out, HBe.out⟩
            case measure => simp [intOf]; omega
        · have HX := Lib.hid (show OL bs (k + 1) 0 l' from O2.out.next (by rw [cnt_far (by omega), cnt_far (j := 2017) (by omega)]))
          go_wp2
          go_roundw
          case rel => exact ⟨k + 1, l', by omega, by go_num, HX.out, Z5.out, K5.out, B5.out⟩
          case measure => simp [intOf]; omega
    · obtain rfl : k = 11 := by omega
      have HD := Lib.hid O1.out.done
      have HON := Lib.hid (cells_one l)
      have hsz : (ints l).toArray.size = 11 := by simp [ints, O1.out.len]
      have HSZ := Lib.hid hsz
      have HIN := Lib.hid (show (Tryd.prog.info? 27).map (·.size) = some (ints l).toArray.size by rw [hsz]; kernel_rfl)
      obtain ⟨cs, hcs⟩ : ∃ cs, (ints l).toArray = cs := ⟨_, rfl⟩
      have HCS := Lib.hid hcs
      rw [hcs] at K4 HON HSZ HIN
      clear hsz hcs
      go_wp2_with (first
        | (refine wpList_load_row rfl 27 (.tmp 3) rfl (w.heap.size + 1) rfl 27 cs (0, 0) _ K4.out Tryd.underlying27 rfl HIN.out ?_)
        | (refine wpList_store_row rfl 27 (.tmp 2) (.tmp 25) rfl w.heap.size cs rfl rfl 27 _ Z4.out HIN.out (by rw [HSZ.out]; rfl) HON.out ?_)
        | fail)
      rw [← HD.out]
      have hk := setRow_heap wr w.heap.size _ cs 27 (0, 0) Z4.out
      have hb := below_rowSet B4.out cs
      rw [← HCS.out] at hk hb ⊢
      exact ends_rorders O1.out.len hk hb _ rfl rfl
end Go.Proofs.YtcmpkcmfhfajpaaDoor.Bits

namespace Go.Proofs.YtcmpkcmfhfajpaaDoor.Bits
open Go.RowKit Go.Proofs.YtcmpkcmfhfajpaaDoor.Wire
set_option maxHeartbeats 16000000
set_option maxRecDepth 100000
set_option linter.unusedVariables false
set_option linter.unusedSimpArgs false

theorem upF_none {c : List Int} : ∀ m k, (∀ j, k ≤ j → j < k + m → ¬ 0 < c.getD j 0) → upF c m k = none
  | 0, _, _ => rfl
  | m + 1, k, h => by rw [upF, if_neg (h k (Nat.le_refl _) (by omega))]; exact upF_none m (k + 1) fun j h1 h2 => h j (by omega) (by omega)
theorem dnF_none {c : List Int} : ∀ k, (∀ j, j < k → ¬ 0 < c.getD j 0) → dnF c k = none
  | 0, _ => rfl
  | k + 1, h => by rw [dnF, if_neg (h k (by omega))]; exact dnF_none k fun j h1 => h j (by omega)
theorem leastOf_le (want : Int) : leastOf want ≤ 10 := Lib.bitLenAux_le 64 _ 10 (by omega)
theorem zc_all {s : Nat → Bool} : ∀ n, zc s n = 0 → ∀ i, i < n → s i = true
  | 0, _, i, h => by omega
  | n + 1, hz, i, h => by
    simp only [zc] at hz
    have hs : s n = true := by
      cases e : s n
      · rw [e, if_pos rfl] at hz; omega
      · rfl
    rcases Nat.lt_or_ge i n with h1 | h1
    · exact zc_all n (by omega) i h1
    · obtain rfl : i = n := by omega
      exact hs
theorem findC_full {bs : List UInt8} (h : zc (setN bs) 2016 = 0) (want : Int) : findC (bo (setN bs)) want = (0, 0, false) := by
  have hg := bo_good (setN bs) (setN_far bs 2016 (Nat.le_refl _))
  have hc : ∀ k, k ≤ 10 → ¬ 0 < (bo (setN bs)).2.getD k 0 := fun k hk => by
    have : ∀ n, cnt (setN bs) k n = 0 := fun n => by
      induction n with
      | zero => rfl
      | succ n ih =>
        simp only [cnt, ih]
        rw [if_neg]
        intro hb
        have h1 := hb.2.2.1 n (Nat.le_refl _) (by have := pow_pos2 k; omega)
        rcases Nat.lt_or_ge n 2016 with h2 | h2
        · rw [zc_all 2016 h n h2] at h1; cases h1
        · rw [setN_far bs n h2] at h1; cases h1
    rw [hg.c k hk, this]; omega
  have hl := leastOf_le want
  unfold findC
  rw [upF_none _ _ (fun j h1 h2 => hc j (by omega)), dnF_none _ (fun j h1 => hc j (by omega))]
theorem setZ_full {bs : List UInt8} (h : zc (setN bs) 2016 = 0) (z : Int) : setZ bs z = true := by
  cases hs : setZ bs z
  · have hlo := setZ_low hs
    rw [setZ] at hs
    simp only [Bool.or_eq_false_iff] at hs
    rw [zc_all 2016 h z.toNat (by omega)] at hs
    cases hs.2
  · rfl
theorem runN_set {bs : List UInt8} {goal want : Int} (hw : 1 ≤ want) (h : goal < 0 ∨ setZ bs goal = true) : runN bs goal want = 0 := by
  unfold runN
  split
  · rename_i h0
    have : setZ bs goal = true := by rcases h with h | h; omega; exact h
    obtain ⟨m, hm⟩ : ∃ m, (min want 2017).toNat = m + 1 := ⟨(min want 2017).toNat - 1, by omega⟩
    rw [hm, runF, show goal + ((0 : Nat) : Int) = goal by omega, if_pos this]
  · rfl
theorem runF_ge (bs : List UInt8) (g : Int) : ∀ m n, n ≤ runF bs g m n
  | 0, n => Nat.le_refl _
  | m + 1, n => by rw [runF]; split; exact Nat.le_refl _; have := runF_ge bs g m (n + 1); omega
theorem runN_free {bs : List UInt8} {goal want : Int} (hw : 1 ≤ want) (h : setZ bs goal = false) : 0 < runN bs goal want := by
  have hlo := setZ_low h
  unfold runN
  rw [if_pos hlo.1]
  obtain ⟨m, hm⟩ : ∃ m, (min want 2017).toNat = m + 1 := ⟨(min want 2017).toNat - 1, by omega⟩
  rw [hm, runF, show goal + ((0 : Nat) : Int) = goal by omega, if_neg (by rw [h]; simp)]
  have := runF_ge bs goal m (0 + 1)
  omega
theorem firstZ_bo {bs : List UInt8} {k : Nat} (hk : k ≤ 10) : firstZ bs k = if 0 < (bo (setN bs)).2.getD k 0 then (bo (setN bs)).1.getD k 0 else -1 := by
  have hg := bo_good (setN bs) (setN_far bs 2016 (Nat.le_refl _))
  rw [hg.c k hk, hg.f k hk]
  unfold firstZ
  cases hf : fst? (setN bs) k 2017 with
  | none => rw [(fst_none 2017).1 hf]; rfl
  | some p =>
    have : cnt (setN bs) k 2017 ≠ 0 := fun h => by rw [(fst_none 2017).2 h] at hf; cases hf
    rw [if_pos (by omega)]; rfl
theorem bo_first_nonneg {bs : List UInt8} {k : Nat} (hk : k ≤ 10) : 0 ≤ (bo (setN bs)).1.getD k 0 := by
  have hg := bo_good (setN bs) (setN_far bs 2016 (Nat.le_refl _))
  rw [hg.f k hk]; omega
/-- The least order of so many. -/
theorem least_lt {want : Int} {k : Nat} (h : k < leastOf want) : ((2 ^ k : Nat) : Int) < min want 1024 := by
  have h2 : ¬ leastOf want ≤ k := by omega
  rcases Int.lt_or_le ((2 ^ k : Nat) : Int) (min want 1024) with h3 | h3
  · exact h3
  · exfalso
    apply h2
    have hp := pow_pos2 k
    exact Lib.bitLenAux_le 64 _ k (by omega)
theorem lt_bitLenAux : ∀ (f x : Nat), x < 2 ^ f → x < 2 ^ Lib.bitLenAux f x
  | 0, x, h => by simp only [Lib.bitLenAux]; exact h
  | f + 1, x, h => by
    simp only [Lib.bitLenAux]
    split
    · omega
    · have := lt_bitLenAux f (x / 2) (by rw [Nat.pow_succ] at h; omega)
      rw [show 1 + Lib.bitLenAux f (x / 2) = Lib.bitLenAux f (x / 2) + 1 by omega, Nat.pow_succ]; omega
theorem least_ge {want : Int} : min want 1024 ≤ ((2 ^ leastOf want : Nat) : Int) := by
  have h := lt_bitLenAux 64 (min want 1024 - 1).toNat (by have : (2 : Nat) ^ 64 = 18446744073709551616 := by decide
                                                          omega)
  have e : leastOf want = Lib.bitLenAux 64 (min want 1024 - 1).toNat := rfl
  rw [← e] at h
  omega
theorem ref_find_any (A : Option Addr) (n c : Nat) (bs : List UInt8) (goal want : Int) (w : World) (hb : BytesAt w A n bs) (hg : goal ≤ 9223372036854775807) :
    Calls Tryd.prog 12 #[.slice A n c, .int .i64 goal, .int .i64 want] w fun e w' => e = .returned (.tuple #[.int .i64 (findX bs goal want).1, .int .i64 (findX bs goal want).2.1, .bool (findX bs goal want).2.2]) ∧ Below w.heap.size w w' := by
  by_cases hw : want < 1
  · have HF := Lib.hid (show findX bs goal want = (0, 0, false) by rw [findX, if_pos hw])
    go_enter Tryd.func12, Tryd.ntmps12
    go_wp2
    go_ret3
    exact ⟨by rw [HF.out]; rfl, Below.refl _ _⟩
  have HFX := Lib.hid (show findX bs goal want = if 0 < runN bs goal want then (goal, (runN bs goal want : Int), true) else findC (bo (setN bs)) want by rw [findX, if_neg hw])
  have HZE := Lib.hid (ref_zeros_any A n c bs w hb)
  have HB := Lib.hid hb
  have hzl := zc_le (setN bs) 2016
  clear hb
  by_cases hz : zc (setN bs) 2016 = 0
  · have HF := Lib.hid (show findX bs goal want = (0, 0, false) by rw [HFX.out, runN_set (by omega) (.inr (setZ_full hz goal)), if_neg (by omega), findC_full hz])
    rw [hz] at HZE
    clear hz hzl
    go_enter Tryd.func12, Tryd.ntmps12
    go_wp2_with fail
    refine HZE.out.mono ?_
    rintro e w' ⟨rfl, rfl⟩
    go_wp2_with fail
    go_ret3
    exact ⟨by rw [HF.out]; rfl, Below.refl _ _⟩
  have hzb : ((zc (setN bs) 2016 : Int) == 0) = false := by simp; omega
  generalize zc (setN bs) 2016 = Z at *
  have HS := Lib.hid (ref_set_any A n c bs goal w HB.out)
  cases hs : setZ bs goal
  · have hlo := setZ_low hs
    have HRF := Lib.hid (runN_free (bs := bs) (goal := goal) (want := want) (by omega) hs)
    have HF := Lib.hid (show findX bs goal want = (goal, (runN bs goal want : Int), true) by rw [HFX.out, if_pos HRF.out])
    have HRN := Lib.hid (show runN bs goal want = runF bs goal (min want 2017).toNat 0 by rw [runN, if_pos hlo.1])
    obtain ⟨R, hR⟩ : ∃ R, runN bs goal want = R := ⟨_, rfl⟩
    rw [hR] at HF HRN
    obtain ⟨M, hM⟩ : ∃ M, (min want 2017).toNat = M := ⟨_, rfl⟩
    rw [hM] at HRN
    have hMw : (M : Int) ≤ want ∧ (M = 2017 ∨ (M : Int) = want) := by omega
    rw [hs] at HS
    clear hs hR hM hz
    obtain ⟨g0, g1⟩ := hlo
    go_enter Tryd.func12, Tryd.ntmps12
    go_wp2_with fail
    refine HZE.out.mono ?_
    rintro e w' ⟨rfl, rfl⟩
    go_wp2_with fail
    refine HS.out.mono ?_
    rintro e w' ⟨rfl, rfl⟩
    clear hzb HS HZE
    go_wp2_with fail
    go_loopw [9] (fun v wr => ∃ j : Nat, v = .int .i64 j ∧ j ≤ M ∧ (j = 0 ∨ goal + j ≤ 2016) ∧ runF bs goal (M - j) j = R ∧ wr = w) (fun v _ => M - (intOf v).toNat)
    case atStart => exact ⟨0, rfl, by omega, .inl rfl, HRN.out.symm, rfl⟩
    case round =>
      obtain ⟨j, rfl, hjM, hj0, hrun, rfl⟩ := hrel
      have X1 := Lib.hid hrun
      clear hrun
      have wg : IntKind.i64.wrap (goal + (j : Int)) = goal + (j : Int) := by rw [IntKind.wrap_i64]; omega
      have HS := Lib.hid (ref_set_any A n c bs (goal + (j : Int)) wr HB.out)
      by_cases e1 : (j : Int) < want
      · have hjm : j < M := by
          rcases hMw with ⟨_, h | h⟩
          · omega
          · omega
        cases e3 : setZ bs (goal + (j : Int))
        · have hl := setZ_low e3
          have HX := Lib.hid (show runF bs goal (M - (j + 1)) (j + 1) = R by
            have := X1.out
            rw [show M - j = (M - (j + 1)) + 1 by omega, runF, if_neg (by rw [e3]; simp)] at this
            exact this)
          rw [e3] at HS
          clear e3
          go_wp2_with fail
          refine HS.out.mono ?_
          rintro e w' ⟨rfl, rfl⟩
          go_wp2
          go_roundw
          case rel => exact ⟨j + 1, by go_num, by omega, .inr (by push_cast; omega), HX.out, by first | trivial | rfl⟩
          case measure => simp [intOf]; omega
        · have HX := Lib.hid (show R = j by
            have := X1.out
            rw [show M - j = (M - j - 1) + 1 by omega, runF, if_pos e3] at this
            exact this.symm)
          rw [e3] at HS
          clear e3
          go_wp2_with fail
          refine HS.out.mono ?_
          rintro e w' ⟨rfl, rfl⟩
          go_wp2
          go_ret3
          exact ⟨by rw [HF.out, HX.out]; rfl, Below.refl _ _⟩
      · have HX := Lib.hid (show R = j by
          have := X1.out
          rw [show M - j = 0 by omega, runF] at this
          exact this.symm)
        go_wp2_with fail
        go_ret3
        exact ⟨by rw [HF.out, HX.out]; rfl, Below.refl _ _⟩
  · have HFC := Lib.hid (show findX bs goal want = findC (bo (setN bs)) want by rw [HFX.out, runN_set (by omega) (.inr hs), if_neg (by omega)])
    rw [hs] at HS
    obtain ⟨t, ht⟩ : ∃ t, bo (setN bs) = t := ⟨_, rfl⟩
    have HFI := Lib.hid (show ∀ k, k ≤ 10 → firstZ bs k = if 0 < t.2.getD k 0 then t.1.getD k 0 else -1 from fun k hk => by rw [← ht]; exact firstZ_bo hk)
    have HNN := Lib.hid (show ∀ k, k ≤ 10 → 0 ≤ t.1.getD k 0 from fun k hk => by rw [← ht]; exact bo_first_nonneg hk)
    rw [ht] at HFC
    have hL10 := leastOf_le want
    have HLT := Lib.hid (show ∀ k, k < leastOf want → ((2 ^ k : Nat) : Int) < min want 1024 from fun k h => least_lt h)
    have HGE := Lib.hid (least_ge (want := want))
    have HFD := Lib.hid (show findC t want = (match upF t.2 (11 - leastOf want) (leastOf want) with | some k => (t.1.getD k 0, min want 1024, true) | none => match dnF t.2 (leastOf want) with | some k => (t.1.getD k 0, ((2 ^ k : Nat) : Int), true) | none => (0, 0, false)) from rfl)
    generalize leastOf want = L at *
    obtain ⟨W, hWm⟩ : ∃ W, min want 1024 = W := ⟨_, rfl⟩
    have hW1 : 1 ≤ W ∧ W ≤ 1024 := by omega
    rw [hWm] at HLT HGE HFD
    have fin : ∀ (a b : Int) (o : Bool), findC t want = (a, b, o) → Ending.returned (.tuple #[.int .i64 a, .int .i64 b, .bool o]) = .returned (.tuple #[.int .i64 (findX bs goal want).1, .int .i64 (findX bs goal want).2.1, .bool (findX bs goal want).2.2]) := fun a b o h => by rw [HFC.out, h]
    have FIN := Lib.hid fin
    clear fin hs ht hz
    go_enter Tryd.func12, Tryd.ntmps12
    go_wp2_with fail
    refine HZE.out.mono ?_
    rintro e w' ⟨rfl, rfl⟩
    go_wp2_with fail
    refine HS.out.mono ?_
    rintro e w' ⟨rfl, rfl⟩
    clear hzb HS HZE
    go_wp2_with fail
    have HWM := Lib.hid hWm
    clear hWm
    go_loopw [10] (fun v wr => ∃ k : Nat, v = .int .i64 k ∧ k ≤ L ∧ wr = w) (fun v _ => L - (intOf v).toNat)
    case atStart => exact ⟨0, rfl, by omega, rfl⟩
    case round =>
      obtain ⟨k, rfl, hkL, rfl⟩ := hrel
      have hpt := pow_ten k (by omega)
      have wp : IntKind.i64.wrap ((2 : Int) ^ k) = ((2 ^ k : Nat) : Int) := by rw [hpt.1, IntKind.wrap_i64]; omega
      have k0 : (0 : Int) ≤ (k : Int) := by omega
      have k3 : ¬ (k : Int) < 0 := by omega
      by_cases hlt : k < L
      · have hlw := HLT.out k hlt
        generalize (2 : Nat) ^ k = P at *
        clear hpt
        go_wp2
        go_roundw
        case rel => exact ⟨k + 1, by go_num, by omega, by first | trivial | rfl⟩
        case measure => simp [intOf]; omega
      · obtain rfl : k = L := by omega
        have hlw : ¬ ((2 ^ k : Nat) : Int) < W := by have := HGE.out; omega
        obtain ⟨P, hP⟩ : ∃ P, (2 : Nat) ^ k = P := ⟨_, rfl⟩
        rw [hP] at hlw wp
        clear hpt hP
        go_wp2_with fail
        clear wp hlw
        go_loopw [11, 12] (fun v _ wq => ∃ q : Nat, v = .int .i64 q ∧ k ≤ q ∧ q ≤ 11 ∧ upF t.2 (11 - q) q = upF t.2 (11 - k) k ∧ wq = wr) (fun v _ _ => 11 - (intOf v).toNat)
        case atStart => exact ⟨k, rfl, Nat.le_refl _, by omega, rfl, rfl⟩
        case round =>
          obtain ⟨q, rfl, hkq, hq, hup, rfl⟩ := hrel
          have U1 := Lib.hid hup
          clear hup
          by_cases hlt2 : q < 11
          · have HF1 := Lib.hid (first_any A n c bs q wr HB.out (by omega))
            rw [HFI.out q (by omega)] at HF1
            have hnn := HNN.out q (by omega)
            have HST := Lib.hid (show upF t.2 (11 - q) q = if 0 < t.2.getD q 0 then some q else upF t.2 (11 - (q + 1)) (q + 1) by rw [show 11 - q = (11 - (q + 1)) + 1 by omega, upF])
            obtain ⟨cv, hcv⟩ : ∃ cv, t.2.getD q 0 = cv := ⟨_, rfl⟩
            obtain ⟨fv, hfv⟩ : ∃ fv, t.1.getD q 0 = fv := ⟨_, rfl⟩
            rw [hcv] at HST HF1
            rw [hfv] at HF1 hnn
            clear hcv
            by_cases hc : 0 < cv
            · have HV := Lib.hid (FIN.out fv W true (by rw [HFD.out, ← U1.out, HST.out, if_pos hc]; simp only [hfv]))
              rw [if_pos hc] at HF1
              clear hfv
              go_wp2_with fail
              refine HF1.out.mono ?_
              rintro e w' ⟨rfl, rfl⟩
              go_wp2
              go_ret3
              exact ⟨HV.out, Below.refl _ _⟩
            · have HN := Lib.hid (show upF t.2 (11 - (q + 1)) (q + 1) = upF t.2 (11 - k) k by rw [← U1.out, HST.out, if_neg hc])
              rw [if_neg hc] at HF1
              clear hfv
              go_wp2_with fail
              refine HF1.out.mono ?_
              rintro e w' ⟨rfl, rfl⟩
              go_wp2
              go_roundw
              case rel => exact ⟨q + 1, by go_num, by omega, by omega, HN.out, by first | trivial | rfl⟩
              case measure => simp [intOf]; omega
          · have HUN := Lib.hid (show upF t.2 (11 - k) k = none by rw [← U1.out, show q = 11 by omega]; rfl)
            have hq11 : 11 ≤ q := by omega
            have wl : IntKind.i64.wrap ((k : Int) - 1) = (k : Int) - 1 := by rw [IntKind.wrap_i64]; omega
            clear U1
            go_wp2_with fail
            clear wl
            go_loopw [13, 14] (fun v _ wq => ∃ q : Nat, v = .int .i64 ((q : Int) - 1) ∧ q ≤ k ∧ dnF t.2 q = dnF t.2 k ∧ wq = wr) (fun v _ _ => (intOf v + 1).toNat)
            case atStart => exact ⟨k, rfl, Nat.le_refl _, rfl, rfl⟩
            case round =>
              obtain ⟨q', rfl, hqk, hdn, rfl⟩ := hrel
              have U2 := Lib.hid hdn
              clear hdn
              cases q' with
              | zero =>
                have HV := Lib.hid (FIN.out 0 0 false (by rw [HFD.out, HUN.out, ← U2.out]; rfl))
                go_wp2
                go_ret3
                exact ⟨HV.out, Below.refl _ _⟩
              | succ i =>
                have HF1 := Lib.hid (first_any A n c bs i wr HB.out (by omega))
                rw [HFI.out i (by omega)] at HF1
                have hnn := HNN.out i (by omega)
                have k0 : (0 : Int) ≤ (i : Int) := by omega
                have k1 : (i : Int) < 11 := by omega
                have k3 : ¬ (i : Int) < 0 := by omega
                have ei : ((i + 1 : Nat) : Int) - 1 = (i : Int) := by omega
                have HST := Lib.hid (show dnF t.2 (i + 1) = if 0 < t.2.getD i 0 then some i else dnF t.2 i from rfl)
                have hpt := pow_ten i (by omega)
                have wp : IntKind.i64.wrap ((2 : Int) ^ i) = ((2 ^ i : Nat) : Int) := by rw [hpt.1, IntKind.wrap_i64]; omega
                obtain ⟨cv, hcv⟩ : ∃ cv, t.2.getD i 0 = cv := ⟨_, rfl⟩
                obtain ⟨fv, hfv⟩ : ∃ fv, t.1.getD i 0 = fv := ⟨_, rfl⟩
                rw [hcv] at HST HF1
                rw [hfv] at HF1 hnn
                rw [ei]
                clear hcv hpt
                by_cases hc : 0 < cv
                · have HV := Lib.hid (FIN.out fv ((2 ^ i : Nat) : Int) true (by rw [HFD.out, HUN.out, ← U2.out, HST.out, if_pos hc]; simp only [hfv]))
                  rw [if_pos hc] at HF1
                  clear hfv
                  go_wp2_with fail
                  refine HF1.out.mono ?_
                  rintro e w' ⟨rfl, rfl⟩
                  go_wp2_with fail
                  refine region_still (by kernel_rfl) (by kernel_rfl) ?_
                  iterate 6 (refine still_take (v := ?_) (by kernel_rfl) ?_ (fun K hK => ?_); rotate_left; (· (go_simp; with_reducible rfl)); simp only [Act.put, List.setIfInBounds_toArray, List.set_cons_zero, List.set_cons_succ]; refine hK _ ?_; clear hK K)
                  refine still_end ?_
                  go_wp2_with fail
                  go_ret3
                  exact ⟨HV.out, below_drewN (Below.refl _ _) 1⟩
                · have HN := Lib.hid (show dnF t.2 i = dnF t.2 k by rw [← U2.out, HST.out, if_neg hc])
                  rw [if_neg hc] at HF1
                  have wi : IntKind.i64.wrap ((i : Int) - 1) = (i : Int) - 1 := by rw [IntKind.wrap_i64]; omega
                  clear hfv
                  go_wp2_with fail
                  refine HF1.out.mono ?_
                  rintro e w' ⟨rfl, rfl⟩
                  go_wp2
                  go_roundw
                  case rel => exact ⟨i, by first | rfl | trivial | go_num, by omega, HN.out, by first | trivial | rfl⟩
                  case measure => simp [intOf]; try omega
end Go.Proofs.YtcmpkcmfhfajpaaDoor.Bits

namespace Go.Proofs.YtcmpkcmfhfajpaaDoor.Bits
open Go.RowKit Go.Proofs.YtcmpkcmfhfajpaaDoor.Wire
set_option maxHeartbeats 16000000
set_option maxRecDepth 100000
set_option linter.unusedVariables false
set_option linter.unusedSimpArgs false

def bls (l : List Bool) : List Value := l.map Value.bool
theorem bls_get {l : List Bool} {k : Nat} : (bls l)[k]? = (l[k]?).map Value.bool := by simp [bls]
theorem one_bls (l : List Bool) : ∀ u ∈ bls l, u.oneCell' = true := fun u hu => by
  simp only [bls, List.mem_map] at hu
  obtain ⟨y, _, rfl⟩ := hu
  rfl
theorem infoBool : (Tryd.prog.info? 4).map (fun i => (i.zero, i.size, i.bytes)) = some (some (.bool false), 1, 1) := by kernel_rfl
def packL : Nat → List Bool → List UInt8
  | 0, _ => List.replicate 256 0
  | k + 1, l => if l.getD k false = true then setOn (packL k l) k else packL k l
theorem packL_length : ∀ (k : Nat) (l : List Bool), (packL k l).length = 256
  | 0, _ => List.length_replicate
  | k + 1, l => by simp only [packL]; split; rw [setOn_length, packL_length]; exact packL_length k l
theorem bitB_zero (i : Nat) : bitB (List.replicate 256 0) i = false := by
  unfold bitB
  rw [List.getD_eq_getElem?_getD, List.getElem?_replicate]
  split <;> simp
theorem bitB_packL (l : List Bool) : ∀ (k i : Nat), k ≤ 2016 → bitB (packL k l) i = (decide (i < k) && l.getD i false)
  | 0, i, _ => by simp only [packL, bitB_zero]; simp
  | k + 1, i, h => by
    simp only [packL]
    have ih := bitB_packL l k i (by omega)
    split
    · rename_i hl
      rw [bitB_setOn _ _ _ (by rw [packL_length]; omega), ih]
      by_cases e : i = k
      · subst e; rw [hl]; simp
      · have : (i == k) = false := by simpa using e
        have e2 : decide (i < k + 1) = decide (i < k) := decide_eq_decide.2 (by omega)
        rw [this, Bool.or_false, e2]
    · rename_i hl
      rw [ih]
      by_cases e : i = k
      · subst e; rw [Bool.eq_false_iff.2 hl]; simp
      · have e2 : decide (i < k + 1) = decide (i < k) := decide_eq_decide.2 (by omega)
        rw [e2]
theorem bitB_ons (z : List UInt8) (f : Nat) : ∀ (m i : Nat), f + m ≤ 8 * z.length → bitB (ons m f z) i = (bitB z i || decide (f ≤ i ∧ i < f + m))
  | 0, i, _ => by
    have : ¬ (f ≤ i ∧ i < f + 0) := by omega
    rw [ons, decide_eq_false this, Bool.or_false]
  | m + 1, i, h => by
    rw [ons, bitB_setOn _ _ _ (by rw [ons_length]; omega), bitB_ons z f m i (by omega)]
    by_cases h1 : i = f + m
    · simp [h1]
    · have e1 : (i == f + m) = false := by simpa using h1
      have e2 : (f ≤ i ∧ i < f + (m + 1)) ↔ (f ≤ i ∧ i < f + m) := by omega
      rw [e1, Bool.or_false, decide_eq_decide.2 e2]
theorem bitB_newL {n i : Nat} (hn : n ≤ 2016) (hi : i < 2016) : bitB (newL n) i = decide (n ≤ i) := by
  rw [newL, bitB_ons _ _ _ _ (by rw [List.length_replicate]; omega), bitB_zero, Bool.false_or]
  exact decide_eq_decide.2 (by omega)
theorem bytes_any (A : Option Addr) (n c : Nat) (l : List Bool) (seed : BitVec 32) (w : World) (hn : n ≤ 2016) (hb : RowAt w A n (bls l)) :
    Calls Tryd.prog 36 #[.slice A n c, .int .u32 (seed.toNat : Int)] w fun e w' => ∃ v, e = .returned v ∧ Below w.heap.size w w' ∧ w'.ownsRow w.heap.size 5 1 v 256 (bvl (sealB seed (packL n l))) := by
  have hmk := make_bytes 256 (by omega)
  rw [show ((256 : Nat) : Int) = 256 from rfl] at hmk
  obtain ⟨Z, hZ⟩ : ∃ Z : List UInt8, List.replicate 256 0 = Z := ⟨_, rfl⟩
  have hZl : Z.length = 256 := by rw [← hZ]; exact List.length_replicate
  have hro : roomOf [] 256 = (bvl Z).toArray := by rw [← hZ]; rfl
  rw [hro] at hmk
  have HP0 := Lib.hid (show Z = packL 0 l from hZ.symm)
  have O1 := Lib.hid (show (w.alloc (.cells (bvl Z).toArray 5)).ownsRow w.heap.size 5 1 (.slice (some ⟨w.heap.size, 0, none⟩) 256 256) 256 (bvl Z) by
    have := World.ownsRow_lit (base := w.heap.size) (e := 5) (size := 1) w (bvl Z).toArray 256 (Nat.le_refl _) (by unfold maxLen; omega) (by simp [bvl]; omega)
    simpa using this)
  have B1 := Lib.hid ((Below.refl w.heap.size w).alloc (Nat.le_refl _) (.cells (bvl Z).toArray 5))
  have HB := Lib.hid hb
  clear hZ hZl hro hb
  go_enter Tryd.func36, Tryd.ntmps36
  go_wp2_with fail
  clear hmk
  go_loopw [6] (fun i wr => ∃ j : Nat, j ≤ n ∧ i = .int .i64 j ∧ wr.ownsRow w.heap.size 5 1 (.slice (some ⟨w.heap.size, 0, none⟩) 256 256) 256 (bvl (packL j l)) ∧ Below w.heap.size w wr) (fun i _ => n - (intOf i).toNat)
  case atStart => exact ⟨0, Nat.zero_le _, rfl, by rw [← HP0.out]; exact O1.out, B1.out⟩
  case round =>
    obtain ⟨j, hj, rfl, ho, hbel⟩ := hrel
    have O4 := Lib.hid ho
    have B4 := Lib.hid hbel
    have hzl := packL_length j l
    have HPS := Lib.hid (show packL (j + 1) l = if l.getD j false = true then setOn (packL j l) j else packL j l from rfl)
    clear ho hbel
    by_cases hlt : j < n
    · obtain ⟨a, u, rfl, hu, hcell⟩ := (HB.out.below B4.out).at_ hlt
      obtain ⟨x, hx⟩ : ∃ x, l[j]? = some x := by
        rw [bls_get] at hu
        cases hlj : l[j]? with
        | none => rw [hlj] at hu; cases hu
        | some x => exact ⟨x, rfl⟩
      obtain rfl : u = .bool x := by
        rw [bls_get, hx] at hu
        injection hu with hu
        exact hu.symm
      have hgd : l.getD j false = x := by rw [List.getD_eq_getElem?_getD, hx]; rfl
      rw [hgd] at HPS
      clear hu hx hgd
      generalize packL j l = zs at *
      cases x with
      | false =>
        have HPF := Lib.hid (show packL (j + 1) l = zs by rw [HPS.out]; rfl)
        go_wp2
        go_roundw
        case rel => exact ⟨j + 1, by omega, by go_num, by rw [HPF.out]; exact O4.out, B4.out⟩
        case measure => simp [intOf]; omega
      | true =>
        have HPF := Lib.hid (show packL (j + 1) l = setOn zs j by rw [HPS.out, if_pos rfl])
        obtain ⟨x, hx⟩ : ∃ x, zs[j / 8]? = some x := ⟨_, List.getElem?_eq_getElem (by omega)⟩
        have hcx2 : wr.drew.cell? ⟨w.heap.size, j / 8, none⟩ = some (.int .u8 (x.toNat : Int)) := by
          show wr.cell? ⟨w.heap.size, j / 8, none⟩ = _
          rw [O4.out.cellAt (j / 8) (by omega), bvl_get, hx]; rfl
        have hcx : wr.cell? ⟨w.heap.size, j / 8, none⟩ = some (.int .u8 (x.toNat : Int)) := hcx2
        have hfx2 : wr.drew.frozen? ⟨w.heap.size, j / 8, none⟩ = false := O4.out.frozenAt (j / 8)
        have hset : setOn zs j = zs.set (j / 8) (orB x (j % 8)) := by rw [setOn, List.getD_eq_getElem?_getD, hx]; rfl
        have HSET := Lib.hid hset
        have g1 : (j : Int) / 8 = ((j / 8 : Nat) : Int) := by omega
        have g2 : (j : Int) % 8 = ((j % 8 : Nat) : Int) := by omega
        have g2' : (j : Int).tmod 8 = ((j % 8 : Nat) : Int) := by rw [Int.tmod_eq_emod_of_nonneg (by omega)]; omega
        have g3 : ((j / 8 : Nat) : Int) < 256 := by omega
        have g4 : j / 8 < 256 := by omega
        have g7 : ¬ ((j % 8 : Nat) : Int) < 0 := by omega
        have g8 : (0 : Int) ≤ ((j % 8 : Nat) : Int) := by omega
        have g5 : IntKind.i64.wrap ((j / 8 : Nat) : Int) = ((j / 8 : Nat) : Int) := by rw [IntKind.wrap_i64]; omega
        have g6 : (0 : Int) ≤ ((j / 8 : Nat) : Int) := by omega
        have hr8 : j % 8 < 8 := Nat.mod_lt _ (by omega)
        have HY := Lib.hid (or_bit x (j % 8) hr8)
        have O5 := Lib.hid (show wr.drew.ownsRow w.heap.size 5 1 (.slice (some ⟨w.heap.size, 0, none⟩) 256 256) 256 (bvl zs) from O4.out)
        have B5 := Lib.hid (show Below w.heap.size w wr.drew from below_drewN B4.out 1)
        generalize j / 8 = q at *
        generalize j % 8 = r at *
        generalize orB x r = y at *
        have O6 := Lib.hid (own_set8 O5.out q y)
        have B6 := Lib.hid (B5.out.setCell (p := ⟨w.heap.size, q, none⟩) (Nat.le_refl _) (.int .u8 (y.toNat : Int)))
        clear hx hset O4 B4 O5 B5
        go_wp2_with fail
        go_still_tail 13, (by kernel_rfl)
        change wpList _ _ _ _ _ wr.drew
        clear hcx
        generalize wr.drew = w5 at *
        go_wp2_with (simp only [HY.out])
        go_roundw
        case rel => exact ⟨j + 1, by omega, by go_num, by rw [HPF.out, HSET.out]; exact O6.out, B6.out⟩
        case measure => simp [intOf]; omega
    · obtain rfl : j = n := by omega
      have HS := Lib.hid (ref_seal_row w.heap.size 256 256 (some ⟨w.heap.size, 0, none⟩) (packL j l) seed wr hzl O4.out)
      go_wp2_with fail
      refine HS.out.mono ?_
      rintro e w2 ⟨rfl, ho2, hg2⟩
      have O2 := Lib.hid ho2
      have B2 := Lib.hid (below_own O4.out B4.out (Nat.le_refl _) hg2)
      clear ho2 hg2
      go_wp2_with fail
      go_ret
      exact ⟨_, rfl, B2.out, O2.out⟩
theorem madeBools (n : Nat) : madeCells (Value.bool false).cells n = (bls (List.replicate n false)).toArray := by
  apply Array.ext
  · rw [size_madeCells]; simp [bls]
  · intro i h1 h2
    simp [madeCells, bls, Value.cells]
    rw [Nat.mod_one]; rfl
theorem make_bools (N : Nat) (hN : N ≤ 140737488355328) (w : World) :
    (Instr.makeSlice 53 (.int .i64 (N : Int)) (.int .i64 (N : Int))).run Tryd.prog w = .ok (.slice (some ⟨w.heap.size, 0, none⟩) N N) (w.alloc (.cells (bls (List.replicate N false)).toArray 4)) := by
  obtain ⟨i0, hi, hz0, hz1, hz2⟩ := info_parts infoBool
  have := run_make (P := Tryd.prog) w 53 4 i0 (.bool false) Tryd.underlying53 hi hz0 .i64 .i64 N N (by omega) (by omega) (by rw [hz2]; omega) (by omega)
  rw [hz1, Nat.mul_one, Int.toNat_natCast, madeBools] at this
  exact this
/-- Bits that are set from n on, below i. -/
def nl (n i : Nat) : List Bool := (List.range 2016).map fun j => decide (n ≤ j ∧ j < i)
theorem nl_length (n i : Nat) : (nl n i).length = 2016 := by simp [nl]
theorem nl_get {n i j : Nat} (h : j < 2016) : (nl n i)[j]? = some (decide (n ≤ j ∧ j < i)) := by
  simp [nl, List.getElem?_map, List.getElem?_range h]
theorem nl_zero (n : Nat) : nl n n = List.replicate 2016 false := by
  apply List.ext_getElem?
  intro j
  rcases Nat.lt_or_ge j 2016 with h | h
  · rw [nl_get h, List.getElem?_replicate, if_pos h, decide_eq_false (by omega)]
  · rw [List.getElem?_eq_none (by rw [nl_length]; exact h), List.getElem?_eq_none (by rw [List.length_replicate]; exact h)]
theorem nl_set {n i : Nat} (h : n ≤ i) (hi : i < 2016) : (nl n i).set i true = nl n (i + 1) := by
  apply List.ext_getElem?
  intro j
  rcases Nat.lt_or_ge j 2016 with hj | hj
  · rw [nl_get hj]
    by_cases e : i = j
    · subst e
      rw [List.getElem?_set_self (by rw [nl_length]; exact hi), decide_eq_true (by omega)]
    · rw [List.getElem?_set_ne e, nl_get hj]
      congr 1
      exact decide_eq_decide.2 (by omega)
  · rw [List.getElem?_eq_none (by rw [List.length_set, nl_length]; exact hj), List.getElem?_eq_none (by rw [nl_length]; exact hj)]
theorem own_setb {w : World} {base g cap n : Nat} {t : TypeId} {l : List Bool} (h : w.ownsRow base t 1 (.slice (some ⟨g, 0, none⟩) n cap) n (bls l)) (j : Nat) (y : Bool) :
    (w.setCell ⟨g, j, none⟩ (.bool y)).ownsRow base t 1 (.slice (some ⟨g, 0, none⟩) n cap) n (bls (l.set j y)) := by
  have := h.stored j (.bool y)
  rw [bls, List.map_set]
  exact this.1
theorem row_own {w : World} {base n c : Nat} {t : TypeId} {A : Option Addr} {xs : List Value} (h : w.ownsRow base t 1 (.slice A n c) n xs) : RowAt w A n xs := by
  have := rowAt_ownN h
  rwa [Nat.mul_one] at this
theorem sealed_newL {n : Nat} (seed : BitVec 32) (hn : n ≤ 2016) : sealB seed (packL 2016 (nl n 2016)) = sealB seed (newL n) := by
  apply seal_bits seed (packL_length _ _) (newL_length n)
  intro i hi
  rw [bitB_packL _ _ _ (Nat.le_refl _), bitB_newL hn hi, List.getD_eq_getElem?_getD, nl_get hi]
  simp [hi]
theorem ref_new_any (n : Int) (seed : BitVec 32) (w : World) :
    Calls Tryd.prog 21 #[.int .i64 n, .int .u32 (seed.toNat : Int)] w fun e w' => ∃ v, e = .returned (.tuple #[v, .int .i64 (newE n)]) ∧ Below w.heap.size w w' ∧ w'.ownsRow w.heap.size 5 1 v (newB n seed).length (bvl (newB n seed)) := by
  by_cases h0 : n < 0
  · have HE := Lib.hid (show newE n = 22 by rw [newE, if_pos (.inl h0)])
    have HB := Lib.hid (show newB n seed = [] by rw [newB, if_pos (.inl h0)])
    go_enter Tryd.func21, Tryd.ntmps21
    go_wp2
    go_ret2
    exact ⟨_, by rw [HE.out]; rfl, Below.refl _ _, by rw [HB.out]; exact World.ownsRow_nil _ _ _ _⟩
  by_cases h1 : 2016 < n
  · have HE := Lib.hid (show newE n = 22 by rw [newE, if_pos (.inr h1)])
    have HB := Lib.hid (show newB n seed = [] by rw [newB, if_pos (.inr h1)])
    go_enter Tryd.func21, Tryd.ntmps21
    go_wp2
    go_ret2
    exact ⟨_, by rw [HE.out]; rfl, Below.refl _ _, by rw [HB.out]; exact World.ownsRow_nil _ _ _ _⟩
  obtain ⟨m, rfl⟩ := Int.eq_ofNat_of_zero_le (show 0 ≤ n by omega)
  have hm : m ≤ 2016 := by omega
  have HE := Lib.hid (show newE (m : Int) = 0 by rw [newE, if_neg (by omega)])
  have HNB := Lib.hid (show newB (m : Int) seed = sealB seed (packL 2016 (nl m 2016)) by rw [newB, if_neg (by omega), sealed_newL seed hm]; rfl)
  have HLE := Lib.hid (show (newB (m : Int) seed).length = 256 by rw [HNB.out, sealB_len8, packL_length])
  have hmk := make_bools 2016 (by omega)
  rw [show ((2016 : Nat) : Int) = 2016 from rfl, ← nl_zero m] at hmk
  have O1 := Lib.hid (show (w.alloc (.cells (bls (nl m m)).toArray 4)).ownsRow w.heap.size 4 1 (.slice (some ⟨w.heap.size, 0, none⟩) 2016 2016) 2016 (bls (nl m m)) by
    have := World.ownsRow_lit (base := w.heap.size) (e := 4) (size := 1) w (bls (nl m m)).toArray 2016 (Nat.le_refl _) (by unfold maxLen; omega) (by simp [bls, nl_length])
    simpa using this)
  have B1 := Lib.hid ((Below.refl w.heap.size w).alloc (Nat.le_refl _) (.cells (bls (nl m m)).toArray 4))
  obtain ⟨xs, hxs⟩ : ∃ xs, bls (nl m m) = xs := ⟨_, rfl⟩
  rw [hxs] at hmk O1 B1
  have HXS := Lib.hid hxs
  clear hxs
  go_enter Tryd.func21, Tryd.ntmps21
  go_wp2_with fail
  clear hmk
  go_loopw [7] (fun i wr => ∃ j : Nat, m ≤ j ∧ j ≤ 2016 ∧ i = .int .i64 j ∧ wr.ownsRow w.heap.size 4 1 (.slice (some ⟨w.heap.size, 0, none⟩) 2016 2016) 2016 (bls (nl m j)) ∧ Below w.heap.size w wr) (fun i _ => 2016 - (intOf i).toNat)
  case atStart => exact ⟨m, Nat.le_refl _, hm, rfl, by rw [HXS.out]; exact O1.out, B1.out⟩
  case round =>
    obtain ⟨j, hmj, hj, rfl, ho, hbel⟩ := hrel
    have O4 := Lib.hid ho
    have B4 := Lib.hid hbel
    clear ho hbel
    by_cases hlt : j < 2016
    · have HNS := Lib.hid (nl_set hmj hlt)
      have hfx : wr.frozen? ⟨w.heap.size, j, none⟩ = false := O4.out.frozenAt j
      have hcx : wr.cell? ⟨w.heap.size, j, none⟩ = some (.bool (decide (m ≤ j ∧ j < j))) := by
        rw [O4.out.cellAt j (by omega), bls_get, nl_get hlt]; rfl
      obtain ⟨ov, hov⟩ : ∃ ov, decide (m ≤ j ∧ j < j) = ov := ⟨_, rfl⟩
      rw [hov] at hcx
      clear hov
      have O5 := Lib.hid (own_setb O4.out j true)
      have B5 := Lib.hid (B4.out.setCell (p := ⟨w.heap.size, j, none⟩) (Nat.le_refl _) (.bool true))
      go_wp2_with fail
      go_roundw
      case rel => exact ⟨j + 1, by omega, by omega, by go_num, by rw [← HNS.out]; exact O5.out, B5.out⟩
      case measure => simp [intOf]; omega
    · obtain rfl : j = 2016 := by omega
      have HBY := Lib.hid (bytes_any (some ⟨w.heap.size, 0, none⟩) 2016 2016 (nl m 2016) seed wr (Nat.le_refl _) (row_own O4.out))
      go_wp2_with fail
      refine HBY.out.mono ?_
      rintro e w2 ⟨v2, rfl, hb2, ho2⟩
      have O2 := Lib.hid (own_monoB ho2 B4.out.size)
      have B2 := Lib.hid (below_all B4.out B4.out.size hb2)
      clear ho2 hb2
      go_wp2_with fail
      go_ret2
      refine ⟨_, by rw [HE.out]; rfl, B2.out, ?_⟩
      rw [HLE.out, HNB.out]
      exact O2.out
end Go.Proofs.YtcmpkcmfhfajpaaDoor.Bits

namespace Go.Proofs.YtcmpkcmfhfajpaaDoor.Bits
open Go.RowKit Go.Proofs.YtcmpkcmfhfajpaaDoor.Wire
set_option maxHeartbeats 16000000
set_option maxRecDepth 100000
set_option linter.unusedVariables false
set_option linter.unusedSimpArgs false

theorem below_row1 {B : Nat} {a b c : World} {row : Option Nat} (h : Below B a b) (k : b.grownBy c row) (hr : ∀ g, row = some g → B ≤ g) (hs : B ≤ b.heap.size) : Below B a c :=
  ⟨k.os.trans h.os, k.tape.trans h.tape, k.output.trans h.output, Nat.le_trans h.size k.size, fun i hi => (k.block i (Nat.lt_of_lt_of_le hi hs) (fun e => by have := hr i e.symm; omega)).trans (h.block i hi)⟩
/-- The bits below j, those from f to f + m turned on or off. -/
def tl (bs : List UInt8) (f m : Nat) (on : Bool) (j : Nat) : List Bool := (List.range j).map fun i => if f ≤ i ∧ i < f + m then on else setN bs i
theorem tl_length (bs : List UInt8) (f m : Nat) (on : Bool) (j : Nat) : (tl bs f m on j).length = j := by simp [tl]
theorem tl_succ (bs : List UInt8) (f m : Nat) (on : Bool) (j : Nat) : tl bs f m on (j + 1) = tl bs f m on j ++ [if f ≤ j ∧ j < f + m then on else setN bs j] := by
  simp [tl, List.range_succ]
theorem bls_append (a b : List Bool) : bls (a ++ b) = bls a ++ bls b := by simp [bls]
theorem setN_256 {bs : List UInt8} (h : bs.length = 256) {i : Nat} (hi : i < 2016) : setN bs i = bitB bs i := by
  have h1 : decide (2016 ≤ i) = false := by simp; omega
  have h2 : decide (bs.length ≤ i / 8) = false := by simp; omega
  rw [setN, h1, h2]; rfl
theorem turned_same {bs : List UInt8} {f m : Nat} {on : Bool} (seed : BitVec 32) (hl : bs.length = 256) (hfm : f + m ≤ 2016) (h : ∀ i, f ≤ i → i < f + m → setN bs i = !on) :
    sealB seed (packL 2016 (tl bs f m on 2016)) = sealB seed (turns m f bs) := by
  apply seal_bits seed (packL_length _ _) (by rw [turns_length]; exact hl)
  intro i hi
  rw [bitB_packL _ _ _ (Nat.le_refl _), bitB_turns bs f m i (by omega), List.getD_eq_getElem?_getD]
  have e : (tl bs f m on 2016)[i]? = some (if f ≤ i ∧ i < f + m then on else setN bs i) := by simp [tl, List.getElem?_range hi]
  rw [e, decide_eq_true hi, Bool.true_and, Option.getD_some]
  by_cases hin : f ≤ i ∧ i < f + m
  · rw [if_pos hin, decide_eq_true hin]
    have := h i hin.1 hin.2
    rw [setN_256 hl hi] at this
    rw [this]; cases on <;> rfl
  · rw [if_neg hin, decide_eq_false hin, Bool.xor_false, setN_256 hl hi]
theorem ref_turn_any (A : Option Addr) (len cap : Nat) (n f c : Int) (on : Bool) (seed : BitVec 32) (bs : List UInt8) (w : World) (hl : len ≤ cap) (hcp : cap ≤ 9223372036854775807) (hb : BytesAt w A len bs) :
    Calls Tryd.prog 22 #[.slice A len cap, .int .i64 n, .int .i64 f, .int .i64 c, .bool on, .int .u32 (seed.toNat : Int)] w fun e w' => ∃ v, e = .returned (.tuple #[v, .int .i64 (turnE bs n f c on seed)]) ∧ Below w.heap.size w w' ∧ w'.ownsRow w.heap.size 5 1 v (turnB bs n f c on seed).length (bvl (turnB bs n f c on seed)) := by
  have hlen := hb.len
  have HC := Lib.hid (ref_check_any A len cap n seed bs w hl hcp hb)
  have none_ : turnE bs n f c on seed ≠ 0 → turnB bs n f c on seed = [] := fun h => by rw [turnB, if_neg h]
  by_cases hck : chkE bs n seed = 0
  rotate_left
  · have he : turnE bs n f c on seed = chkE bs n seed := by rw [turnE, if_pos hck]
    have HE := Lib.hid he
    have HB := Lib.hid (none_ (by rw [he]; exact hck))
    have hne : (chkE bs n seed != 0) = true := by simpa using hck
    generalize chkE bs n seed = ce at *
    clear none_ hb hlen he hck
    go_enter Tryd.func22, Tryd.ntmps22
    go_wp2_with fail
    refine HC.out.mono ?_
    rintro e w1 ⟨rfl, rfl⟩
    go_wp2
    go_ret2
    exact ⟨_, by rw [HE.out]; rfl, Below.refl _ _, by rw [HB.out]; exact World.ownsRow_nil _ _ _ _⟩
  obtain ⟨n0, n1, h256, hsl, has⟩ := chkE_zero hck
  rw [hck] at HC
  cases hbad : turnBad n f c
  rotate_left
  · have he : turnE bs n f c on seed = 22 := by rw [turnE, if_neg (by rw [hck]; simp), if_pos hbad]
    have HE := Lib.hid he
    have HB := Lib.hid (none_ (by rw [he]; decide))
    have h : c < 1 ∨ ¬ c < 1 ∧ (2016 < c ∨ ¬ 2016 < c ∧ (f < 0 ∨ ¬ f < 0 ∧ (n < f ∨ ¬ n < f ∧ n < f + c))) := by
      simp only [turnBad, Bool.or_eq_true, decide_eq_true_eq] at hbad
      omega
    clear none_ hb hlen he hck hbad
    rcases h with h | ⟨h, h' | ⟨h', h'' | ⟨h'', h3 | ⟨h3, h4⟩⟩⟩⟩
    rotate_right
    · have wr : IntKind.i64.wrap (f + c) = f + c := by rw [IntKind.wrap_i64]; omega
      go_enter Tryd.func22, Tryd.ntmps22
      go_wp2_with fail
      refine HC.out.mono ?_
      rintro e w1 ⟨rfl, rfl⟩
      go_wp2
      go_ret2
      exact ⟨_, by rw [HE.out]; rfl, Below.refl _ _, by rw [HB.out]; exact World.ownsRow_nil _ _ _ _⟩
    all_goals
      go_enter Tryd.func22, Tryd.ntmps22
      go_wp2_with fail
      refine HC.out.mono ?_
      rintro e w1 ⟨rfl, rfl⟩
      go_wp2
      go_ret2
      exact ⟨_, by rw [HE.out]; rfl, Below.refl _ _, by rw [HB.out]; exact World.ownsRow_nil _ _ _ _⟩
  have hgood : ¬ c < 1 ∧ ¬ f < 0 ∧ ¬ n < f ∧ ¬ n - f < c := by
    simp only [turnBad, Bool.or_eq_false_iff, decide_eq_false_iff_not] at hbad
    exact hbad
  obtain ⟨h1, h2, h3, h4⟩ := hgood
  obtain ⟨p, rfl⟩ := Int.eq_ofNat_of_zero_le (show 0 ≤ f by omega)
  obtain ⟨m, rfl⟩ := Int.eq_ofNat_of_zero_le (show 0 ≤ c by omega)
  have hpm : p + m ≤ 2016 := by omega
  have he : turnE bs n (p : Int) (m : Int) on seed = if turnHit bs p m on = true then 117 else 0 := by
    rw [turnE, if_neg (by rw [hck]; simp), if_neg (by rw [hbad]; simp)]; rfl
  have HE := Lib.hid he
  have HN := Lib.hid none_
  have HTB := Lib.hid (show turnE bs n (p : Int) (m : Int) on seed = 0 → turnB bs n (p : Int) (m : Int) on seed = sealB seed (turns m p bs) from fun h => by rw [turnB, if_pos h]; rfl)
  have w2' : IntKind.i64.wrap ((p : Int) + (m : Int)) = ((p + m : Nat) : Int) := by rw [IntKind.wrap_i64]; omega
  have q1 : ¬ (2016 : Int) < (m : Int) := by omega
  have q2 : ¬ n < (p : Int) + (m : Int) := by omega
  have HB := Lib.hid hb
  have H256 := Lib.hid h256
  obtain rfl : len = 256 := by omega
  clear none_ hb hlen he hck hbad hsl has h256
  go_enter Tryd.func22, Tryd.ntmps22
  go_wp2_with fail
  refine HC.out.mono ?_
  rintro e w1 ⟨rfl, rfl⟩
  clear HC
  go_wp2_with fail
  go_loopw [15, 16, 17] (fun v i _ wr => ∃ j : Nat, j ≤ 2016 ∧ i = .int .i64 j ∧ wr.ownsRow w.heap.size 4 1 v j (bls (tl bs p m on j)) ∧ (∀ i, p ≤ i → i < j → i < p + m → setN bs i = !on) ∧ Below w.heap.size w wr) (fun _ i _ _ => 2016 - (intOf i).toNat)
  case atStart => exact ⟨0, by omega, rfl, World.ownsRow_nil _ _ _ _, fun i _ _ => by omega, Below.refl _ _⟩
  case round =>
    obtain ⟨j, hj, rfl, ho, hall, hbel⟩ := hrel
    have O4 := Lib.hid ho
    have B4 := Lib.hid hbel
    have X1 := Lib.hid hall
    have hsz := hbel.size
    clear ho hbel hall
    by_cases hlt : j < 2016
    · have HSE := Lib.hid (ref_set_any A 256 cap bs (j : Int) wr (HB.out.below B4.out))
      rw [setZ_nat] at HSE
      have HTS := Lib.hid (tl_succ bs p m on j)
      by_cases hin : p ≤ j ∧ j < p + m
      · obtain ⟨i1, i2⟩ := hin
        have i3 : (p : Int) ≤ (j : Int) := by omega
        have i4 : (j : Int) < (p : Int) + (m : Int) := by omega
        have HT2 := Lib.hid (show tl bs p m on (j + 1) = tl bs p m on j ++ [on] by rw [HTS.out, if_pos ⟨i1, i2⟩])
        by_cases hs : setN bs j = on
        · have hhit : turnHit bs p m on = true := by
            unfold turnHit
            rw [List.any_eq_true]
            exact ⟨j - p, by rw [List.mem_range]; omega, by rw [show p + (j - p) = j by omega, hs]; simp⟩
          have HV := Lib.hid (show turnE bs n (p : Int) (m : Int) on seed = 117 by rw [HE.out, hhit]; rfl)
          have HBB := Lib.hid (HN.out (by rw [HV.out]; decide))
          rw [hs] at HSE
          clear hs hhit
          have hoo : (on == on) = true := by simp
          go_wp2_with fail
          refine HSE.out.mono ?_
          rintro e w' ⟨rfl, rfl⟩
          go_wp2
          go_ret2
          exact ⟨_, by rw [HV.out]; rfl, B4.out, by rw [HBB.out]; exact World.ownsRow_nil _ _ _ _⟩
        · have hs' : setN bs j = !on := by cases on <;> cases h : setN bs j <;> simp_all
          rw [hs'] at HSE
          have HX := Lib.hid (show ∀ i, p ≤ i → i < j + 1 → i < p + m → setN bs i = !on from fun i h1 h2 h3 => by
            rcases Nat.lt_or_ge i j with h | h
            · exact X1.out i h1 h h3
            · obtain rfl : i = j := by omega
              exact hs')
          have hoo : ((!on) == on) = false := by cases on <;> rfl
          have XL := Lib.hid (lit_rowN wr 4 (bls [on]) 1 wr.heap.size rfl rfl)
          clear hs hs' HTS
          go_wp2_with fail
          refine HSE.out.mono ?_
          rintro e w' ⟨rfl, rfl⟩
          go_wp2_with (first
            | (at_builtin
               refine app_gen _ 53 4 (.bool false) 1 1 Tryd.underlying53 infoBool rfl (by decide) rfl (.tmp 68) (.tmp 70) rfl w.heap.size u15 j (bls (tl bs p m on j)) rfl (O4.out.alloc _) (some ⟨wr.heap.size, 0, none⟩) 1 1 (bls [on]) rfl (fun e => by cases e) XL.out (one_bls _) (by unfold maxLen; omega) (by omega) (by simp; omega) ?_
               intro v' w2 hown2 hg2
               have bel2 := Lib.hid (below_row1 (B4.out.alloc hsz (.cells (bls [on]).toArray 4)) hg2 (fun g e => (O4.out.lt g e).1) (by simp; omega))
               have own2 := Lib.hid hown2
               clear hown2 hg2)
            | fail)
          go_roundw
          case rel => exact ⟨j + 1, by omega, by go_num, by rw [HT2.out, bls_append]; exact own2.out, HX.out, bel2.out⟩
          case measure => simp [intOf]; omega
      · have HT2 := Lib.hid (show tl bs p m on (j + 1) = tl bs p m on j ++ [setN bs j] by rw [HTS.out, if_neg hin])
        have HX := Lib.hid (show ∀ i, p ≤ i → i < j + 1 → i < p + m → setN bs i = !on from fun i h1 h2 h3 => by
          rcases Nat.lt_or_ge i j with h | h
          · exact X1.out i h1 h h3
          · obtain rfl : i = j := by omega
            exact absurd ⟨h1, h3⟩ hin)
        generalize setN bs j = sv at HSE HT2
        have XL := Lib.hid (lit_rowN wr 4 (bls [sv]) 1 wr.heap.size rfl rfl)
        clear HTS
        have hin' : ¬ (p : Int) ≤ (j : Int) ∨ (p : Int) ≤ (j : Int) ∧ ¬ (j : Int) < (p : Int) + (m : Int) := by omega
        clear hin
        rcases hin' with i3 | ⟨i3, i4⟩
        all_goals
          go_wp2_with fail
          refine HSE.out.mono ?_
          rintro e w' ⟨rfl, rfl⟩
          go_wp2_with (first
            | (at_builtin
               refine app_gen _ 53 4 (.bool false) 1 1 Tryd.underlying53 infoBool rfl (by decide) rfl (.tmp 68) (.tmp 70) rfl w.heap.size u15 j (bls (tl bs p m on j)) rfl (O4.out.alloc _) (some ⟨wr.heap.size, 0, none⟩) 1 1 (bls [sv]) rfl (fun e => by cases e) XL.out (one_bls _) (by unfold maxLen; omega) (by omega) (by simp; omega) ?_
               intro v' w2 hown2 hg2
               have bel2 := Lib.hid (below_row1 (B4.out.alloc hsz (.cells (bls [sv]).toArray 4)) hg2 (fun g e => (O4.out.lt g e).1) (by simp; omega))
               have own2 := Lib.hid hown2
               clear hown2 hg2)
            | fail)
          go_roundw
          case rel => exact ⟨j + 1, by omega, by go_num, by rw [HT2.out, bls_append]; exact own2.out, HX.out, bel2.out⟩
          case measure => simp [intOf]; omega
    · obtain rfl : j = 2016 := by omega
      have hhit : turnHit bs p m on = false := by
        unfold turnHit
        rw [List.any_eq_false]
        intro i hi
        rw [List.mem_range] at hi
        rw [X1.out (p + i) (by omega) (by omega) (by omega)]
        cases on <;> simp
      have HV := Lib.hid (show turnE bs n (p : Int) (m : Int) on seed = 0 by rw [HE.out, hhit]; rfl)
      have HBB := Lib.hid (show turnB bs n (p : Int) (m : Int) on seed = sealB seed (packL 2016 (tl bs p m on 2016)) by rw [HTB.out HV.out, turned_same seed H256.out hpm (fun i a b => X1.out i a (by omega) b)])
      have HLE := Lib.hid (show (turnB bs n (p : Int) (m : Int) on seed).length = 256 by rw [HBB.out, sealB_len8, packL_length])
      obtain ⟨A', c', rfl, hrow, _, _, _, _⟩ := own_sliceN O4.out
      rw [Nat.mul_one] at hrow
      have HBY := Lib.hid (bytes_any A' 2016 c' (tl bs p m on 2016) seed wr (Nat.le_refl _) hrow)
      clear hhit hrow
      go_wp2_with fail
      refine HBY.out.mono ?_
      rintro e w2 ⟨v2, rfl, hb2, ho2⟩
      have O2 := Lib.hid (own_monoB ho2 hsz)
      have B2 := Lib.hid (below_all B4.out hsz hb2)
      clear ho2 hb2
      go_wp2_with fail
      go_ret2
      refine ⟨_, by rw [HV.out]; rfl, B2.out, ?_⟩
      rw [HLE.out, HBB.out]
      exact O2.out
end Go.Proofs.YtcmpkcmfhfajpaaDoor.Bits
