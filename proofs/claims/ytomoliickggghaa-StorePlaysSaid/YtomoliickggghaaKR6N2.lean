
/-
  THE WALKS of layer 1 (wire), the program's, third part: Get, Put.
  THE WALKS of layer 1 (wire), the program's, fourth part: Put.
  THE WALKS of layer 1 (wire), the program's, fifth part: Seal, Sealed.
  THE WALKS of layer 1 (wire), the program's, sixth part: whole, Pack.
  THE WALKS of layer 1 (wire), the program's, seventh part: Pack.
  THE WALKS of layer 1's reference: Same; the law's sameNumbers.
  WORDS: append onto a row of one's own, for the walk. Bytes and 64-bit numbers.
  WORDS: rows of one's own of any element; append onto them, for the walk and at a step of a region that draws; bytes.Equal.
-/
import Derived.Test.YtomoliickggghaaKR6N1
import Derived.Laws.MakeOwn
import Derived.Test.YtomoliickggghaaProg
import Derived.Laws.AppendOwnNone
import Derived.Shelf.Bytes.SlEqualAll
namespace Go.Proofs.Ytomoliickggghaa.Wire
open Go.RowKit
set_option maxHeartbeats 8000000
set_option maxRecDepth 100000
set_option linter.unusedVariables false
set_option linter.unusedSimpArgs false

theorem sub_bytes {w : World} {a : Addr} {len : Nat} {bs : List UInt8} {at_ n : Int} (hb : BytesAt w (some a) len bs) (hf : fits len at_ n = true) :
    BytesAt w (some (a.add at_.toNat)) n.toNat (sub bs at_ n) := by
  obtain ⟨h1, h2, h3, h4, h5⟩ := fits_true hf
  have := hb.cut at_.toNat (at_.toNat + n.toNat) (by omega) (by omega)
  rwa [Nat.add_sub_cancel_left] at this

/-- The four variables that a closure of Get or Put holds. -/
theorem boxes (w : World) (c0 c1 c2 c3 : Value) (t0 t1 t2 t3 : TypeId) (W : World) (hW : (((w.alloc (.cells #[c0] t0)).alloc (.cells #[c1] t1)).alloc (.cells #[c2] t2)).alloc (.cells #[c3] t3) = W) :
    Blk W w.heap.size t0 #[c0] ∧ Blk W (w.heap.size + 1) t1 #[c1] ∧ Blk W (w.heap.size + 1 + 1) t2 #[c2] ∧ Blk W (w.heap.size + 1 + 1 + 1) t3 #[c3] ∧ Below w.heap.size w W ∧ W.heap.size = w.heap.size + 1 + 1 + 1 + 1 := by
  subst hW
  refine ⟨(((Blk.new w t0 #[c0]).alloc _).alloc _).alloc _, ?_, ?_, ?_, ?_, by simp⟩
  · have := ((Blk.new (w.alloc (.cells #[c0] t0)) t1 #[c1]).alloc (.cells #[c2] t2)).alloc (.cells #[c3] t3)
    simpa using this
  · have := (Blk.new ((w.alloc (.cells #[c0] t0)).alloc (.cells #[c1] t1)) t2 #[c2]).alloc (.cells #[c3] t3)
    simpa using this
  · have := Blk.new (((w.alloc (.cells #[c0] t0)).alloc (.cells #[c1] t1)).alloc (.cells #[c2] t2)) t3 #[c3]
    simpa using this
  · exact ((((Below.refl w.heap.size w).alloc (Nat.le_refl _) _).alloc (by simp) _).alloc (by simp; omega) _).alloc (by simp; omega) _
theorem blk_cell0 {w : World} {g : Nat} {t : TypeId} {c : Value} (h : Blk w g t #[c]) : w.cell? ⟨g, 0, none⟩ = some c := h.cell 0

end Go.Proofs.Ytomoliickggghaa.Wire

namespace Go.Proofs.Ytomoliickggghaa.Wire
open Go.RowKit
set_option maxHeartbeats 8000000
set_option maxRecDepth 100000
set_option linter.unusedVariables false
set_option linter.unusedSimpArgs false

theorem only_of_drew {w w' : World} {row : Option Nat} (h : w.drew.grownBy w' row) : w.grownBy w' row := ⟨h.os, h.tape, h.output, h.size, h.block⟩

end Go.Proofs.Ytomoliickggghaa.Wire

namespace Go.Proofs.Ytomoliickggghaa.Wire
open Go.RowKit
set_option maxHeartbeats 8000000
set_option maxRecDepth 100000
set_option linter.unusedVariables false
set_option linter.unusedSimpArgs false

theorem boxes3 (w : World) (c0 c1 c2 : Value) (t0 t1 t2 : TypeId) (W : World) (hW : ((w.alloc (.cells #[c0] t0)).alloc (.cells #[c1] t1)).alloc (.cells #[c2] t2) = W) :
    Blk W w.heap.size t0 #[c0] ∧ Blk W (w.heap.size + 1) t1 #[c1] ∧ Blk W (w.heap.size + 1 + 1) t2 #[c2] ∧ Below w.heap.size w W ∧ W.heap.size = w.heap.size + 1 + 1 + 1 := by
  subst hW
  refine ⟨((Blk.new w t0 #[c0]).alloc _).alloc _, ?_, ?_, ?_, by simp⟩
  · have := (Blk.new (w.alloc (.cells #[c0] t0)) t1 #[c1]).alloc (.cells #[c2] t2)
    simpa using this
  · have := Blk.new ((w.alloc (.cells #[c0] t0)).alloc (.cells #[c1] t1)) t2 #[c2]
    simpa using this
  · exact (((Below.refl w.heap.size w).alloc (Nat.le_refl _) _).alloc (by simp) _).alloc (by simp; omega) _

theorem fits4 {len : Nat} (h : 4 ≤ len) : fits len ((len : Int) - 4) 4 = true := fits_mk (by omega) (by omega) (by omega) (by omega)
theorem fits4_no {len : Nat} (h : ¬ 4 ≤ len) : fits len ((len : Int) - 4) 4 = false := by
  cases e : fits len ((len : Int) - 4) 4
  · rfl
  · have := fits_true e; omega

end Go.Proofs.Ytomoliickggghaa.Wire

namespace Go.Proofs.Ytomoliickggghaa.Wire
open Go.RowKit
set_option maxHeartbeats 8000000
set_option maxRecDepth 100000
set_option linter.unusedVariables false
set_option linter.unusedSimpArgs false

/-- Bytes, and noughts behind them. -/
def roomOf (bs : List UInt8) (size : Nat) : Array Value := (bvl (bs ++ List.replicate (size - bs.length) 0)).toArray
theorem roomOf_size {bs : List UInt8} {size : Nat} (h : bs.length ≤ size) : (roomOf bs size).size = size := by
  simp [roomOf, bvl]; omega
theorem roomOf_nil (size : Nat) : madeCells (Value.int .u8 0).cells size = roomOf [] size := by
  apply Array.ext
  · rw [size_madeCells, roomOf_size (by simp)]
  · intro i h1 h2
    simp [madeCells, roomOf, bvl, bval, Value.cells]
    rw [Nat.mod_one]; rfl
theorem roomOf_put {bs new : List UInt8} {size : Nat} (h : bs.length + new.length ≤ size) : putN (roomOf bs size) bs.length new new.length = roomOf (bs ++ new) size := by
  apply Array.ext_getElem?
  intro j
  rw [putN_get _ _ _ _ _ (by rw [roomOf_size (by omega)]; omega)]
  simp only [roomOf, List.getElem?_toArray, bvl_get]
  by_cases h1 : bs.length ≤ j ∧ j < bs.length + new.length
  · rw [if_pos h1, List.getElem?_append_left (by simp; omega), List.getElem?_append_right (by omega), List.getD_eq_getElem?_getD, List.getElem?_eq_getElem (by omega : j - bs.length < new.length)]
    simp
  · rw [if_neg h1]
    by_cases h2 : j < bs.length
    · rw [List.getElem?_append_left h2, List.append_assoc, List.getElem?_append_left h2]
    · rw [List.getElem?_append_right (by omega), List.getElem?_append_right (by simp; omega)]
      simp only [List.length_append, List.getElem?_replicate]
      by_cases h3 : j < size
      · rw [if_pos (by omega), if_pos (by omega)]
      · rw [if_neg (by omega), if_neg (by omega)]

end Go.Proofs.Ytomoliickggghaa.Wire

namespace Go.Proofs.Ytomoliickggghaa.Wire
open Go.RowKit
set_option maxHeartbeats 16000000
set_option maxRecDepth 100000
set_option linter.unusedVariables false
set_option linter.unusedSimpArgs false

theorem info_u8 : (Try.prog.info? 5).map (fun i => (i.zero, i.size, i.bytes)) = some (some (.int .u8 0), 1, 1) := by kernel_rfl
theorem make_bytes (N : Nat) (hN : N ≤ 140737488355328) (w : World) :
    (Instr.makeSlice 34 (.int .i64 (N : Int)) (.int .i64 (N : Int))).run Try.prog w = .ok (.slice (some ⟨w.heap.size, 0, none⟩) N N) (w.alloc (.cells (roomOf [] N) 5)) := by
  obtain ⟨i0, hi, hz0, hz1, hz2⟩ := info_parts info_u8
  have := run_make (P := Try.prog) w 34 5 i0 (.int .u8 0) Try.underlying34 hi hz0 .i64 .i64 N N (by omega) (by omega) (by rw [hz2]; omega) (by omega)
  rw [hz1, Nat.mul_one, Int.toNat_natCast, roomOf_nil] at this
  exact this

/-- The loop of Pack: what each round keeps. -/
def PackR (W0 : World) (g N : Nat) (l : List Nat) (ws : List Int) (k : Nat) (wr : World) : Prop :=
  Blk wr g 5 (roomOf (pre l ws k) N) ∧ W0.grownBy wr (some g)

theorem pre_zero (l : List Nat) (ws : List Int) : pre l ws 0 = [] := by cases l <;> cases ws <;> rfl

end Go.Proofs.Ytomoliickggghaa.Wire

namespace Go.Proofs.Ytomoliickggghaa.Wire
open Go.RowKit
set_option maxHeartbeats 8000000
set_option maxRecDepth 100000
set_option linter.unusedVariables false
set_option linter.unusedSimpArgs false

theorem take_ne {α : Type} {x y : List α} {k : Nat} {c d : α} (hx : x[k]? = some c) (hy : y[k]? = some d) (h : c ≠ d) : x ≠ y := by
  rintro rfl; rw [hx] at hy; injection hy with hy; exact h hy
theorem take_eq {α : Type} {x y : List α} {k : Nat} {c : α} (hx : x[k]? = some c) (hy : y[k]? = some c) (h : x.take k = y.take k) : x.take (k + 1) = y.take (k + 1) := by
  rw [List.take_add_one, List.take_add_one, hx, hy, h]
theorem take_all {α : Type} {x y : List α} {n : Nat} (hx : x.length = n) (hy : y.length = n) (h : x.take n = y.take n) : x = y := by
  rw [List.take_of_length_le (by omega), List.take_of_length_le (by omega)] at h; exact h

theorem same_any (A B : Option Addr) (n m ca cb : Nat) (x y : List UInt8) (w : World) (hn : n ≤ 1125899906842624000) (ha : BytesAt w A n x) (hb : BytesAt w B m y) :
    Calls Try.prog 22 #[.slice A n ca, .slice B m cb] w fun e w' => e = .returned (.bool (x == y)) ∧ ∃ k, w' = w.drewN k := by
  have lx : x.length = n := by have := ha.len; exact this
  have ly : y.length = m := by have := hb.len; exact this
  by_cases hnm : n = m
  · subst hnm
    have HA := Lib.hid ha
    have HB := Lib.hid hb
    have HL := Lib.hid (And.intro lx ly)
    clear ha hb lx ly
    go_enter Try.func22, Try.ntmps22
    go_wp2_with fail
    go_loopw [5] (fun i wr => ∃ k : Nat, k ≤ n ∧ i = .int .i64 k ∧ x.take k = y.take k ∧ ∃ q, wr = w.drewN q) (fun i _ => n - (intOf i).toNat)
    case atStart => exact ⟨0, by omega, rfl, by simp, 0, rfl⟩
    case round =>
      obtain ⟨k, hk, rfl, htk, q, rfl⟩ := hrel
      have HT := Lib.hid htk
      clear htk
      by_cases hlt : k < n
      · obtain ⟨a, c, rfl, hx, hc⟩ := HA.out.at_ hlt
        obtain ⟨b, d, rfl, hy, hd⟩ := HB.out.at_ hlt
        have HX := Lib.hid hx
        have HY := Lib.hid hy
        clear hx hy
        by_cases hcd : c = d
        · subst hcd
          have hq : ((c.toNat : Int) != (c.toNat : Int)) = false := by simp
          go_wp2_with fail
          go_quiet (fail)
          go_wp2_with fail
          go_roundw
          case rel => exact ⟨k + 1, by omega, by go_num, take_eq HX.out HY.out HT.out, _, by first | rfl | rw [World.drewN_drewN]⟩
          case measure => simp [intOf]; omega
        · have hq : ((c.toNat : Int) != (d.toNat : Int)) = true := by
            simp only [bne_iff_ne, ne_eq]
            intro h; exact hcd (UInt8.toNat_inj.mp (by omega))
          have hxy := take_ne HX.out HY.out hcd
          go_wp2_with fail
          go_quiet (fail)
          go_wp2_with fail
          go_ret
          exact ⟨ret_bool (by simpa using hxy), _, by first | rfl | rw [World.drewN_drewN]⟩
      · obtain rfl : k = n := by omega
        have hxy := take_all HL.out.1 HL.out.2 HT.out
        go_wp2_with fail
        go_ret
        exact ⟨ret_bool (by simpa using hxy), _, by first | rfl | rw [World.drewN_drewN]⟩
  · have hd : ((n : Int) != (m : Int)) = true := by simp; omega
    have hxy : x ≠ y := by rintro rfl; omega
    have HXY := Lib.hid hxy
    clear hxy hnm ha hb
    go_enter Try.func22, Try.ntmps22
    go_wp2_with fail
    go_ret
    exact ⟨ret_bool (by simpa using HXY.out), 0, rfl⟩

end Go.Proofs.Ytomoliickggghaa.Wire

namespace Go.Proofs.Ytomoliickggghaa
open Go.RowKit
set_option linter.unusedVariables false
set_option linter.unusedSimpArgs false

theorem infoU8 : (Try.prog.info? 5).map (fun i => (i.zero, i.size, i.bytes)) = some (some (.int .u8 0), 1, 1) := by kernel_rfl
theorem infoU64 : (Try.prog.info? 120).map (fun i => (i.zero, i.size, i.bytes)) = some (some (.int .u64 0), 1, 8) := by kernel_rfl

theorem app_u8 (w : World) {ops : Array Oper} {rest : List Oper} {o : Oper} {a : Act} {Q : Exit → Act → World → Prop} (hgd : o.guard = none) (s x : Operand)
    (ho : o.op = .call { callee := .builtin .append, args := #[s, x], argTypes := #[34, 34] })
    (base : Nat) (v : Value) (n : Nat) (xs : List Value) (hs : a.eval s = v) (hown : w.ownsRow base 5 1 v n xs)
    (A : Option Addr) (m c : Nat) (bs : List UInt8) (hx : a.eval x = .slice A m c) (hA : A = none → m = 0 ∧ c = 0) (hb : BytesAt w A m bs)
    (hbd : n + m ≤ 140737488355328) (hbase : base ≤ w.heap.size)
    (h : ∀ v' w', w'.ownsRow base 5 1 v' (n + m) (xs ++ bvl bs) → w.grownBy w' v.ownBlock → wpList Try.prog ops Q rest (a.put o.dst v') w') : wpList Try.prog ops Q (o :: rest) a w := by
  obtain ⟨i0, hi, hz0, hz1, hz2⟩ := info_parts infoU8
  cases A with
  | none =>
    obtain ⟨rfl, rfl⟩ := hA rfl
    have e : bs = [] := List.eq_nil_of_length_eq_zero hb.len
    subst e
    exact wpList_append_own_none hgd s x 34 ho base 5 i0 1 Try.underlying34 hi v n xs hs hown hx (h v w (by simpa [bvl] using hown) (World.grownBy.refl _ _))
  | some ad =>
    have hbl := hb.len
    refine wpList_append_own w hgd s x 34 ho base 5 i0 (.int .u8 0) 1 1 Try.underlying34 hi hz0 hz1 hz2 rfl (by decide) v n xs hs hown ad m c (bvl bs) hx (by rw [bvl_length]; omega) ?_ ?_ (by unfold maxLen; omega) (by omega) hbase (fun v' w' h1 h2 _ => h v' w' h1 h2)
    · intro j u hu
      obtain ⟨a', e', hc⟩ := hb.row.2 (by rw [← hbl]; have := (List.getElem?_eq_some_iff.1 hu).1; rw [bvl_length] at this; omega)
      obtain rfl : ad = a' := by simpa using e'
      exact hc j u hu
    · intro u hu
      simp only [bvl, List.mem_map] at hu
      obtain ⟨y, _, rfl⟩ := hu
      rfl

/-- What a row of one's own is, spelt out. -/
theorem own_form {w : World} {base : Nat} {t : TypeId} {v : Value} {n : Nat} {xs : List Value} (h : w.ownsRow base t 1 v n xs) (hn : 0 < n) :
    ∃ g cap cs, v = .slice (some ⟨g, 0, none⟩) n cap ∧ base ≤ g ∧ Blk w g t cs ∧ n ≤ cap ∧ cap ≤ maxLen ∧ cs.size = cap := by
  rcases h.2 with ⟨_, e⟩ | ⟨g, cap, cs, h1, h2, h3, h4, h5, h6, _⟩
  · omega
  · exact ⟨g, cap, cs, h1, h2, h3, h4, h5, by omega⟩
theorem own_blk {w : World} {base g n cap : Nat} {t : TypeId} {xs : List Value} (h : w.ownsRow base t 1 (.slice (some ⟨g, 0, none⟩) n cap) n xs) :
    ∃ cs, base ≤ g ∧ Blk w g t cs ∧ n ≤ cap ∧ cap ≤ maxLen ∧ cs.size = cap := by
  rcases h.2 with ⟨e, _⟩ | ⟨g', cap', cs, h1, h2, h3, h4, h5, h6, _⟩
  · cases e
  · injection h1 with e1 e2 e3
    obtain rfl : g = g' := by injection e1 with e1; injection e1
    subst e3
    exact ⟨cs, h2, h3, h4, h5, by omega⟩
/-- Any value that owns bytes is a slice of them. -/
theorem own_slice {w : World} {base : Nat} {v : Value} {n : Nat} {bs : List UInt8} (h : w.ownsRow base 5 1 v n (bvl bs)) :
    ∃ A cap, v = .slice A n cap ∧ BytesAt w A n bs ∧ n ≤ cap ∧ cap ≤ maxLen ∧ (A = none → n = 0 ∧ cap = 0) ∧ (∀ a, A = some a → base ≤ a.block) := by
  rcases h.2 with ⟨e, e0⟩ | ⟨g, cap, cs, h1, h2, h3, h4, h5, h6, _⟩
  · subst e e0
    have : bs = [] := List.eq_nil_of_length_eq_zero (by have := h.1; simpa [bvl_length] using this)
    subst this
    exact ⟨none, 0, rfl, BytesAt.nil_ _ _, Nat.le_refl _, by unfold maxLen; omega, fun _ => ⟨rfl, rfl⟩, fun a ha => by cases ha⟩
  · subst h1
    exact ⟨_, cap, rfl, BytesAt.of_own h, h4, h5, (fun e => by cases e), fun a ha => by injection ha with ha; subst ha; exact h2⟩
theorem own_slice64 {w : World} {base : Nat} {v : Value} {n : Nat} {l : List Nat} (h : w.ownsRow base 120 1 v n (nums l)) :
    ∃ A cap, v = .slice A n cap ∧ RowAt w A n (nums l) ∧ n ≤ cap ∧ cap ≤ maxLen ∧ (∀ a, A = some a → base ≤ a.block) := by
  rcases h.2 with ⟨e, e0⟩ | ⟨g, cap, cs, h1, h2, h3, h4, h5, h6, _⟩
  · subst e e0
    have : nums l = [] := List.eq_nil_of_length_eq_zero (by have := h.1; simpa using this)
    rw [this]
    exact ⟨none, 0, rfl, RowAt.nil_ _ _, Nat.le_refl _, by unfold maxLen; omega, fun a ha => by cases ha⟩
  · subst h1
    exact ⟨_, cap, rfl, RowAt.of_own h, h4, h5, fun a ha => by injection ha with ha; subst ha; exact h2⟩
/-- A row of one's own stays, where only below its base nothing is promised but all else is. -/
theorem own_below {w w' : World} {base : Nat} {t : TypeId} {v : Value} {n : Nat} {xs : List Value} (h : w.ownsRow base t 1 v n xs) (hb : Below w.heap.size w w') : w'.ownsRow base t 1 v n xs :=
  h.kept (row := none) (only_of_below hb none) (by cases v.ownBlock with | none => exact .inl rfl | some k => exact .inr (by simp))
theorem own_grown {w w' : World} {base g : Nat} {t : TypeId} {v : Value} {n : Nat} {xs : List Value} (h : w.ownsRow base t 1 v n xs) (hb : w.grownBy w' (some g)) (hne : v.ownBlock ≠ some g) : w'.ownsRow base t 1 v n xs :=
  h.kept hb (.inr hne)
theorem below_own {a w w' : World} {base : Nat} {t : TypeId} {v : Value} {n : Nat} {xs : List Value} (h : w.ownsRow base t 1 v n xs) (hb : Below a.heap.size a w) (hbase : a.heap.size ≤ base) (hg : w.grownBy w' v.ownBlock) : Below a.heap.size a w' :=
  below_only hb hg (fun g e => Nat.le_trans hbase (h.lt g e).1)
end Go.Proofs.Ytomoliickggghaa

namespace Go.Proofs.Ytomoliickggghaa
open Go.RowKit
set_option linter.unusedVariables false
set_option linter.unusedSimpArgs false
section
variable {w w' : World}

theorem own_formN {base size : Nat} {t : TypeId} {v : Value} {n : Nat} {xs : List Value} (h : w.ownsRow base t size v n xs) (hn : 0 < n) :
    ∃ g cap cs, v = .slice (some ⟨g, 0, none⟩) n cap ∧ base ≤ g ∧ Blk w g t cs ∧ n ≤ cap ∧ cap ≤ maxLen ∧ cs.size = cap * size := by
  rcases h.2 with ⟨_, e⟩ | ⟨g, cap, cs, h1, h2, h3, h4, h5, h6, _⟩
  · omega
  · exact ⟨g, cap, cs, h1, h2, h3, h4, h5, h6⟩
theorem rowAt_ownN {base size : Nat} {t : TypeId} {A : Option Addr} {n c : Nat} {xs : List Value} (h : w.ownsRow base t size (.slice A n c) n xs) : RowAt w A (n * size) xs := by
  refine ⟨h.1, fun hn => ?_⟩
  have hn' : 0 < n := Nat.pos_of_mul_pos_right hn
  obtain ⟨g, cap, hv, _, hlt⟩ := h.form hn'
  have hA : A = some ⟨g, 0, none⟩ := by injection hv
  subst hA
  exact ⟨_, rfl, h.cells (g := g) rfl⟩
/-- Any value that owns a row is a slice of it. -/
theorem own_sliceN {base size : Nat} {t : TypeId} {v : Value} {n : Nat} {xs : List Value} (h : w.ownsRow base t size v n xs) :
    ∃ A cap, v = .slice A n cap ∧ RowAt w A (n * size) xs ∧ n ≤ cap ∧ cap ≤ maxLen ∧ (A = none → n = 0 ∧ cap = 0) ∧ (∀ a, A = some a → base ≤ a.block) := by
  rcases h.2 with ⟨e, e0⟩ | ⟨g, cap, cs, h1, h2, h3, h4, h5, h6, _⟩
  · subst e e0
    exact ⟨none, 0, rfl, rowAt_ownN h, Nat.le_refl _, by unfold maxLen; omega, fun _ => ⟨rfl, rfl⟩, fun a ha => by cases ha⟩
  · subst h1
    exact ⟨_, cap, rfl, rowAt_ownN h, h4, h5, (fun e => by cases e), fun a ha => by injection ha with ha; subst ha; exact h2⟩
theorem own_belowN {base size : Nat} {t : TypeId} {v : Value} {n : Nat} {xs : List Value} (h : w.ownsRow base t size v n xs) (hb : Below w.heap.size w w') : w'.ownsRow base t size v n xs :=
  h.kept (row := none) (only_of_below hb none) (by cases v.ownBlock with | none => exact .inl rfl | some k => exact .inr (by simp))
theorem own_grownN {base size g : Nat} {t : TypeId} {v : Value} {n : Nat} {xs : List Value} (h : w.ownsRow base t size v n xs) (hb : w.grownBy w' (some g)) (hne : v.ownBlock ≠ some g) : w'.ownsRow base t size v n xs :=
  h.kept hb (.inr hne)
theorem below_ownN {a : World} {base size : Nat} {t : TypeId} {v : Value} {n : Nat} {xs : List Value} (h : w.ownsRow base t size v n xs) (hb : Below a.heap.size a w) (hbase : a.heap.size ≤ base) (hg : w.grownBy w' v.ownBlock) : Below a.heap.size a w' :=
  below_only hb hg (fun g e => Nat.le_trans hbase (h.lt g e).1)
theorem own_mono {base base' size : Nat} {t : TypeId} {v : Value} {n : Nat} {xs : List Value} (h : w.ownsRow base t size v n xs) (hb : base' ≤ base) : w.ownsRow base' t size v n xs :=
  ⟨h.1, h.2.imp id fun ⟨g, cap, cur, h1, h2, h3⟩ => ⟨g, cap, cur, h1, Nat.le_trans hb h2, h3⟩⟩
/-- A literal's row is one's own. -/
theorem lit_ownN (w : World) (t : TypeId) (size : Nat) (vs : List Value) (n : Nat) (hn : vs.length = n * size) (hm : n ≤ maxLen) : (w.alloc (.cells vs.toArray t)).ownsRow w.heap.size t size (.slice (some ⟨w.heap.size, 0, none⟩) n n) n vs :=
  ⟨hn, .inr ⟨w.heap.size, n, vs.toArray, rfl, Nat.le_refl _, heap_alloc_new w _, Nat.le_refl _, hm, by simpa using hn, by simp [← hn]⟩⟩
theorem lit_rowN (w : World) (t : TypeId) (vs : List Value) (n g : Nat) (hn : vs.length = n) (hg : g = w.heap.size) : RowAt (w.alloc (.cells vs.toArray t)) (some ⟨g, 0, none⟩) n vs := by
  subst hg
  have h := rowAt_ownN (size := n) (n := 1) (c := 1) (w := w.alloc (.cells vs.toArray t)) (base := w.heap.size) (t := t) (xs := vs) (A := some ⟨w.heap.size, 0, none⟩)
    ⟨by omega, .inr ⟨w.heap.size, 1, vs.toArray, rfl, Nat.le_refl _, heap_alloc_new w _, Nat.le_refl _, by unfold maxLen; omega, by simp; omega, by simp [hn, List.take_of_length_le]⟩⟩
  rwa [Nat.one_mul] at h

theorem app_gen (w : World) {ops : Array Oper} {rest : List Oper} {o : Oper} {a : Act} {Q : Exit → Act → World → Prop} (T E : TypeId) (z : Value) (size bytes : Nat)
    (ht : Try.prog.underlying T = some (.slice E)) (hinf : (Try.prog.info? E).map (fun i => (i.zero, i.size, i.bytes)) = some (some z, size, bytes)) (hzs : z.cells.size = size) (hsz : 0 < size)
    (hgd : o.guard = none) (s x : Operand) (ho : o.op = .call { callee := .builtin .append, args := #[s, x], argTypes := #[T, T] })
    (base : Nat) (v : Value) (n : Nat) (xs : List Value) (hs : a.eval s = v) (hown : w.ownsRow base E size v n xs)
    (A : Option Addr) (m c : Nat) (news : List Value) (hx : a.eval x = .slice A m c) (hA : A = none → m = 0 ∧ c = 0) (hb : RowAt w A (m * size) news) (h1 : ∀ u ∈ news, u.oneCell' = true)
    (h63 : n + m ≤ maxLen) (hbd : (n + m) * bytes ≤ 140737488355328) (hbase : base ≤ w.heap.size)
    (h : ∀ v' w', w'.ownsRow base E size v' (n + m) (xs ++ news) → w.grownBy w' v.ownBlock → wpList Try.prog ops Q rest (a.put o.dst v') w') : wpList Try.prog ops Q (o :: rest) a w := by
  obtain ⟨i0, hi, hz0, hz1, hz2⟩ := info_parts hinf
  cases A with
  | none =>
    obtain ⟨rfl, rfl⟩ := hA rfl
    have e : news = [] := List.eq_nil_of_length_eq_zero (by rw [hb.len]; omega)
    subst e
    exact wpList_append_own_none hgd s x T ho base E i0 size ht hi v n xs hs hown hx (h v w (by simpa using hown) (World.grownBy.refl _ _))
  | some ad =>
    refine wpList_append_own w hgd s x T ho base E i0 z size bytes ht hi hz0 hz1 hz2 hzs hsz v n xs hs hown ad m c news hx hb.len ?_ h1 h63 hbd hbase (fun v' w' h1 h2 _ => h v' w' h1 h2)
    intro j u hu
    obtain ⟨a', e', hc⟩ := hb.2 (by have := (List.getElem?_eq_some_iff.1 hu).1; have := hb.len; omega)
    obtain rfl : ad = a' := by simpa using e'
    exact hc j u hu
theorem step_app_gen (w : World) {ops : Array Oper} {o : Oper} {a : Act} {K : Act → World → Prop} {Q : Exit → Act → World → Prop} {E' : Prop} (T E : TypeId) (z : Value) (size bytes : Nat)
    (ht : Try.prog.underlying T = some (.slice E)) (hinf : (Try.prog.info? E).map (fun i => (i.zero, i.size, i.bytes)) = some (some z, size, bytes)) (hzs : z.cells.size = size) (hsz : 0 < size)
    (hgd : o.guard = none) (s x : Operand) (ho : o.op = .call { callee := .builtin .append, args := #[s, x], argTypes := #[T, T] })
    (base : Nat) (v : Value) (n : Nat) (xs : List Value) (hs : a.eval s = v) (hown : w.ownsRow base E size v n xs)
    (ad : Addr) (m c : Nat) (news : List Value) (hx : a.eval x = .slice (some ad) m c) (hb : RowAt w (some ad) (m * size) news) (h1 : ∀ u ∈ news, u.oneCell' = true)
    (h63 : n + m ≤ maxLen) (hbd : (n + m) * bytes ≤ 140737488355328) (hbase : base ≤ w.heap.size)
    (h : ∀ v' w', w'.ownsRow base E size v' (n + m) (xs ++ news) → w.grownBy w' v.ownBlock → K (a.put o.dst v') w') :
    if Region.wanted o (yielded ops a.tmps) = true then Oper.wp Try.prog o a w K Q else E' := by
  have hw : Region.wanted o (yielded ops a.tmps) = true := by simp [Region.wanted, hgd]
  rw [if_pos hw]
  obtain ⟨i0, hi, hz0, hz1, hz2⟩ := info_parts hinf
  refine wp_append_own w s x T ho base E i0 z size bytes ht hi hz0 hz1 hz2 hzs hsz v n xs hs hown ad m c news hx hb.len ?_ h1 h63 hbd hbase (fun v' w' h1 h2 _ => h v' w' h1 h2)
  intro j u hu
  obtain ⟨a', e', hc⟩ := hb.2 (by have := (List.getElem?_eq_some_iff.1 hu).1; have := hb.len; omega)
  obtain rfl : ad = a' := by simpa using e'
  exact hc j u hu
end

theorem infoInt : (Try.prog.info? 3).map (fun i => (i.zero, i.size, i.bytes)) = some (some (.int .i64 0), 1, 8) := by kernel_rfl
theorem one_ints (zs : List Int) : ∀ u ∈ ints zs, u.oneCell' = true := fun u hu => by
  simp only [ints, List.mem_map] at hu
  obtain ⟨y, _, rfl⟩ := hu
  rfl
theorem one_nums (zs : List Nat) : ∀ u ∈ nums zs, u.oneCell' = true := fun u hu => by
  simp only [nums, List.mem_map] at hu
  obtain ⟨y, _, rfl⟩ := hu
  rfl
theorem app_i64 (w : World) {ops : Array Oper} {rest : List Oper} {o : Oper} {a : Act} {Q : Exit → Act → World → Prop} (hgd : o.guard = none) (s x : Operand)
    (ho : o.op = .call { callee := .builtin .append, args := #[s, x], argTypes := #[42, 42] })
    (base : Nat) (v : Value) (n : Nat) (xs : List Value) (hs : a.eval s = v) (hown : w.ownsRow base 3 1 v n xs)
    (A : Option Addr) (m c : Nat) (ys : List Int) (hx : a.eval x = .slice A m c) (hA : A = none → m = 0 ∧ c = 0) (hb : RowAt w A m (ints ys))
    (hbd : n + m ≤ 17592186044416) (hbase : base ≤ w.heap.size)
    (h : ∀ v' w', w'.ownsRow base 3 1 v' (n + m) (xs ++ ints ys) → w.grownBy w' v.ownBlock → wpList Try.prog ops Q rest (a.put o.dst v') w') : wpList Try.prog ops Q (o :: rest) a w :=
  app_gen w 42 3 (.int .i64 0) 1 8 Try.underlying42 infoInt rfl (by decide) hgd s x ho base v n xs hs hown A m c (ints ys) hx hA (by rwa [Nat.mul_one]) (one_ints ys) (by unfold maxLen; omega) (by omega) hbase h
theorem own_ints {w : World} {base : Nat} {v : Value} {n : Nat} {zs : List Int} (h : w.ownsRow base 3 1 v n (ints zs)) :
    ∃ A cap, v = .slice A n cap ∧ RowAt w A n (ints zs) ∧ n ≤ cap ∧ cap ≤ maxLen ∧ (A = none → n = 0 ∧ cap = 0) ∧ (∀ a, A = some a → base ≤ a.block) := by
  have := own_sliceN h
  rwa [Nat.mul_one] at this
theorem own_nums {w : World} {base : Nat} {v : Value} {n : Nat} {l : List Nat} (h : w.ownsRow base 120 1 v n (nums l)) :
    ∃ A cap, v = .slice A n cap ∧ RowAt w A n (nums l) ∧ n ≤ cap ∧ cap ≤ maxLen ∧ (A = none → n = 0 ∧ cap = 0) ∧ (∀ a, A = some a → base ≤ a.block) := by
  have := own_sliceN h
  rwa [Nat.mul_one] at this

/-! ### bytes.Equal -/
theorem strOf (x : List UInt8) : strOfNums (x.map fun c => (c.toNat : Int)) = ⟨x.toArray⟩ := by
  unfold strOfNums
  rw [List.map_map]
  congr 2
  conv => rhs; rw [← List.map_id x]
  exact List.map_congr_left fun c _ => by simp
theorem conv_string {w : World} {A : Option Addr} {n : Nat} {x : List UInt8} (h : BytesAt w A n x) (c : Nat) : (convert 34 9 (.slice A n c)).run Try.prog w = .ok (.string ⟨x.toArray⟩) w := by
  have hl := h.len
  have hin : Lib.BytesIn w A n (x.map fun c => (c.toNat : Int)) := by
    intro hn
    obtain ⟨a, rfl, hc⟩ := h.2 hn
    refine Lib.BytesIn.of_cells (fun i hi => ?_) hn
    have hx : x[i]? = some x[i] := List.getElem?_eq_getElem (by omega)
    rw [hc i _ hx, List.getD_eq_getElem?_getD, List.getElem?_map, hx]; rfl
  rw [hin.convert (by simpa using hl) c 34 5 9 Try.underlying34 Try.underlying5 Try.underlying9, strOf]
end Go.Proofs.Ytomoliickggghaa
