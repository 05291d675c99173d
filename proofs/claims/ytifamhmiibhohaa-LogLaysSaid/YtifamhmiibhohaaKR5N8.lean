
/-
  THE WALK of slices.Clone of bytes.
  RECORDS, plain: which may be, their bytes.
  THE WALK of a record's may.
  THE WALK of a record's may, whole.
  RECORDS, plain, more: a record's bytes go in; there and back.
  THE WALK of log.Pack.
  RECORDS, plain: what bytes say.
  THE WALK of log.Unpack.
-/
import Derived.Test.YtifamhmiibhohaaKR5N7
import Derived.WalkSpells
import Derived.Test.YtifamhmiibhohaaKR5N6
namespace Go.Proofs.Ytifamhmiibhohaa.Log
open Go.RowKit Go.Proofs.Ytifamhmiibhohaa.Wire Go.Proofs.Ytifamhmiibhohaa.Lay
set_option maxHeartbeats 8000000
set_option maxRecDepth 100000
set_option linter.unusedVariables false
set_option linter.unusedSimpArgs false

theorem clone_any (A : Option Addr) (n c : Nat) (bs : List UInt8) (w : World) (hn : n ≤ 140737488351232) (hA : A = none → n = 0 ∧ c = 0) (hb : BytesAt w A n bs) :
    Calls Try.prog 25 #[.slice A n c] w fun e w' => ∃ v, e = .returned v ∧ Below w.heap.size w w' ∧ w'.ownsRow w.heap.size 5 1 v n (bvl bs) := by
  cases A with
  | none =>
    obtain ⟨rfl, rfl⟩ := hA rfl
    have e : bs = [] := List.eq_nil_of_length_eq_zero hb.len
    subst e
    clear hb hA
    have heq := fun w => Lib.run_eql_slice_nil (P := Try.prog) w 31 5 none 0 0 0 0 Try.underlying31
    go_enter Try.func25, Try.ntmps25
    go_wp2
    go_ret
    exact ⟨_, rfl, Below.refl _ _, World.ownsRow_nil _ _ _ _⟩
  | some a =>
    have heq := fun w => Lib.run_eql_slice_nil (P := Try.prog) w 31 5 (some a) n c 0 0 Try.underlying31
    have HB := Lib.hid (hb.alloc (.cells (bvl []).toArray 5))
    have HO := Lib.hid (lit_ownN w 5 1 (bvl []) 0 rfl (by unfold maxLen; omega))
    have HE := Lib.hid ((Below.refl w.heap.size w).alloc (Nat.le_refl _) (.cells (bvl []).toArray 5))
    clear hb
    go_enter Try.func25, Try.ntmps25
    go_wp2_with (first
      | (at_builtin
         refine app_u8 _ rfl (.tmp 5) (.tmp 6) rfl w.heap.size (.slice (some ⟨w.heap.size, 0, none⟩) 0 0) 0 (bvl []) rfl HO.out (some a) n c bs rfl (fun e => by cases e) HB.out (by omega) (by simp) ?_
         intro v1 w1 hown1 hg1
         have bel1 := Lib.hid (below_own HO.out HE.out (Nat.le_refl _) hg1)
         have own1 := Lib.hid hown1
         clear hown1 hg1)
      | fail)
    go_ret
    refine ⟨_, rfl, bel1.out, ?_⟩
    have := own1.out
    rw [Nat.zero_add, show bvl [] = [] from rfl, List.nil_append] at this
    exact this
end Go.Proofs.Ytifamhmiibhohaa.Log

namespace Go.Proofs.Ytifamhmiibhohaa.Log
open Go.RowKit Go.Proofs.Ytifamhmiibhohaa.Wire Go.Proofs.Ytifamhmiibhohaa.Lay
set_option linter.unusedVariables false
set_option linter.unusedSimpArgs false

abbrev Ent := Int × Bool
def ecells (es : List Ent) : List Value := es.flatMap fun e => [.int .i64 e.1, .bool e.2]
theorem ecells_length (es : List Ent) : (ecells es).length = es.length * 2 := by
  induction es with
  | nil => rfl
  | cons g gs ih => simp only [ecells, List.flatMap_cons, List.length_append, List.length_cons, List.length_nil] at ih ⊢; omega
theorem flat2_at {α β : Type} (f0 f1 : α → β) : ∀ (gs : List α) (k : Nat) (g : α), gs[k]? = some g →
    (gs.flatMap fun g => [f0 g, f1 g])[k * 2]? = some (f0 g) ∧ (gs.flatMap fun g => [f0 g, f1 g])[k * 2 + 1]? = some (f1 g)
  | [], k, g, h => by simp at h
  | x :: gs, 0, g, h => by simp at h; subst h; simp
  | x :: gs, k + 1, g, h => by
    have := flat2_at f0 f1 gs k g (by simpa using h)
    rw [show (k + 1) * 2 = k * 2 + 2 by omega]
    simpa [List.flatMap_cons] using this
theorem ecells_at {es : List Ent} {k : Nat} {e : Ent} (h : es[k]? = some e) : (ecells es)[k * 2]? = some (.int .i64 e.1) ∧ (ecells es)[k * 2 + 1]? = some (.bool e.2) :=
  flat2_at _ _ es k e h
theorem ecells_snoc (es : List Ent) (e : Ent) : ecells (es ++ [e]) = ecells es ++ [.int .i64 e.1, .bool e.2] := by simp [ecells]
theorem one_ecells (es : List Ent) : ∀ u ∈ ecells es, u.oneCell' = true := fun u hu => by
  simp only [ecells, List.mem_flatMap] at hu
  obtain ⟨g, _, hu⟩ := hu
  simp at hu
  rcases hu with rfl | rfl <;> rfl
/-- An entry's two cells. -/
def EntAt (w : World) (p : Addr) (e : Ent) : Prop := w.cell? p = some (.int .i64 e.1) ∧ w.cell? ⟨p.block, p.off + 1, none⟩ = some (.bool e.2)
theorem EntAt.below {w w' : World} {p : Addr} {e : Ent} {B : Nat} (h : EntAt w p e) (hb : Below B w w') (hlt : p.block < B) : EntAt w' p e :=
  ⟨(hb.cell hlt).trans h.1, (hb.cell (p := ⟨p.block, p.off + 1, none⟩) hlt).trans h.2⟩
theorem row_spotE {w : World} {a : Addr} {n : Nat} {vs : List Value} (h : RowAt w (some a) n vs) (hn : 0 < n) : a.spot = none := by
  obtain ⟨a', u, e, _, hc⟩ := h.at_ hn
  obtain rfl : a = a' := by simpa using e
  rw [show a.add 0 = a by unfold Addr.add; simp] at hc
  exact World.cell?_spot hc
theorem ent_cells {w : World} {A : Option Addr} {n : Nat} {es : List Ent} (h : RowAt w A (n * 2) (ecells es)) {k : Nat} {e : Ent} (he : es[k]? = some e) :
    ∃ a, A = some a ∧ a.block < w.heap.size ∧ (a.add (k * 2)).block < w.heap.size ∧ EntAt w (a.add (k * 2)) e := by
  obtain ⟨h0, h1⟩ := ecells_at he
  have hk : k < es.length := (List.getElem?_eq_some_iff.1 he).1
  have hl := h.len
  rw [ecells_length] at hl
  obtain ⟨a, rfl, hc⟩ := h.2 (by omega)
  have hs := row_spotE h (by omega)
  have e0 := hc _ _ h0
  have e1 := hc _ _ h1
  have hb := World.block_lt_of_cell? w _ e0
  refine ⟨a, rfl, by rwa [block_of_add] at hb, hb, e0, ?_⟩
  rw [add_spot hs] at e1 ⊢; exact e1

/-- May an entry not be? -/
def eWrong (k : Int) (e : Ent) : Bool := decide (e.1 < 0) || (decide (4096 ≤ e.1) || (e.2 && !(k == 1)))
/-- May a record be? -/
def head? (k s : Int) (n : Nat) : Bool := !(decide (most k < 0) || (decide (s < 1) || (decide (2147483647 < s) || (decide (most k < n) || decide ((n : Int) < min (most k) 1)))))
def tail? (k : Int) (sum : Nat) (st : Int) : Bool := !(!(sum == 0) && !(k == 2)) && (st == 0 || (k == 4 && (decide (0 < st) && decide (st < 512))))
def rMay (k s : Int) (es : List Ent) (sum : Nat) (st : Int) : Bool := head? k s es.length && (!(es.any (eWrong k)) && tail? k sum st)
/-- A record's numbers and widths. -/
def eL (k : Int) (e : Ent) : List Nat := e.1.toNat :: (if k = 1 then [if e.2 then 1 else 0] else [])
def eW (k : Int) : List Int := 4 :: (if k = 1 then [1] else [])
def esL (k : Int) (es : List Ent) : List Nat := es.flatMap (eL k)
def esW (k : Int) (n : Nat) : List Int := (List.replicate n (eW k)).flatten
def tL (k : Int) (sum : Nat) (st : Int) : List Nat := if k = 2 then [sum] else if k = 4 then [st.toNat] else []
def tW (k : Int) : List Int := if k = 2 then [4] else if k = 4 then [4] else []
def hL (k s : Int) (n : Nat) : List Nat := [1213813321, k.toNat, s.toNat, n]
def hW : List Int := [4, 1, 4, 2]
def rL (k s : Int) (es : List Ent) (sum : Nat) (st : Int) : List Nat := hL k s es.length ++ esL k es ++ tL k sum st
def rW (k : Int) (n : Nat) : List Int := hW ++ esW k n ++ tW k
def rS (s : Int) : BitVec 32 := BitVec.ofInt 32 s
def rB (k s : Int) (es : List Ent) (sum : Nat) (st : Int) : List UInt8 := if rMay k s es sum st = true then sealB (rS s) (packB (rL k s es sum st) (rW k es.length) 256) else []
def rE (k s : Int) (es : List Ent) (sum : Nat) (st : Int) : Int := if rMay k s es sum st = true then 0 else 22
end Go.Proofs.Ytifamhmiibhohaa.Log

namespace Go.Proofs.Ytifamhmiibhohaa.Log
open Go.RowKit Go.Proofs.Ytifamhmiibhohaa.Wire Go.Proofs.Ytifamhmiibhohaa.Lay
set_option maxHeartbeats 8000000
set_option maxRecDepth 100000
set_option linter.unusedVariables false
set_option linter.unusedSimpArgs false

theorem wrong_any (g : Nat) (k b : Int) (x : Bool) (w : World) (hk : w.cell? ⟨g, 0, none⟩ = some (.int .i64 k)) (hg : g < w.heap.size) :
    Calls Try.prog 43 #[.agg #[.int .i64 b, .bool x], .pointer (some ⟨g, 0, none⟩)] w fun e w' => e = .returned (.bool (eWrong k (b, x))) ∧ Below w.heap.size w w' := by
  have HB := Lib.hid ((Below.refl w.heap.size w).alloc (Nat.le_refl _) (.cells #[.int .i64 b, .bool x] 46))
  have HE := Lib.hid (show eWrong k (b, x) = (decide (b < 0) || (decide (4096 ≤ b) || (x && !(k == 1)))) from rfl)
  have hk1 : (w.alloc (.cells #[.int .i64 b, .bool x] 46)).cell? ⟨g, 0, none⟩ = some (.int .i64 k) := (((Below.refl w.heap.size w).alloc (Nat.le_refl _) _).cell hg).trans hk
  clear hk
  by_cases h1 : b < 0
  · have HV := Lib.hid (show eWrong k (b, x) = true by rw [HE.out]; simp [h1])
    clear HE
    go_enter Try.func43, Try.ntmps43
    go_wp2
    go_ret
    exact ⟨by rw [HV.out]; rfl, HB.out⟩
  by_cases h2 : 4096 ≤ b
  · have HV := Lib.hid (show eWrong k (b, x) = true by rw [HE.out]; simp [h2])
    clear HE
    go_enter Try.func43, Try.ntmps43
    go_wp2
    go_ret
    exact ⟨by rw [HV.out]; rfl, HB.out⟩
  cases x
  · have HV := Lib.hid (show eWrong k (b, false) = false by rw [HE.out]; simp [h1, h2])
    clear HE
    go_enter Try.func43, Try.ntmps43
    go_wp2
    go_ret
    exact ⟨by rw [HV.out]; rfl, HB.out⟩
  · have HV := Lib.hid (show eWrong k (b, true) = !(k == 1) by rw [HE.out]; simp [h1, h2])
    clear HE
    go_enter Try.func43, Try.ntmps43
    go_wp2
    go_ret
    exact ⟨by rw [HV.out]; rfl, HB.out⟩
theorem enter_wrong (caps : Array Value) (w : World) : (callFunc 43 caps).run Try.prog w = .ok (.enter 43 caps) w := by simp [go_sem]
theorem any_take_succ {es : List Ent} {p : Ent → Bool} {k : Nat} {e : Ent} (he : es[k]? = some e) (h : (es.take k).any p = false) (h2 : p e = false) : (es.take (k + 1)).any p = false := by
  rw [List.take_add_one, he, List.any_append, h]; simp [h2]
theorem any_at {es : List Ent} {p : Ent → Bool} {k : Nat} {e : Ent} (he : es[k]? = some e) (h2 : p e = true) : es.any p = true :=
  List.any_eq_true.2 ⟨e, List.mem_of_getElem? he, h2⟩
theorem index_any (g : Nat) (k : Int) (A : Option Addr) (n c : Nat) (es : List Ent) (w : World) (hn : n ≤ 9223372036854775807) (hr : RowAt w A (n * 2) (ecells es)) (hk : w.cell? ⟨g, 0, none⟩ = some (.int .i64 k)) (hg : g < w.heap.size) :
    Calls Try.prog 56 #[.slice A n c, .func (.func 43) #[] #[.pointer (some ⟨g, 0, none⟩)]] w fun e w' => ∃ z : Int, e = .returned (.int .i64 z) ∧ decide (0 ≤ z) = es.any (eWrong k) ∧ Below w.heap.size w w' := by
  have hcf := enter_wrong
  have hlen : es.length = n := by have := hr.len; rw [ecells_length] at this; omega
  have HR := Lib.hid hr
  have HL := Lib.hid hlen
  have HK := Lib.hid hk
  clear hr hlen hk
  go_enter Try.func56, Try.ntmps56
  go_wp2_with fail
  go_loopw [5, 8] (fun _ i wr => ∃ (j : Nat), j ≤ n ∧ i = .int .i64 j ∧ (es.take j).any (eWrong k) = false ∧ Below w.heap.size w wr) (fun _ i _ => n - (intOf i).toNat)
  case atStart => exact ⟨0, by omega, rfl, rfl, Below.refl _ _⟩
  case round =>
    obtain ⟨j, hj, rfl, hany, hbel⟩ := hrel
    have X1 := Lib.hid hany
    have X2 := Lib.hid hbel
    clear hany hbel
    by_cases hlt : j < n
    · obtain ⟨e, he⟩ : ∃ e, es[j]? = some e := ⟨_, List.getElem?_eq_getElem (by have := HL.out; omega)⟩
      obtain ⟨a, rfl, hab, hpb, hea⟩ := ent_cells HR.out he
      obtain ⟨b, x⟩ := e
      obtain ⟨f0, f1⟩ := hea.below X2.out hpb
      simp only at f0 f1
      have HE := Lib.hid he
      have HC := Lib.hid (wrong_any g k b x wr ((X2.out.cell (p := ⟨g, 0, none⟩) hg).trans HK.out) (Nat.lt_of_lt_of_le hg X2.out.size))
      clear he hea
      go_wp2_with fail
      refine HC.out.mono ?_
      rintro e w1 ⟨rfl, hb1⟩
      have B1 := Lib.hid (below_all X2.out X2.out.size hb1)
      clear hb1 HC
      cases hw : eWrong k (b, x)
      · have HW := Lib.hid hw
        clear hw
        go_wp2
        go_roundw
        case rel => exact ⟨j + 1, by omega, by go_num, any_take_succ HE.out X1.out HW.out, B1.out⟩
        case measure => simp [intOf]; omega
      · have HW := Lib.hid hw
        clear hw
        go_wp2
        go_ret
        exact ⟨_, rfl, by rw [any_at HE.out HW.out]; simp, B1.out⟩
    · obtain rfl : j = n := by omega
      have hfull := X1.out
      rw [List.take_of_length_le (by rw [HL.out]; exact Nat.le_refl _)] at hfull
      have HF := Lib.hid hfull
      clear hfull
      go_wp2
      go_ret
      exact ⟨_, rfl, by rw [HF.out]; rfl, X2.out⟩
theorem contains_any (g : Nat) (k : Int) (A : Option Addr) (n c : Nat) (es : List Ent) (w : World) (hn : n ≤ 9223372036854775807) (hr : RowAt w A (n * 2) (ecells es)) (hk : w.cell? ⟨g, 0, none⟩ = some (.int .i64 k)) (hg : g < w.heap.size) :
    Calls Try.prog 44 #[.slice A n c, .func (.func 43) #[] #[.pointer (some ⟨g, 0, none⟩)]] w fun e w' => e = .returned (.bool (es.any (eWrong k))) ∧ Below w.heap.size w w' := by
  have HC := Lib.hid (index_any g k A n c es w hn hr hk hg)
  clear hr hk
  go_enter Try.func44, Try.ntmps44
  go_wp2_with fail
  refine HC.out.mono ?_
  rintro e w1 ⟨z, rfl, hz, hb1⟩
  have HZ := Lib.hid hz
  have HB := Lib.hid hb1
  clear hz hb1
  go_wp2
  go_ret
  exact ⟨by rw [← HZ.out]; rfl, HB.out⟩
end Go.Proofs.Ytifamhmiibhohaa.Log

namespace Go.Proofs.Ytifamhmiibhohaa.Log
open Go.RowKit Go.Proofs.Ytifamhmiibhohaa.Wire Go.Proofs.Ytifamhmiibhohaa.Lay
set_option maxHeartbeats 8000000
set_option maxRecDepth 100000
set_option linter.unusedVariables false
set_option linter.unusedSimpArgs false

theorem boxed (w : World) (cs : Array Value) (t : TypeId) (W : World) (hW : w.alloc (.cells cs t) = W) : Blk W w.heap.size t cs ∧ Below w.heap.size w W ∧ W.heap.size = w.heap.size + 1 := by
  subst hW
  exact ⟨Blk.new w t cs, (Below.refl w.heap.size w).alloc (Nat.le_refl _) _, by simp⟩
theorem may_bad (k s : Int) (A : Option Addr) (n c sum : Nat) (st : Int) (w : World) (hn : n ≤ 9223372036854775807)
    (h : most k < 0 ∨ ¬ most k < 0 ∧ (s < 1 ∨ ¬ s < 1 ∧ (2147483647 < s ∨ ¬ (2147483647 < s) ∧ (most k < (n : Int) ∨ ¬ most k < (n : Int) ∧ (n : Int) < min (most k) 1)))) :
    Calls Try.prog 28 #[.agg #[.int .i64 k, .int .i64 s, .slice A n c, .int .u32 (sum : Int), .int .i64 st]] w fun e w' => e = .returned (.bool false) ∧ Below w.heap.size w w' := by
  have HM := Lib.hid (most_any k)
  generalize most k = m at *
  rcases h with h1 | ⟨h1, h2 | ⟨h2, h3 | ⟨h3, h4 | ⟨h4, h5⟩⟩⟩⟩
  all_goals
    have B1 := Lib.hid ((Below.refl w.heap.size w).alloc (Nat.le_refl _) (.cells #[.int .i64 k, .int .i64 s, .slice A n c, .int .u32 (sum : Int), .int .i64 st] 36))
    go_enter Try.func28, Try.ntmps28
    go_wp2_with fail
    refine (HM.out _).mono ?_
    rintro e w1 ⟨rfl, rfl⟩
    go_wp2
    go_ret
    exact ⟨rfl, B1.out⟩

theorem head_false {k s : Int} {n : Nat} (h : head? k s n = false) : most k < 0 ∨ ¬ most k < 0 ∧ (s < 1 ∨ ¬ s < 1 ∧ (2147483647 < s ∨ ¬ (2147483647 < s) ∧ (most k < (n : Int) ∨ ¬ most k < (n : Int) ∧ (n : Int) < min (most k) 1))) := by
  simp only [head?, Bool.not_eq_false', Bool.or_eq_true, decide_eq_true_eq] at h
  omega
theorem head_true {k s : Int} {n : Nat} (h : head? k s n = true) : ¬ most k < 0 ∧ ¬ s < 1 ∧ ¬ (2147483647 < s) ∧ ¬ (most k < (n : Int)) ∧ ¬ (n : Int) < min (most k) 1 := by
  simp only [head?, Bool.not_eq_true', Bool.or_eq_false_iff, decide_eq_false_iff_not] at h
  exact h
theorem may_any (k s : Int) (A : Option Addr) (n c sum : Nat) (st : Int) (es : List Ent) (w : World) (hn : n ≤ 9223372036854775807) (hr : RowAt w A (n * 2) (ecells es)) :
    Calls Try.prog 28 #[.agg #[.int .i64 k, .int .i64 s, .slice A n c, .int .u32 (sum : Int), .int .i64 st]] w fun e w' => e = .returned (.bool (rMay k s es sum st)) ∧ Below w.heap.size w w' := by
  have hlen : es.length = n := by have := hr.len; rw [ecells_length] at this; omega
  cases hh : head? k s n
  · have hm : rMay k s es sum st = false := by simp [rMay, hlen, hh]
    rw [hm]
    exact may_bad k s A n c sum st w hn (head_false hh)
  have hrm : rMay k s es sum st = (!(es.any (eWrong k)) && tail? k sum st) := by simp [rMay, hlen, hh]
  obtain ⟨h1, h2, h3, h4, h5⟩ := head_true hh
  have HM := Lib.hid (most_any k)
  generalize most k = m at *
  obtain ⟨W, hW⟩ : ∃ W, w.alloc (.cells #[.int .i64 k, .int .i64 s, .slice A n c, .int .u32 (sum : Int), .int .i64 st] 36) = W := ⟨_, rfl⟩
  obtain ⟨b0, hbel, hsz⟩ := boxed w _ _ W hW
  have HC := Lib.hid (contains_any w.heap.size k A n c es W hn (hr.below (hbel)) (b0.cell 0) b0.lt)
  have HR := Lib.hid hrm
  have HW := Lib.hid hW
  have HB0 := Lib.hid b0
  have HBE := Lib.hid hbel
  clear hrm hW hh hr hlen
  go_enter Try.func28, Try.ntmps28
  go_wp2_with fail
  rw [HW.out]
  refine (HM.out _).mono ?_
  rintro e w1 ⟨rfl, rfl⟩
  have f0 := b0.cell 0
  have f1 := b0.cell 1
  have f2 := b0.cell 2
  clear b0
  go_wp2_with fail
  refine HC.out.mono ?_
  rintro e w2 ⟨rfl, hb2⟩
  have f3 := (HB0.out.belowAll hb2).cell 3
  have g0 := (HB0.out.belowAll hb2).cell 0
  have f4 := (HB0.out.belowAll hb2).cell 4
  clear f0 f1 f2
  have B2 := Lib.hid (below_all HBE.out HBE.out.size hb2)
  clear hb2
  cases ha : es.any (eWrong k)
  rotate_left
  · rw [ha] at HR
    go_wp2
    go_ret
    exact ⟨by rw [HR.out]; rfl, B2.out⟩
  rw [ha] at HR
  clear ha HM
  have HT := Lib.hid (show rMay k s es sum st = (!(!(sum == 0) && !(k == 2)) && (st == 0 || (k == 4 && (decide (0 < st) && decide (st < 512))))) from HR.out)
  clear HR
  have fin : ∀ (b : Bool), rMay k s es sum st = b → Ending.returned (.bool b) = .returned (.bool (rMay k s es sum st)) := fun b h => by rw [h]
  have HF := Lib.hid fin
  clear fin
  by_cases hs : sum = 0
  · subst hs
    by_cases hst : st = 0
    · subst hst
      have HV := Lib.hid (HF.out true (by rw [HT.out]; simp))
      clear HT HF
      go_wp2
      go_ret
      exact ⟨HV.out, B2.out⟩
    have hst' : (st == 0) = false := by simpa using hst
    by_cases hk : k = 4
    · subst hk
      by_cases hp : 0 < st
      · have HV := Lib.hid (HF.out (decide (st < 512)) (by rw [HT.out]; simp [hst', hp]))
        clear HT HF hst
        go_wp2
        go_ret
        exact ⟨HV.out, B2.out⟩
      · have HV := Lib.hid (HF.out false (by rw [HT.out]; simp [hst', hp]))
        clear HT HF hst
        go_wp2
        go_ret
        exact ⟨HV.out, B2.out⟩
    · have hk' : (k == 4) = false := by simpa using hk
      have HV := Lib.hid (HF.out false (by rw [HT.out]; simp [hst', hk']))
      clear HT HF hst hk
      go_wp2
      go_ret
      exact ⟨HV.out, B2.out⟩
  · have hs' : ((sum : Int) != 0) = true := by simp; omega
    have hs2 : (sum == 0) = false := by simpa using hs
    by_cases hk : k = 2
    · subst hk
      by_cases hst : st = 0
      · subst hst
        have HV := Lib.hid (HF.out true (by rw [HT.out]; simp))
        clear HT HF hs hs2
        go_wp2
        go_ret
        exact ⟨HV.out, B2.out⟩
      have hst' : (st == 0) = false := by simpa using hst
      have HV := Lib.hid (HF.out false (by rw [HT.out]; simp [hst']))
      clear HT HF hs hs2 hst
      go_wp2
      go_ret
      exact ⟨HV.out, B2.out⟩
    · have hk' : (k == 2) = false := by simpa using hk
      have hk2 : (k != 2) = true := by simpa using hk
      have HV := Lib.hid (HF.out false (by rw [HT.out]; simp [hs2, hk']))
      clear HT HF hs hs2 hk hk'
      go_wp2
      go_ret
      exact ⟨HV.out, B2.out⟩
end Go.Proofs.Ytifamhmiibhohaa.Log

namespace Go.Proofs.Ytifamhmiibhohaa.Log
open Go.RowKit Go.Proofs.Ytifamhmiibhohaa.Wire Go.Proofs.Ytifamhmiibhohaa.Lay
set_option linter.unusedVariables false
set_option linter.unusedSimpArgs false

def stride (k : Int) : Int := if k = 1 then 5 else 4
theorem esW_succ (k : Int) (n : Nat) : esW k (n + 1) = esW k n ++ eW k := by
  simp [esW, List.replicate_succ']
theorem esW_add (k : Int) (a b : Nat) : esW k (a + b) = esW k a ++ esW k b := by
  simp [esW, ← List.replicate_append_replicate]
theorem esL_append (k : Int) (a b : List Ent) : esL k (a ++ b) = esL k a ++ esL k b := by simp [esL]
theorem esL_one (k : Int) (e : Ent) : esL k [e] = eL k e := by simp [esL]
theorem esW_one (k : Int) : esW k 1 = eW k := by simp [esW]
theorem eL_length (k : Int) (e : Ent) : (eL k e).length = (eW k).length := by unfold eL eW; split <;> rfl
theorem esL_length (k : Int) (es : List Ent) : (esL k es).length = (esW k es.length).length := by
  induction es with
  | nil => rfl
  | cons e es ih =>
    rw [show e :: es = [e] ++ es from rfl, esL_append, esL_one, List.length_append, eL_length, ih, List.length_append, List.length_singleton, esW_add, List.length_append, esW_one]
theorem eW_sum (k : Int) : (eW k).sum = stride k := by unfold eW stride; split <;> rfl
theorem esW_sum (k : Int) (n : Nat) : (esW k n).sum = stride k * n := by
  induction n with
  | zero => simp [esW]
  | succ n ih => rw [esW_succ, List.sum_append, ih, eW_sum]; push_cast; rw [Int.mul_add]; omega
theorem wok_append (a b : List Int) : wok (a ++ b) = (wok a && wok b) := by simp [wok]
theorem esW_wok (k : Int) (n : Nat) : wok (esW k n) = true := by
  induction n with
  | zero => rfl
  | succ n ih => rw [esW_succ, wok_append, ih]; unfold eW; split <;> rfl
theorem tW_wok (k : Int) : wok (tW k) = true := by unfold tW; split; rfl; split <;> rfl
theorem tL_length (k : Int) (sum : Nat) (st : Int) : (tL k sum st).length = (tW k).length := by unfold tL tW; split; rfl; split <;> rfl
theorem rW_wok (k : Int) (n : Nat) : wok (rW k n) = true := by
  rw [rW, wok_append, wok_append, esW_wok, tW_wok]; rfl
theorem rL_length (k s : Int) (es : List Ent) (sum : Nat) (st : Int) : (rL k s es sum st).length = (rW k es.length).length := by
  simp only [rL, rW, List.length_append, esL_length, tL_length]; rfl
theorem tW_sum (k : Int) : (tW k).sum = if k = 2 then 4 else if k = 4 then 4 else 0 := by unfold tW; split; rfl; split <;> rfl
theorem rW_sum (k : Int) (n : Nat) : (rW k n).sum = 11 + stride k * n + (tW k).sum := by
  rw [rW, List.sum_append, List.sum_append, esW_sum]; rfl

theorem most_cases (k : Int) : k = 1 ∧ most k = 48 ∨ k = 3 ∧ most k = 60 ∨ k = 2 ∧ most k = 0 ∨ k = 4 ∧ most k = 0 ∨ most k = -1 := by
  unfold most; split; omega; split; omega; split; omega; split; omega; simp
/-- What a record that may be is. -/
structure RGood (k s : Int) (es : List Ent) (sum : Nat) (st : Int) : Prop where
  kind : k = 1 ∧ 1 ≤ es.length ∧ es.length ≤ 48 ∨ k = 3 ∧ 1 ≤ es.length ∧ es.length ≤ 60 ∨ k = 2 ∧ es = [] ∨ k = 4 ∧ es = []
  seq : 1 ≤ s ∧ s ≤ 2147483647
  ents : ∀ e ∈ es, 0 ≤ e.1 ∧ e.1 < 4096 ∧ (e.2 = true → k = 1)
  sum0 : sum = 0 ∨ k = 2
  start : st = 0 ∨ k = 4 ∧ 0 < st ∧ st < 512
theorem rGood {k s : Int} {es : List Ent} {sum : Nat} {st : Int} (h : rMay k s es sum st = true) : RGood k s es sum st := by
  simp only [rMay, head?, tail?, Bool.and_eq_true, Bool.not_eq_true', Bool.or_eq_false_iff, decide_eq_false_iff_not, Bool.or_eq_true, Bool.and_eq_false_iff, beq_iff_eq, decide_eq_true_eq, Bool.not_eq_false'] at h
  obtain ⟨⟨h1, h2, h3, h4, h5⟩, h6, h7, h8⟩ := h
  refine ⟨?_, by omega, fun e he => ?_, h7, h8⟩
  · rcases most_cases k with ⟨hk, hm⟩ | ⟨hk, hm⟩ | ⟨hk, hm⟩ | ⟨hk, hm⟩ | hm
    · left; omega
    · right; left; omega
    · right; right; left; exact ⟨hk, List.eq_nil_of_length_eq_zero (by omega)⟩
    · right; right; right; exact ⟨hk, List.eq_nil_of_length_eq_zero (by omega)⟩
    · omega
  · have := List.any_eq_false.1 h6 e he
    simp only [eWrong, Bool.or_eq_true, decide_eq_true_eq, Bool.and_eq_true, Bool.not_eq_true', beq_eq_false_iff_ne, not_or, not_and] at this
    exact ⟨by omega, by omega, fun he => by have := this.2.2 he; omega⟩
theorem RGood.room {k s : Int} {es : List Ent} {sum : Nat} {st : Int} (h : RGood k s es sum st) : (rW k es.length).sum ≤ 252 := by
  rw [rW_sum, tW_sum, stride]
  rcases h.kind with ⟨rfl, h1, h2⟩ | ⟨rfl, h1, h2⟩ | ⟨rfl, rfl⟩ | ⟨rfl, rfl⟩
  · simp; omega
  · simp; omega
  · simp
  · simp
theorem zip_app {P : Nat × Int → Prop} {a b : List Nat} {c d : List Int} (hl : a.length = c.length) (h1 : ∀ p ∈ a.zip c, P p) (h2 : ∀ p ∈ b.zip d, P p) : ∀ p ∈ (a ++ b).zip (c ++ d), P p := by
  rw [List.zip_append hl]
  intro p hp
  rcases List.mem_append.1 hp with hp | hp
  · exact h1 p hp
  · exact h2 p hp
theorem esL_zip {k : Int} : ∀ {es : List Ent} (h : ∀ e ∈ es, 0 ≤ e.1 ∧ e.1 < 4096), ∀ p ∈ (esL k es).zip (esW k es.length), p.1 < 256 ^ p.2.toNat
  | [], _ => by simp [esL]
  | e :: es, h => by
    rw [show e :: es = [e] ++ es from rfl, esL_append, esL_one, List.length_append, List.length_singleton, esW_add, esW_one]
    refine zip_app (eL_length k e) ?_ (esL_zip fun e he => h e (by simp [he]))
    have := h e (by simp)
    intro p hp
    unfold eL eW at hp
    split at hp
    · simp at hp
      rcases hp with rfl | rfl
      · show e.1.toNat < 256 ^ 4; omega
      · show (if e.2 = true then 1 else 0) < 256 ^ 1; split <;> omega
    · simp at hp
      rcases hp with rfl
      show e.1.toNat < 256 ^ 4; omega
theorem RGood.zip {k s : Int} {es : List Ent} {sum : Nat} {st : Int} (h : RGood k s es sum st) (hs : sum < 4294967296) : ∀ p ∈ (rL k s es sum st).zip (rW k es.length), p.1 < 256 ^ p.2.toNat := by
  obtain ⟨s1, s2⟩ := h.seq
  refine zip_app (by simp only [List.length_append, esL_length]; rfl) (zip_app rfl ?_ (esL_zip fun e he => ⟨(h.ents e he).1, (h.ents e he).2.1⟩)) ?_
  · intro p hp
    simp [hL, hW] at hp
    have hn : es.length < 256 := by rcases h.kind with ⟨rfl, h1, h2⟩ | ⟨rfl, h1, h2⟩ | ⟨rfl, rfl⟩ | ⟨rfl, rfl⟩ <;> (first | omega | simp)
    have hk : k.toNat < 256 := by rcases h.kind with ⟨rfl, _⟩ | ⟨rfl, _⟩ | ⟨rfl, rfl⟩ | ⟨rfl, rfl⟩ <;> simp
    rcases hp with rfl | rfl | rfl | rfl
    · show 1213813321 < 256 ^ 4; omega
    · show k.toNat < 256 ^ 1; omega
    · show s.toNat < 256 ^ 4; omega
    · show es.length < 256 ^ 2; omega
  · intro p hp
    unfold tL tW at hp
    split at hp
    · simp at hp; subst hp; show sum < 256 ^ 4; omega
    · split at hp
      · simp at hp; subst hp; show st.toNat < 256 ^ 4
        have := h.start; omega
      · simp at hp
theorem RGood.pmay {k s : Int} {es : List Ent} {sum : Nat} {st : Int} (h : RGood k s es sum st) : pmay (rL k s es sum st) (rW k es.length) 256 = true := by
  have := h.room
  simp [Wire.pmay, rL_length, rW_wok]; omega
/-- What was packed: its length, its seal, what it begins with. -/
theorem RGood.packed {k s : Int} {es : List Ent} {sum : Nat} {st : Int} (h : RGood k s es sum st) (hs : sum < 4294967296) :
    ∃ t, rS s = rS s ∧ sealB (rS s) (packB (rL k s es sum st) (rW k es.length) 256) = pre (rL k s es sum st) (rW k es.length) (rL k s es sum st).length ++ t ∧
      sealedB (rS s) (sealB (rS s) (packB (rL k s es sum st) (rW k es.length) 256)) = true ∧ (sealB (rS s) (packB (rL k s es sum st) (rW k es.length) 256)).length = 256 := by
  obtain ⟨t, h1, h2, h3⟩ := sealed_pre (rS s) h.pmay (h.zip hs) h.room
  exact ⟨t, rfl, h1, h2, h3⟩
theorem RGood.full {k s : Int} {es : List Ent} {sum : Nat} {st : Int} (h : RGood k s es sum st) (hs : sum < 4294967296) :
    (packB (rL k s es sum st) (rW k es.length) 256).length = 256 ∧ packE (rL k s es sum st) (rW k es.length) 256 = 0 := by
  obtain ⟨h1, _, h3⟩ := packB_full h.pmay (h.zip hs) (by omega)
  exact ⟨h3, h1⟩
theorem fits64 {l : List Nat} {ws : List Int} (hl : l.length = ws.length) (hw : wok ws = true) (hz : ∀ p ∈ l.zip ws, p.1 < 256 ^ p.2.toNat) : ∀ x ∈ l, x < 18446744073709551616 := fun x hx => by
  obtain ⟨i, hi⟩ := List.getElem?_of_mem hx
  have hlt := (List.getElem?_eq_some_iff.1 hi).1
  obtain ⟨z, hzz⟩ : ∃ z, ws[i]? = some z := ⟨_, List.getElem?_eq_getElem (by omega)⟩
  have h1 := zip_fits hz i x z hi hzz
  have h2 := wok_at hw hzz
  have h3 : 256 ^ z.toNat ≤ 256 ^ 8 := Nat.pow_le_pow_right (by omega) (by omega)
  omega
theorem rB_len {k s : Int} {es : List Ent} {sum : Nat} {st : Int} (h : rMay k s es sum st = true) (hs : sum < 4294967296) : (rB k s es sum st).length = 256 := by
  rw [rB, if_pos h, sealB_length]
  exact ((rGood h).full hs).1
end Go.Proofs.Ytifamhmiibhohaa.Log

namespace Go.Proofs.Ytifamhmiibhohaa.Log
open Go.RowKit Go.Proofs.Ytifamhmiibhohaa.Wire Go.Proofs.Ytifamhmiibhohaa.Lay
set_option maxHeartbeats 8000000
set_option maxRecDepth 100000
set_option linter.unusedVariables false
set_option linter.unusedSimpArgs false

theorem logPack_no (k s : Int) (A : Option Addr) (n c sum : Nat) (st : Int) (es : List Ent) (w : World) (hn : n ≤ 9223372036854775807) (hr : RowAt w A (n * 2) (ecells es)) (hm : rMay k s es sum st = false) :
    Calls Try.prog 14 #[.agg #[.int .i64 k, .int .i64 s, .slice A n c, .int .u32 (sum : Int), .int .i64 st]] w fun e w' => e = .returned (.tuple #[.slice none 0 0, .int .i64 22]) ∧ Below w.heap.size w w' := by
  obtain ⟨W, hW⟩ : ∃ W, w.alloc (.cells #[.int .i64 k, .int .i64 s, .slice A n c, .int .u32 (sum : Int), .int .i64 st] 36) = W := ⟨_, rfl⟩
  obtain ⟨b0, hbel, hsz⟩ := boxed w _ _ W hW
  have HM := Lib.hid (may_any k s A n c sum st es W hn (hr.below hbel))
  rw [hm] at HM
  have HW := Lib.hid hW
  have HBE := Lib.hid hbel
  have f0 := b0.cell 0
  have f1 := b0.cell 1
  have f2 := b0.cell 2
  have f3 := b0.cell 3
  have f4 := b0.cell 4
  clear hW hm hr hbel b0
  go_enter Try.func14, Try.ntmps14
  go_wp2_with fail
  rw [HW.out]
  go_wp2_with fail
  refine HM.out.mono ?_
  rintro e w1 ⟨rfl, hb1⟩
  go_wp2_with fail
  go_ret2
  exact ⟨rfl, below_all HBE.out HBE.out.size hb1⟩

theorem add_int (B g : Nat) (x z : Int) (l : List Nat) (ws : List Int) (w : World) (hB : B ≤ w.heap.size) (hf : FieldsAt B w g l ws) (h0 : 0 ≤ x) (hx : x ≤ 9223372036854775807) (hl : l.length ≤ 100000) (hw : ws.length ≤ 100000) :
    Calls Try.prog 29 #[.pointer (some ⟨g, 0, none⟩), .int .i64 x, .int .i64 z] w fun e w' => e = .returned (.tuple #[]) ∧ FieldsAt B w' g (l ++ [x.toNat]) (ws ++ [z]) ∧ Below B w w' ∧ Keeps w w' := by
  obtain ⟨n, rfl⟩ := Int.eq_ofNat_of_zero_le h0
  exact add_any B g n z l ws w hB hf (by omega) hl hw
theorem FieldsAt.fresh (w : World) : FieldsAt w.heap.size (w.alloc (.cells #[.slice none 0 0, .slice none 0 0] 70)) w.heap.size [] [] :=
  ⟨_, _, Nat.le_refl _, Blk.new w _ _, World.ownsRow_nil _ _ _ _, World.ownsRow_nil _ _ _ _⟩
theorem FieldsAt.below_ {B g : Nat} {l : List Nat} {ws : List Int} {w w' : World} (h : FieldsAt B w g l ws) (hb : Below w.heap.size w w') : FieldsAt B w' g l ws := by
  obtain ⟨vl, vw, h1, h2, h3, h4⟩ := h
  exact ⟨vl, vw, h1, h2.belowAll hb, own_belowN h3 hb, own_belowN h4 hb⟩
theorem esW_len (k : Int) (n : Nat) : (esW k n).length ≤ 2 * n := by
  induction n with
  | zero => simp [esW]
  | succ n ih =>
    rw [esW_succ, List.length_append]
    have : (eW k).length ≤ 2 := by unfold eW; split <;> simp
    omega
theorem logPack_in (k s : Int) (A : Option Addr) (n c sum : Nat) (st : Int) (es : List Ent) (w : World) (hn : n ≤ 9223372036854775807) (hsum : sum < 4294967296) (hr : RowAt w A (n * 2) (ecells es)) (hm : rMay k s es sum st = true) :
    Calls Try.prog 14 #[.agg #[.int .i64 k, .int .i64 s, .slice A n c, .int .u32 (sum : Int), .int .i64 st]] w fun e w' => ∃ v, e = .returned (.tuple #[v, .int .i64 0]) ∧ Below w.heap.size w w' ∧ w'.ownsRow w.heap.size 5 1 v (rB k s es sum st).length (bvl (rB k s es sum st)) := by
  have hlen : es.length = n := by have := hr.len; rw [ecells_length] at this; omega
  obtain ⟨W, hW⟩ : ∃ W, w.alloc (.cells #[.int .i64 k, .int .i64 s, .slice A n c, .int .u32 (sum : Int), .int .i64 st] 36) = W := ⟨_, rfl⟩
  obtain ⟨b0, hbel, hsz⟩ := boxed w _ _ W hW
  have HM := Lib.hid (may_any k s A n c sum st es W hn (hr.below hbel))
  rw [hm] at HM
  have HRB := Lib.hid (show rB k s es sum st = sealB (rS s) (packB (rL k s es sum st) (rW k n) 256) by rw [rB, if_pos hm, hlen])
  have hg := rGood hm
  have HSUM := Lib.hid hsum
  have HF := Lib.hid (hg.full hsum)
  have HLEN := Lib.hid hlen
  have H64 := Lib.hid (fits64 (l := rL k s es sum st) (ws := rW k n) (by rw [rL_length, hlen]) (rW_wok k n) (by have := hg.zip hsum; rwa [hlen] at this))
  have HR := Lib.hid (hr.below hbel)
  have HE := Lib.hid hg.ents
  obtain ⟨s1, s2⟩ := hg.seq
  have hk4 : 1 ≤ k ∧ k ≤ 4 := by rcases hg.kind with ⟨rfl, _⟩ | ⟨rfl, _⟩ | ⟨rfl, _⟩ | ⟨rfl, _⟩ <;> omega
  have hn60 : n ≤ 60 := by
    rcases hg.kind with ⟨rfl, h1, h2⟩ | ⟨rfl, h1, h2⟩ | ⟨rfl, h1⟩ | ⟨rfl, h1⟩
    · omega
    · omega
    · rw [← hlen, h1]; simp
    · rw [← hlen, h1]; simp
  have HLW := Lib.hid (show (rW k n).length ≤ 1000 by
    have h1 := esW_len k n
    have h2 : (tW k).length ≤ 1 := by unfold tW; split; exact Nat.le_refl _; split; exact Nat.le_refl _; exact Nat.zero_le _
    have h3 : (Log.hW).length = 4 := rfl
    rw [rW, List.length_append, List.length_append, h3]
    omega)
  have HST := Lib.hid hg.start
  have HW := Lib.hid hW
  have HBE := Lib.hid hbel
  have f0 := b0.cell 0
  have f1 := b0.cell 1
  have f2 := b0.cell 2
  have f3 := b0.cell 3
  have f4 := b0.cell 4
  have HB0 := Lib.hid b0
  clear hW hm hr hbel b0 hg hlen hsum
  go_enter Try.func14, Try.ntmps14
  go_wp2_with fail
  rw [HW.out]
  go_wp2_with fail
  refine HM.out.mono ?_
  rintro e w1 ⟨rfl, hb1⟩
  clear f0 f1 f2 f3 f4 HM
  have hk1 := HB0.out.belowAll hb1
  have hlt1 : w.heap.size < w1.heap.size := Nat.lt_of_lt_of_le HB0.out.lt hb1.size
  have hcells : ∀ w', Below w1.heap.size w1 w' → Blk w' w.heap.size 36 #[.int .i64 k, .int .i64 s, .slice A n c, .int .u32 (sum : Int), .int .i64 st] := fun w' h => hk1.below h hlt1
  have CE := Lib.hid hcells
  have HR1 := Lib.hid (HR.out.below hb1)
  have B1 := Lib.hid (below_all HBE.out HBE.out.size hb1)
  clear hcells hk1 HR hb1
  have F2 := Lib.hid (FieldsAt.fresh w1)
  have B2 := Lib.hid ((Below.refl w1.heap.size w1).alloc (Nat.le_refl _) (.cells #[.slice none 0 0, .slice none 0 0] 70))
  go_wp2_with fail
  refine (add_int w1.heap.size w1.heap.size 1213813321 4 [] [] _ B2.out.size F2.out (by omega) (by omega) (by simp) (by simp)).mono ?_
  rintro e w3 ⟨rfl, h3, b3, q3⟩
  have F3 := Lib.hid h3
  have B3 := Lib.hid (B2.out.trans b3)
  have f0 := (CE.out _ B3.out).cell 0
  clear h3 b3 F2 B2
  go_wp2_with fail
  refine (add_int w1.heap.size w1.heap.size k 1 _ _ _ B3.out.size F3.out (by omega) (by omega) (by simp) (by simp)).mono ?_
  rintro e w4 ⟨rfl, h4, b4, q4⟩
  have F4 := Lib.hid h4
  have B4 := Lib.hid (B3.out.trans b4)
  have f1 := (CE.out _ B4.out).cell 1
  clear h4 b4 F3 B3 f0
  go_wp2_with fail
  refine (add_int w1.heap.size w1.heap.size s 4 _ _ _ B4.out.size F4.out (by omega) (by omega) (by simp) (by simp)).mono ?_
  rintro e w5 ⟨rfl, h5, b5, q5⟩
  have F5 := Lib.hid h5
  have B5 := Lib.hid (B4.out.trans b5)
  have f2 := (CE.out _ B5.out).cell 2
  clear h5 b5 F4 B4 f1
  go_wp2_with fail
  refine (add_int w1.heap.size w1.heap.size n 2 _ _ _ B5.out.size F5.out (by omega) (by omega) (by simp) (by simp)).mono ?_
  rintro e w6 ⟨rfl, h6, b6, q6⟩
  have B6 := Lib.hid (B5.out.trans b6)
  have f2' := (CE.out _ B6.out).cell 2
  have F6 := Lib.hid (show FieldsAt w1.heap.size w6 w1.heap.size (hL k s n) hW from h6)
  clear h6 b6 F5 B5 f2
  go_wp2_with fail
  go_loopw [6, 32] (fun _ i wr => ∃ (j : Nat), j ≤ n ∧ i = .int .i64 j ∧ FieldsAt w1.heap.size wr w1.heap.size (hL k s n ++ esL k (es.take j)) (hW ++ esW k j) ∧ Below w1.heap.size w1 wr) (fun _ i _ => n - (intOf i).toNat)
  case atStart => exact ⟨0, by omega, rfl, by simpa [esL, esW] using F6.out, B6.out⟩
  case round =>
    obtain ⟨j, hj, rfl, hf, hbel⟩ := hrel
    have X1 := Lib.hid hf
    have X2 := Lib.hid hbel
    clear hf hbel
    have hsz6 := X2.out.size
    have ll : (hL k s n ++ esL k (es.take j)).length ≤ 1000 ∧ (hW ++ esW k j).length ≤ 1000 := by
      have h1 := esL_length k (es.take j)
      have h2 := esW_len k (es.take j).length
      have h3 := esW_len k j
      rw [List.length_append, List.length_append, h1, List.length_take]
      rw [List.length_take] at h2
      simp only [hL, hW, List.length_cons, List.length_nil]
      omega
    obtain ⟨ll1, ll2⟩ := ll
    by_cases hlt : j < n
    · obtain ⟨e, he⟩ : ∃ e, es[j]? = some e := ⟨_, List.getElem?_eq_getElem (by have := HLEN.out; omega)⟩
      obtain ⟨a, rfl, hab, hpb, hea⟩ := ent_cells HR1.out he
      obtain ⟨e0, e1, e2⟩ := HE.out e (List.mem_of_getElem? he)
      have htk : es.take (j + 1) = es.take j ++ [e] := by rw [List.take_add_one, he]; rfl
      have HTK := Lib.hid htk
      obtain ⟨b, x⟩ := e
      obtain ⟨g0, g1⟩ := hea.below X2.out hpb
      simp only at g0 g1 e0 e1 e2
      have E2 := Lib.hid e2
      have X3 := Lib.hid (X1.out.below_ ((Below.refl wr.heap.size wr).alloc (Nat.le_refl _) (.cells #[.int .i64 b, .bool x] 46)))
      have X4 := Lib.hid (X2.out.alloc hsz6 (.cells #[.int .i64 b, .bool x] 46))
      have X5 := Lib.hid (Blk.new wr 46 #[.int .i64 b, .bool x])
      clear hea he htk e2
      go_wp2_with fail
      refine (add_int w1.heap.size w1.heap.size b 4 _ _ _ X4.out.size X3.out (by omega) (by omega) (by omega) (by omega)).mono ?_
      rintro e w7 ⟨rfl, h7, b7, q7⟩
      have B7 := Lib.hid (X4.out.trans b7)
      have f0 := (CE.out _ B7.out).cell 0
      have F7 := Lib.hid h7
      have g2 := (q7 _ _ _ X5.out (by decide) (by decide) (by decide)).cell 1
      clear h7 b7 q7 g0 g1
      have fin : ∀ (wz : World) (l : List Nat) (ws : List Int), l = eL k (b, x) → ws = eW k → FieldsAt w1.heap.size wz w1.heap.size ((hL k s n ++ esL k (es.take j)) ++ l) ((hW ++ esW k j) ++ ws) → FieldsAt w1.heap.size wz w1.heap.size (hL k s n ++ esL k (es.take (j + 1))) (hW ++ esW k (j + 1)) := fun wz l ws h1 h2 h => by
        subst h1 h2
        rw [HTK.out, esL_append, esL_one, esW_succ, ← List.append_assoc, ← List.append_assoc]; exact h
      have FIN := Lib.hid fin
      clear fin
      by_cases hk : k = 1
      · subst hk
        have ll3 : (hL 1 s n ++ esL 1 (es.take j) ++ [b.toNat]).length ≤ 2000 := by rw [List.length_append]; simp only [List.length_singleton]; omega
        have ll4 : (hW ++ esW 1 j ++ [4]).length ≤ 2000 := by rw [List.length_append]; simp only [List.length_singleton]; omega
        cases x
        · go_wp2_with fail
          refine (add_int w1.heap.size w1.heap.size 0 1 _ _ _ B7.out.size F7.out (by omega) (by omega) (by omega) (by omega)).mono ?_
          rintro e w8 ⟨rfl, h8, b8, q8⟩
          have B8 := Lib.hid (B7.out.trans b8)
          have F8 := Lib.hid h8
          clear h8 b8 q8
          go_wp2
          go_roundw
          case rel => exact ⟨j + 1, by omega, by go_num, FIN.out _ _ _ rfl rfl (by have := F8.out; rw [List.append_assoc _ [b.toNat], List.append_assoc _ [4]] at this; exact this), B8.out⟩
          case measure => simp [intOf]; omega
        · go_wp2_with fail
          refine (add_int w1.heap.size w1.heap.size 1 1 _ _ _ B7.out.size F7.out (by omega) (by omega) (by omega) (by omega)).mono ?_
          rintro e w8 ⟨rfl, h8, b8, q8⟩
          have B8 := Lib.hid (B7.out.trans b8)
          have F8 := Lib.hid h8
          clear h8 b8 q8
          go_wp2
          go_roundw
          case rel => exact ⟨j + 1, by omega, by go_num, FIN.out _ _ _ rfl rfl (by have := F8.out; rw [List.append_assoc _ [b.toNat], List.append_assoc _ [4]] at this; exact this), B8.out⟩
          case measure => simp [intOf]; omega
      · have hk' : (k != 1) = true := by simpa using hk
        have HK := Lib.hid hk
        clear hk
        go_wp2
        go_roundw
        case rel => exact ⟨j + 1, by omega, by go_num, FIN.out _ _ _ (by simp [eL, HK.out]) (by simp [eW, HK.out]) F7.out, B7.out⟩
        case measure => simp [intOf]; omega
    · obtain rfl : j = n := by omega
      have htk : es.take j = es := List.take_of_length_le (by rw [HLEN.out]; exact Nat.le_refl _)
      have hx := X1.out
      rw [htk] at hx ll1
      have X3 := Lib.hid hx
      have f0 := (CE.out _ X2.out).cell 0
      have f3 := (CE.out _ X2.out).cell 3
      have f4 := (CE.out _ X2.out).cell 4
      clear htk hx X1
      have hz0 := X2.out.size
      have wsd : IntKind.u32.wrap s = ((rS s).toNat : Int) := by
        rw [rS, BitVec.toNat_ofInt, IntKind.wrap_u32]; omega
      have wsm : IntKind.i64.wrap (sum : Int) = (sum : Int) := by rw [IntKind.wrap_i64]; have := HSUM.out; omega
      have kcs : k = 2 ∨ k = 4 ∨ (k == 2) = false ∧ (k == 4) = false := by
        by_cases h2 : k = 2
        · exact .inl h2
        · by_cases h4 : k = 4
          · exact .inr (.inl h4)
          · exact .inr (.inr ⟨by simpa using h2, by simpa using h4⟩)
      rcases kcs with rfl | rfl | ⟨k2, k4⟩
      · go_wp2_with fail
        refine (add_int w1.heap.size w1.heap.size sum 4 _ _ _ hz0 X3.out (by omega) (by have := HSUM.out; omega) (by omega) (by omega)).mono ?_
        rintro e wz ⟨rfl, h8, b8, q8⟩
        have BZ := Lib.hid (X2.out.trans b8)
        have e1 : rL 2 s es sum st = hL 2 s j ++ esL 2 es ++ [sum] := by rw [rL, HLEN.out]; rfl
        have e2 : rW 2 j = hW ++ esW 2 j ++ [4] := rfl
        have FZ := Lib.hid (show FieldsAt w1.heap.size wz w1.heap.size (rL 2 s es sum st) (rW 2 j) by rw [e1, e2]; exact h8)
        clear h8 b8 q8 X2 X3 f0 f3 f4 e1 e2 wsm hz0
        go_wp2_with fail
        obtain ⟨vl, vw, hgB, hblk, hol, how⟩ := FZ.out
        obtain ⟨A0, c0, rfl, hr0, _, hc0, _, _⟩ := own_nums hol
        obtain ⟨A1, c1, rfl, hr1, _, hc1, _, _⟩ := own_ints how
        have d0 : wz.cell? ⟨w1.heap.size, 0, none⟩ = some _ := hblk.cell 0
        have d1 : wz.cell? ⟨w1.heap.size, 1, none⟩ = some _ := hblk.cell 1
        have HP := Lib.hid (pack_any A0 A1 _ c0 _ c1 (rL 2 s es sum st) (rW 2 j) 256 wz.drew (by have := HLW.out; omega) H64.out hr0 hr1)
        generalize (rL 2 s es sum st).length = n0 at HP d0 d1
        generalize (rW 2 j).length = n1 at HP d0 d1
        obtain ⟨hf1, hf2⟩ := HF.out
        obtain ⟨pb, hpb⟩ : ∃ pb, packB (rL 2 s es sum st) (rW 2 j) 256 = pb := ⟨_, rfl⟩
        rw [HLEN.out, hpb] at hf1
        rw [HLEN.out] at hf2
        rw [hf2, hpb, hf1] at HP
        have HPB := Lib.hid hpb
        have HPL := Lib.hid hf1
        clear hf1 hf2 hpb hgB hblk hol how hr0 hr1 hc0 hc1 HF H64 FZ
        refine region_mix [true, true, true, true, true, true, true, true, false] (S := fun w' => w'.cell? ⟨w1.heap.size, 0, none⟩ = some (.slice A0 n0 c0) ∧ w'.cell? ⟨w1.heap.size, 1, none⟩ = some (.slice A1 n1 c1)) (by kernel_rfl) (by kernel_rfl) (fun _ _ d _ _ h => by cases d <;> exact h) ⟨d0, d1⟩ ?_
        have D0 := Lib.hid d0
        have D1 := Lib.hid d1
        clear d0 d1
        iterate 8 (refine mix_take (v := ?_) (by kernel_rfl) ?_ (fun K hK => ?_); rotate_left; (· (intro w' hSw; (try dsimp only at hSw); go_simp; with_reducible rfl)); simp only [Act.put, List.setIfInBounds_toArray, List.set_cons_zero, List.set_cons_succ]; refine hK _ ?_; clear hK K)
        refine mix_do (E := False) (fun K hK => ?_) (by kernel_rfl)
        go_simp
        refine HP.out.mono ?_
        rintro e w9 ⟨v9, rfl, hb9, ho9⟩
        have B9 := Lib.hid (below_all B1.out B1.out.size (BZ.out.drew.trans (hb9.mono BZ.out.size)))
        have f1 := (CE.out _ (BZ.out.drew.trans (hb9.mono BZ.out.size))).cell 1
        have hsz9 : w.heap.size ≤ wz.heap.size := Nat.le_trans (Nat.le_of_lt hlt1) BZ.out.size
        have O9 := Lib.hid (own_mono ho9 hsz9)
        obtain ⟨A9, c9, rfl, _, _, _, _, _⟩ := own_slice ho9
        have q0 := (hb9.cell (World.block_lt_of_cell? _ _ D0.out)).trans D0.out
        have q1 := (hb9.cell (World.block_lt_of_cell? _ _ D1.out)).trans D1.out
        clear hb9 ho9
        have HS := Lib.hid (seal_any w.heap.size 256 c9 A9 pb (rS s) w9 HPL.out O9.out)
        refine hK.out _ _ (⟨q0, q1⟩) ?_
        clear hK K
        try simp only [Act.put, List.setIfInBounds_toArray, List.set_cons_zero, List.set_cons_succ]
        refine mix_still ?_
        iterate 5 (refine still_take (v := ?_) (by kernel_rfl) ?_ (fun K hK => ?_); rotate_left; (· (go_simp; with_reducible rfl)); simp only [Act.put, List.setIfInBounds_toArray, List.set_cons_zero, List.set_cons_succ]; refine hK _ ?_; clear hK K)
        refine still_end ?_
        clear q0 q1
        go_wp2_with fail
        refine HS.out.mono ?_
        rintro e w10 ⟨rfl, ho10, hg10⟩
        have O10 := Lib.hid ho10
        have B10 := Lib.hid (below_own O9.out B9.out (Nat.le_refl _) hg10)
        clear ho10 hg10
        go_wp2_with fail
        go_ret2
        refine ⟨_, rfl, B10.out, ?_⟩
        rw [HRB.out, HPB.out, sealB_length, HPL.out]
        exact O10.out
      · go_wp2_with fail
        refine (add_int w1.heap.size w1.heap.size st 4 _ _ _ hz0 X3.out (by have := HST.out; omega) (by have := HST.out; omega) (by omega) (by omega)).mono ?_
        rintro e wz ⟨rfl, h8, b8, q8⟩
        have BZ := Lib.hid (X2.out.trans b8)
        have e1 : rL 4 s es sum st = hL 4 s j ++ esL 4 es ++ [st.toNat] := by rw [rL, HLEN.out]; rfl
        have e2 : rW 4 j = hW ++ esW 4 j ++ [4] := rfl
        have FZ := Lib.hid (show FieldsAt w1.heap.size wz w1.heap.size (rL 4 s es sum st) (rW 4 j) by rw [e1, e2]; exact h8)
        clear h8 b8 q8 X2 X3 f0 f3 f4 e1 e2 wsm hz0
        go_wp2_with fail
        obtain ⟨vl, vw, hgB, hblk, hol, how⟩ := FZ.out
        obtain ⟨A0, c0, rfl, hr0, _, hc0, _, _⟩ := own_nums hol
        obtain ⟨A1, c1, rfl, hr1, _, hc1, _, _⟩ := own_ints how
        have d0 : wz.cell? ⟨w1.heap.size, 0, none⟩ = some _ := hblk.cell 0
        have d1 : wz.cell? ⟨w1.heap.size, 1, none⟩ = some _ := hblk.cell 1
        have HP := Lib.hid (pack_any A0 A1 _ c0 _ c1 (rL 4 s es sum st) (rW 4 j) 256 wz.drew (by have := HLW.out; omega) H64.out hr0 hr1)
        generalize (rL 4 s es sum st).length = n0 at HP d0 d1
        generalize (rW 4 j).length = n1 at HP d0 d1
        obtain ⟨hf1, hf2⟩ := HF.out
        obtain ⟨pb, hpb⟩ : ∃ pb, packB (rL 4 s es sum st) (rW 4 j) 256 = pb := ⟨_, rfl⟩
        rw [HLEN.out, hpb] at hf1
        rw [HLEN.out] at hf2
        rw [hf2, hpb, hf1] at HP
        have HPB := Lib.hid hpb
        have HPL := Lib.hid hf1
        clear hf1 hf2 hpb hgB hblk hol how hr0 hr1 hc0 hc1 HF H64 FZ
        refine region_mix [true, true, true, true, true, true, true, true, false] (S := fun w' => w'.cell? ⟨w1.heap.size, 0, none⟩ = some (.slice A0 n0 c0) ∧ w'.cell? ⟨w1.heap.size, 1, none⟩ = some (.slice A1 n1 c1)) (by kernel_rfl) (by kernel_rfl) (fun _ _ d _ _ h => by cases d <;> exact h) ⟨d0, d1⟩ ?_
        have D0 := Lib.hid d0
        have D1 := Lib.hid d1
        clear d0 d1
        iterate 8 (refine mix_take (v := ?_) (by kernel_rfl) ?_ (fun K hK => ?_); rotate_left; (· (intro w' hSw; (try dsimp only at hSw); go_simp; with_reducible rfl)); simp only [Act.put, List.setIfInBounds_toArray, List.set_cons_zero, List.set_cons_succ]; refine hK _ ?_; clear hK K)
        refine mix_do (E := False) (fun K hK => ?_) (by kernel_rfl)
        go_simp
        refine HP.out.mono ?_
        rintro e w9 ⟨v9, rfl, hb9, ho9⟩
        have B9 := Lib.hid (below_all B1.out B1.out.size (BZ.out.drew.trans (hb9.mono BZ.out.size)))
        have f1 := (CE.out _ (BZ.out.drew.trans (hb9.mono BZ.out.size))).cell 1
        have hsz9 : w.heap.size ≤ wz.heap.size := Nat.le_trans (Nat.le_of_lt hlt1) BZ.out.size
        have O9 := Lib.hid (own_mono ho9 hsz9)
        obtain ⟨A9, c9, rfl, _, _, _, _, _⟩ := own_slice ho9
        have q0 := (hb9.cell (World.block_lt_of_cell? _ _ D0.out)).trans D0.out
        have q1 := (hb9.cell (World.block_lt_of_cell? _ _ D1.out)).trans D1.out
        clear hb9 ho9
        have HS := Lib.hid (seal_any w.heap.size 256 c9 A9 pb (rS s) w9 HPL.out O9.out)
        refine hK.out _ _ (⟨q0, q1⟩) ?_
        clear hK K
        try simp only [Act.put, List.setIfInBounds_toArray, List.set_cons_zero, List.set_cons_succ]
        refine mix_still ?_
        iterate 5 (refine still_take (v := ?_) (by kernel_rfl) ?_ (fun K hK => ?_); rotate_left; (· (go_simp; with_reducible rfl)); simp only [Act.put, List.setIfInBounds_toArray, List.set_cons_zero, List.set_cons_succ]; refine hK _ ?_; clear hK K)
        refine still_end ?_
        clear q0 q1
        go_wp2_with fail
        refine HS.out.mono ?_
        rintro e w10 ⟨rfl, ho10, hg10⟩
        have O10 := Lib.hid ho10
        have B10 := Lib.hid (below_own O9.out B9.out (Nat.le_refl _) hg10)
        clear ho10 hg10
        go_wp2_with fail
        go_ret2
        refine ⟨_, rfl, B10.out, ?_⟩
        rw [HRB.out, HPB.out, sealB_length, HPL.out]
        exact O10.out
      · have BZ := X2
        have FZ := Lib.hid (show FieldsAt w1.heap.size wr w1.heap.size (rL k s es sum st) (rW k j) by
          have h2 : k ≠ 2 := by simpa using k2
          have h4 : k ≠ 4 := by simpa using k4
          rw [rL, rW, HLEN.out]; simpa [tL, tW, h2, h4] using X3.out)
        clear X2 X3 f3 f4 wsm hz0
        go_wp2_with fail
        obtain ⟨vl, vw, hgB, hblk, hol, how⟩ := FZ.out
        obtain ⟨A0, c0, rfl, hr0, _, hc0, _, _⟩ := own_nums hol
        obtain ⟨A1, c1, rfl, hr1, _, hc1, _, _⟩ := own_ints how
        have d0 : wr.cell? ⟨w1.heap.size, 0, none⟩ = some _ := hblk.cell 0
        have d1 : wr.cell? ⟨w1.heap.size, 1, none⟩ = some _ := hblk.cell 1
        have HP := Lib.hid (pack_any A0 A1 _ c0 _ c1 (rL k s es sum st) (rW k j) 256 wr.drew (by have := HLW.out; omega) H64.out hr0 hr1)
        generalize (rL k s es sum st).length = n0 at HP d0 d1
        generalize (rW k j).length = n1 at HP d0 d1
        obtain ⟨hf1, hf2⟩ := HF.out
        obtain ⟨pb, hpb⟩ : ∃ pb, packB (rL k s es sum st) (rW k j) 256 = pb := ⟨_, rfl⟩
        rw [HLEN.out, hpb] at hf1
        rw [HLEN.out] at hf2
        rw [hf2, hpb, hf1] at HP
        have HPB := Lib.hid hpb
        have HPL := Lib.hid hf1
        clear hf1 hf2 hpb hgB hblk hol how hr0 hr1 hc0 hc1 HF H64 FZ
        refine region_mix [true, true, true, true, true, true, true, true, false] (S := fun w' => w'.cell? ⟨w1.heap.size, 0, none⟩ = some (.slice A0 n0 c0) ∧ w'.cell? ⟨w1.heap.size, 1, none⟩ = some (.slice A1 n1 c1)) (by kernel_rfl) (by kernel_rfl) (fun _ _ d _ _ h => by cases d <;> exact h) ⟨d0, d1⟩ ?_
        have D0 := Lib.hid d0
        have D1 := Lib.hid d1
        clear d0 d1
        iterate 8 (refine mix_take (v := ?_) (by kernel_rfl) ?_ (fun K hK => ?_); rotate_left; (· (intro w' hSw; (try dsimp only at hSw); go_simp; with_reducible rfl)); simp only [Act.put, List.setIfInBounds_toArray, List.set_cons_zero, List.set_cons_succ]; refine hK _ ?_; clear hK K)
        refine mix_do (E := False) (fun K hK => ?_) (by kernel_rfl)
        go_simp
        refine HP.out.mono ?_
        rintro e w9 ⟨v9, rfl, hb9, ho9⟩
        have B9 := Lib.hid (below_all B1.out B1.out.size (BZ.out.drew.trans (hb9.mono BZ.out.size)))
        have f1 := (CE.out _ (BZ.out.drew.trans (hb9.mono BZ.out.size))).cell 1
        have hsz9 : w.heap.size ≤ wr.heap.size := Nat.le_trans (Nat.le_of_lt hlt1) BZ.out.size
        have O9 := Lib.hid (own_mono ho9 hsz9)
        obtain ⟨A9, c9, rfl, _, _, _, _, _⟩ := own_slice ho9
        have q0 := (hb9.cell (World.block_lt_of_cell? _ _ D0.out)).trans D0.out
        have q1 := (hb9.cell (World.block_lt_of_cell? _ _ D1.out)).trans D1.out
        clear hb9 ho9
        have HS := Lib.hid (seal_any w.heap.size 256 c9 A9 pb (rS s) w9 HPL.out O9.out)
        refine hK.out _ _ (⟨q0, q1⟩) ?_
        clear hK K
        try simp only [Act.put, List.setIfInBounds_toArray, List.set_cons_zero, List.set_cons_succ]
        refine mix_still ?_
        iterate 5 (refine still_take (v := ?_) (by kernel_rfl) ?_ (fun K hK => ?_); rotate_left; (· (go_simp; with_reducible rfl)); simp only [Act.put, List.setIfInBounds_toArray, List.set_cons_zero, List.set_cons_succ]; refine hK _ ?_; clear hK K)
        refine still_end ?_
        clear q0 q1
        go_wp2_with fail
        refine HS.out.mono ?_
        rintro e w10 ⟨rfl, ho10, hg10⟩
        have O10 := Lib.hid ho10
        have B10 := Lib.hid (below_own O9.out B9.out (Nat.le_refl _) hg10)
        clear ho10 hg10
        go_wp2_with fail
        go_ret2
        refine ⟨_, rfl, B10.out, ?_⟩
        rw [HRB.out, HPB.out, sealB_length, HPL.out]
        exact O10.out
theorem logPack_any (k s : Int) (A : Option Addr) (n c sum : Nat) (st : Int) (es : List Ent) (w : World) (hn : n ≤ 9223372036854775807) (hsum : sum < 4294967296) (hr : RowAt w A (n * 2) (ecells es)) :
    Calls Try.prog 14 #[.agg #[.int .i64 k, .int .i64 s, .slice A n c, .int .u32 (sum : Int), .int .i64 st]] w fun e w' => ∃ v, e = .returned (.tuple #[v, .int .i64 (rE k s es sum st)]) ∧ Below w.heap.size w w' ∧ w'.ownsRow w.heap.size 5 1 v (rB k s es sum st).length (bvl (rB k s es sum st)) := by
  cases hm : rMay k s es sum st
  · have e1 : rE k s es sum st = 22 := by simp [rE, hm]
    have e2 : rB k s es sum st = [] := by simp [rB, hm]
    rw [e1, e2]
    exact (logPack_no k s A n c sum st es w hn hr hm).mono fun e w' ⟨he, hb⟩ => ⟨_, he, hb, World.ownsRow_nil _ _ _ _⟩
  · have e1 : rE k s es sum st = 0 := by simp [rE, hm]
    rw [e1]
    exact logPack_in k s A n c sum st es w hn hsum hr hm
end Go.Proofs.Ytifamhmiibhohaa.Log

namespace Go.Proofs.Ytifamhmiibhohaa.Log
open Go.RowKit Go.Proofs.Ytifamhmiibhohaa.Wire Go.Proofs.Ytifamhmiibhohaa.Lay
set_option linter.unusedVariables false
set_option linter.unusedSimpArgs false

def uN (bs : List UInt8) : Nat := min (uf bs 9 2).toNat 61
def uEnt (bs : List UInt8) (j : Nat) : Ent := (uf bs (11 + stride (uf bs 4 1) * j) 4, uf bs 4 1 == 1 && uf bs (11 + stride (uf bs 4 1) * j + 4) 1 == 1)
def uEs (bs : List UInt8) : List Ent := (List.range (uN bs)).map (uEnt bs)
def uSum (bs : List UInt8) (p : Int) : Nat := if uf bs 4 1 = 2 then (uf bs p 4).toNat else 0
def uSt (bs : List UInt8) (p : Int) : Int := if uf bs 4 1 = 4 then uf bs p 4 else 0
def uP (bs : List UInt8) : Int := 11 + stride (uf bs 4 1) * uN bs
/-- Are these bytes a record? -/
def uMay (bs : List UInt8) : Bool := rMay (uf bs 4 1) (uf bs 5 4) (uEs bs) (uSum bs (uP bs)) (uSt bs (uP bs))
def uRB (bs : List UInt8) : List UInt8 := rB (uf bs 4 1) (uf bs 5 4) (uEs bs) (uSum bs (uP bs)) (uSt bs (uP bs))
def uOk (bs : List UInt8) : Bool := uMay bs && (uRB bs == bs)
def uE (bs : List UInt8) : Int := if uOk bs = true then 0 else 117
def uXs (bs : List UInt8) : List Ent := if uOk bs = true then uEs bs else []
/-- The record that is told, but for its row of entries. -/
def uV (bs : List UInt8) (v : Value) : Array Value :=
  if uOk bs = true then #[.int .i64 (uf bs 4 1), .int .i64 (uf bs 5 4), v, .int .u32 (uSum bs (uP bs) : Int), .int .i64 (uSt bs (uP bs))] else #[.int .i64 0, .int .i64 0, .slice none 0 0, .int .u32 0, .int .i64 0]
theorem uf_nat (bs : List UInt8) (p n : Int) : ∃ x : Nat, uf bs p n = (x : Int) := ⟨getX bs p n, rfl⟩
theorem uf_pos (bs : List UInt8) (p n : Int) : 0 ≤ uf bs p n := by obtain ⟨x, h⟩ := uf_nat bs p n; omega
theorem uf_lt (bs : List UInt8) (p n : Int) (h : n ≤ 4) : uf bs p n < 4294967296 := by
  have := getX_lt bs p n h
  show ((getX bs p n : Nat) : Int) < _
  omega
theorem uN_le (bs : List UInt8) : uN bs ≤ 61 := Nat.min_le_right _ _
theorem uN_eq (bs : List UInt8) : min (uf bs 9 2) 61 = (uN bs : Int) := by
  have := uf_pos bs 9 2
  unfold uN; omega
theorem uSum_lt (bs : List UInt8) (p : Int) : uSum bs p < 4294967296 := by
  have h1 := uf_pos bs p 4
  have h2 := uf_lt bs p 4 (by omega)
  unfold uSum; split <;> omega
theorem uEs_length (bs : List UInt8) : (uEs bs).length = uN bs := by simp [uEs]
theorem uEs_take {bs : List UInt8} {j : Nat} (h : j < uN bs) : (uEs bs).take (j + 1) = (uEs bs).take j ++ [uEnt bs j] := by
  rw [List.take_add_one]
  simp [uEs, h]
theorem uEs_all (bs : List UInt8) : (uEs bs).take (uN bs) = uEs bs := List.take_of_length_le (by rw [uEs_length]; exact Nat.le_refl _)
end Go.Proofs.Ytifamhmiibhohaa.Log

namespace Go.Proofs.Ytifamhmiibhohaa.Log
open Go.RowKit Go.Proofs.Ytifamhmiibhohaa.Wire Go.Proofs.Ytifamhmiibhohaa.Lay
set_option maxHeartbeats 8000000
set_option maxRecDepth 100000
set_option linter.unusedVariables false
set_option linter.unusedSimpArgs false

theorem infoEnt : (Try.prog.info? 46).map (fun i => (i.zero, i.size, i.bytes)) = some (some (.agg #[.int .i64 0, .bool false]), 2, 16) := by kernel_rfl
/-- The cursor, the record that is read, the result's place; nothing old has turned. -/
structure UAt (w : World) (A : Option Addr) (len cap : Nat) (gc gr : Nat) (p : Int) (cs : Array Value) (wr : World) : Prop where
  res : Blk wr w.heap.size 36 #[.int .i64 0, .int .i64 0, .slice none 0 0, .int .u32 0, .int .i64 0]
  cur : Blk wr gc 63 #[.slice A len cap, .int .i64 p]
  rcd : Blk wr gr 36 cs
  bel : Below w.heap.size w wr
  pos : w.heap.size ≤ gc ∧ w.heap.size < gr
theorem blk_ne {w : World} {g g' : Nat} {t t' : TypeId} {cs cs' : Array Value} (h : Blk w g t cs) (h' : Blk w g' t' cs') (ht : t ≠ t') : g ≠ g' := fun e => by
  subst e
  unfold Blk at h h'
  rw [h] at h'
  injection h' with h'
  injection h' with _ e2
  exact ht e2
theorem next_at {w wr : World} {A : Option Addr} {len cap gc gr : Nat} {p : Int} {cs : Array Value} {bs : List UInt8} (h : UAt w A len cap gc gr p cs wr) (hl : len ≤ cap) (hc : cap ≤ 9223372036854775807) (hb : BytesAt w A len bs) (n : Int)
    (hn : n ≤ 4) (hn0 : 0 ≤ n) (hp0 : 0 ≤ p) (hp : p ≤ 100000) :
    Calls Try.prog 23 #[.pointer (some ⟨gc, 0, none⟩), .int .i64 n] wr fun e w' => e = .returned (.int .i64 (uf bs p n)) ∧ UAt w A len cap gc gr (p + n) cs w' ∧ wr.grownBy w' (some gc) := by
  refine (next_any gc A len cap p n bs wr hl hc (hb.below h.bel) h.cur hn hn0 hp0 hp).mono ?_
  rintro e w' ⟨he, hk, hg⟩
  have n1 := blk_ne h.res h.cur (by decide)
  have n2 := blk_ne h.rcd h.cur (by decide)
  exact ⟨he, ⟨h.res.grown hg (by simpa using n1), hk, h.rcd.grown hg (by simpa using n2), below_only h.bel hg (fun g e => by injection e with e; subst e; exact h.pos.1), h.pos⟩, hg⟩
theorem UAt.alloc {w wr : World} {A : Option Addr} {len cap gc gr : Nat} {p : Int} {cs : Array Value} (h : UAt w A len cap gc gr p cs wr) (o : Obj) : UAt w A len cap gc gr p cs (wr.alloc o) :=
  ⟨h.res.alloc o, h.cur.alloc o, h.rcd.alloc o, h.bel.alloc h.bel.size o, h.pos⟩
theorem UAt.set_ {w wr : World} {A : Option Addr} {len cap gc gr : Nat} {p : Int} {cs : Array Value} (h : UAt w A len cap gc gr p cs wr) (i : Nat) (u : Value) : UAt w A len cap gc gr p (cs.setIfInBounds i u) (wr.setCell ⟨gr, i, none⟩ u) :=
  ⟨h.res.far (p := ⟨gr, i, none⟩) (by have := h.pos.2; simp only; omega) u, h.cur.far (p := ⟨gr, i, none⟩) (blk_ne h.cur h.rcd (by decide)) u, h.rcd.set_ i u, h.bel.setCell (p := ⟨gr, i, none⟩) (Nat.le_of_lt h.pos.2) u, h.pos⟩
theorem UAt.far {w wr : World} {A : Option Addr} {len cap gc gr g i : Nat} {p : Int} {cs cs' : Array Value} (h : UAt w A len cap gc gr p cs wr) (hb : Blk wr g 46 cs') (hg : w.heap.size ≤ g) (u : Value) : UAt w A len cap gc gr p cs (wr.setCell ⟨g, i, none⟩ u) :=
  ⟨h.res.far (p := ⟨g, i, none⟩) (blk_ne h.res hb (by decide)) u, h.cur.far (p := ⟨g, i, none⟩) (blk_ne h.cur hb (by decide)) u, h.rcd.far (p := ⟨g, i, none⟩) (blk_ne h.rcd hb (by decide)) u, h.bel.setCell (p := ⟨g, i, none⟩) hg u, h.pos⟩
theorem UAt.row {w wr w' : World} {A : Option Addr} {len cap gc gr base n : Nat} {p : Int} {cs : Array Value} {v : Value} {xs : List Value} (h : UAt w A len cap gc gr p cs wr) (hr : wr.ownsRow base 46 2 v n xs) (hbase : w.heap.size ≤ base) (hg : wr.grownBy w' v.ownBlock) : UAt w A len cap gc gr p cs w' :=
  ⟨h.res.grown hg (own_blk_ne hr h.res (by decide)), h.cur.grown hg (own_blk_ne hr h.cur (by decide)), h.rcd.grown hg (own_blk_ne hr h.rcd (by decide)), below_row h.bel hg (fun g e => Nat.le_trans hbase (hr.lt g e).1) h.bel.size, h.pos⟩

theorem uStart {w wr w1 w2 : World} {A : Option Addr} {len cap gc : Nat} {p r : Int} (k x : Int) (hgc : gc = w.heap.size + 1)
    (h0 : (w.alloc (.cells #[.int .i64 0, .int .i64 0, .slice none 0 0, .int .u32 0, .int .i64 0] 36)).alloc (.cells #[.slice A len cap, .int .i64 p] 63) = wr)
    (h1 : wr.grownBy w1 (some gc)) (h2 : w1.grownBy w2 (some gc)) (hc : Blk w2 gc 63 #[.slice A len cap, .int .i64 r]) :
    UAt w A len cap gc w2.heap.size r #[.int .i64 k, .int .i64 x, .slice none 0 0, .int .u32 0, .int .i64 0] (w2.alloc (.cells #[.int .i64 k, .int .i64 x, .slice none 0 0, .int .u32 0, .int .i64 0] 36)) := by
  obtain ⟨b0, b1, hbel, hsz⟩ := boxes2 w _ _ _ _ wr h0
  have g := only_trans h1 h2
  have hlt := g.size
  refine ⟨(b0.grown g (by simp; omega)).alloc _, hc.alloc _, Blk.new _ _ _, ?_, by omega, by omega⟩
  exact (below_only hbel g (fun q e => by injection e with e; omega)).alloc (by omega) _
theorem u_end {w wz : World} {b n : Nat} {v : Value} {xs : List Value} {cs : Array Value} (res : Blk wz w.heap.size 36 cs) (bel : Below w.heap.size w wz) (own : wz.ownsRow b 46 2 v n xs) (c0 c1 c2 c3 c4 : Value) :
    Below w.heap.size w (((((wz.setCell ⟨w.heap.size, 0, none⟩ c0).setCell ⟨w.heap.size, 1, none⟩ c1).setCell ⟨w.heap.size, 2, none⟩ c2).setCell ⟨w.heap.size, 3, none⟩ c3).setCell ⟨w.heap.size, 4, none⟩ c4) ∧
    (((((wz.setCell ⟨w.heap.size, 0, none⟩ c0).setCell ⟨w.heap.size, 1, none⟩ c1).setCell ⟨w.heap.size, 2, none⟩ c2).setCell ⟨w.heap.size, 3, none⟩ c3).setCell ⟨w.heap.size, 4, none⟩ c4).ownsRow b 46 2 v n xs := by
  have r1 := res.set_ 0 c0
  have r2 := r1.set_ 1 c1
  have r3 := r2.set_ 2 c2
  have r4 := r3.set_ 3 c3
  refine ⟨((((bel.setCell (p := ⟨w.heap.size, 0, none⟩) (Nat.le_refl _) c0).setCell (p := ⟨w.heap.size, 1, none⟩) (Nat.le_refl _) c1).setCell (p := ⟨w.heap.size, 2, none⟩) (Nat.le_refl _) c2).setCell (p := ⟨w.heap.size, 3, none⟩) (Nat.le_refl _) c3).setCell (p := ⟨w.heap.size, 4, none⟩) (Nat.le_refl _) c4, ?_⟩
  exact own_set_far (own_set_far (own_set_far (own_set_far (own_set_far own res (by decide) c0) r1 (by decide) c1) r2 (by decide) c2) r3 (by decide) c3) r4 (by decide) c4
theorem logUnpack_any (A : Option Addr) (len cap : Nat) (bs : List UInt8) (w : World) (hl : len ≤ cap) (hc : cap ≤ 9223372036854775807) (hb : BytesAt w A len bs) :
    Calls Try.prog 11 #[.slice A len cap] w fun e w' => ∃ v, e = .returned (.tuple #[.agg (uV bs v), .int .i64 (uE bs)]) ∧ Below w.heap.size w w' ∧ w'.ownsRow w.heap.size 46 2 v (uXs bs).length (ecells (uXs bs)) := by
  obtain ⟨W, hW⟩ : ∃ W, (w.alloc (.cells #[.int .i64 0, .int .i64 0, .slice none 0 0, .int .u32 0, .int .i64 0] 36)).alloc (.cells #[.slice A len cap, .int .i64 4] 63) = W := ⟨_, rfl⟩
  obtain ⟨b0, b1, hbel, hsz⟩ := boxes2 w _ _ _ _ W hW
  have HB := Lib.hid hb
  have HW := Lib.hid hW
  have HN1 := Lib.hid (next_any (w.heap.size + 1) A len cap 4 1 bs W hl hc (hb.below hbel) b1 (by omega) (by omega) (by omega) (by omega))
  have HBEL := Lib.hid hbel
  clear hW b0 b1 hb hbel
  go_enter Try.func11, Try.ntmps11
  go_wp2_with fail
  rw [HW.out]
  refine HN1.out.mono ?_
  rintro e w1 ⟨rfl, k1, g1⟩
  have G1 := Lib.hid g1
  have HN2 := Lib.hid (next_any (w.heap.size + 1) A len cap (4 + 1) 4 bs w1 hl hc (HB.out.below (below_only HBEL.out g1 (fun q e => by injection e with e; omega))) k1 (by omega) (by omega) (by omega) (by omega))
  clear k1 g1 HN1
  go_wp2_with fail
  refine HN2.out.mono ?_
  rintro e w2 ⟨rfl, k2, g2⟩
  have hw2 : w.heap.size + 2 ≤ w2.heap.size := by have h1 := G1.out.size; have h2 := g2.size; omega
  obtain ⟨k, hk⟩ : ∃ k, uf bs 4 1 = k := ⟨_, rfl⟩
  obtain ⟨x, hx⟩ : ∃ x, uf bs (4 + 1) 4 = x := ⟨_, rfl⟩
  rw [hk, hx]
  have U3 := Lib.hid (uStart (r := 9) k x rfl HW.out G1.out g2 k2)
  have HKK := Lib.hid hk
  have HXX := Lib.hid (show uf bs 5 4 = x from hx)
  clear k2 g2 G1 HN2 hk hx HW HBEL
  go_wp2_with fail
  refine (next_at U3.out hl hc HB.out 2 (by omega) (by omega) (by omega) (by omega)).mono ?_
  rintro e w3 ⟨rfl, u4, g4⟩
  have U4 := Lib.hid (show UAt w A len cap (w.heap.size + 1) w2.heap.size 11 _ w3 from u4)
  have hmin := uN_eq bs
  have hm61 := uN_le bs
  obtain ⟨m, hm⟩ : ∃ m, uN bs = m := ⟨_, rfl⟩
  rw [hm] at hmin hm61
  obtain ⟨m0, hm0⟩ : ∃ m0, uf bs 9 2 = m0 := ⟨_, rfl⟩
  rw [hm0] at hmin ⊢
  have HMM := Lib.hid hm
  clear u4 g4 U3 hm hm0
  go_wp2_with fail
  go_loopw [7, 22] (fun _ i wr => ∃ (j : Nat) (v : Value), j ≤ m ∧ i = .int .i64 j ∧ UAt w A len cap (w.heap.size + 1) w2.heap.size (11 + stride k * j) #[.int .i64 k, .int .i64 x, v, .int .u32 0, .int .i64 0] wr ∧ wr.ownsRow w.heap.size 46 2 v j (ecells ((uEs bs).take j))) (fun _ i _ => m - (intOf i).toNat)
  case atStart => exact ⟨0, _, by omega, rfl, by simpa using U4.out, World.ownsRow_nil _ _ _ _⟩
  case round =>
    obtain ⟨j, v, hj, rfl, hu, ho⟩ := hrel
    have X1 := Lib.hid hu
    have X2 := Lib.hid ho
    have hst : stride k = 4 ∨ stride k = 5 := by unfold stride; split <;> simp
    have hp0 : 0 ≤ 11 + stride k * j ∧ 11 + stride k * j ≤ 1000 := by rcases hst with h | h <;> rw [h] <;> omega
    clear hu ho
    by_cases hlt : j < m
    · have hd : (j : Int) < min m0 61 := by omega
      go_wp2_with fail
      refine (next_at X1.out hl hc HB.out 4 (by omega) (by omega) hp0.1 (by omega)).mono ?_
      rintro e w4 ⟨rfl, u5, g5⟩
      obtain ⟨b, hb⟩ : ∃ b, uf bs (11 + stride k * j) 4 = b := ⟨_, rfl⟩
      rw [hb]
      have O5 := Lib.hid (X2.out.kept g5 (.inr (own_blk_ne X2.out X1.out.cur (by decide)).symm))
      have U6 := Lib.hid (u5.alloc (.cells #[.int .i64 b, .bool false] 46))
      have O6 := Lib.hid (O5.out.alloc (.cells #[.int .i64 b, .bool false] 46))
      have E6 := Lib.hid (Blk.new w4 46 #[.int .i64 b, .bool false])
      have hw4 := u5.bel.size
      have f0 : (w4.alloc (.cells #[.int .i64 b, .bool false] 46)).cell? ⟨w2.heap.size, 0, none⟩ = some (.int .i64 k) := U6.out.rcd.cell 0
      have htk : ∀ y : Bool, (k == 1 && uf bs (11 + stride k * j + 4) 1 == 1) = y → (uEs bs).take (j + 1) = (uEs bs).take j ++ [(b, y)] := fun y hy => by
        rw [uEs_take (by rw [HMM.out]; exact hlt), uEnt, HKK.out, hb, hy]
      have HTK := Lib.hid htk
      have fin : ∀ (wz : World) {cs : Array Value}, UAt w A len cap (w.heap.size + 1) w2.heap.size (11 + stride k * j + stride k) cs wz → UAt w A len cap (w.heap.size + 1) w2.heap.size (11 + stride k * ((j + 1 : Nat) : Int)) cs wz := fun wz cs h => by
        rw [show 11 + stride k * ((j + 1 : Nat) : Int) = 11 + stride k * j + stride k by push_cast; rw [Int.mul_add]; omega]; exact h
      have FIN := Lib.hid fin
      have hne : v.ownBlock ≠ some w4.heap.size := fun e => absurd (O5.out.lt _ e).2 (Nat.lt_irrefl _)
      have HNE := Lib.hid hne
      clear u5 g5 O5 X1 X2 htk fin hb hne
      by_cases hk1 : k = 1
      · subst hk1
        go_wp2_with fail
        have f0' := f0
        refine (next_at U6.out hl hc HB.out 1 (by omega) (by omega) (by omega) (by omega)).mono ?_
        rintro e w5 ⟨rfl, u6, g6⟩
        obtain ⟨y, hy⟩ : ∃ y, (uf bs (11 + stride 1 * j + 4) 1 == 1) = y := ⟨_, rfl⟩
        have HY := Lib.hid (show ((1 : Int) == 1 && uf bs (11 + stride 1 * j + 4) 1 == 1) = y by rw [hy]; rfl)
        have e6 := E6.out.grown g6 (by have := blk_ne E6.out U6.out.cur (by decide); simpa using this)
        have o6 := O6.out.kept g6 (.inr (own_blk_ne O6.out U6.out.cur (by decide)).symm)
        have U7 := Lib.hid ((show UAt w A len cap (w.heap.size + 1) w2.heap.size (11 + stride 1 * j + stride 1) _ w5 from by rw [show stride 1 = 4 + 1 from rfl] at u6 ⊢; rw [← Int.add_assoc]; exact u6).far (i := 1) e6 hw4 (.bool y))
        have E7 := Lib.hid (e6.set_ 1 (.bool y))
        have O7 := Lib.hid (o6.kept (only_setCell (World.grownBy.refl w5 (some w4.heap.size)) (p := ⟨w4.heap.size, 1, none⟩) (.inl rfl) (.bool y)) (.inr HNE.out))
        have c6 := e6.cell 1
        have z6 := e6.frozen 1
        clear u6 g6 e6 o6 f0 f0' E6 O6 U6
        have f2 := U7.out.rcd.cell 2
        have z2 := U7.out.rcd.frozen 2
        have e0 := E7.out.cell 0
        have e1 := E7.out.cell 1
        have L8 := Lib.hid (lit_rowN (w5.setCell ⟨w4.heap.size, 1, none⟩ (.bool y)) 46 (ecells [(b, y)]) 2 w5.heap.size rfl (by simp))
        have O8 := Lib.hid (O7.out.alloc (.cells (ecells [(b, y)]).toArray 46))
        have U8 := Lib.hid (U7.out.alloc (.cells (ecells [(b, y)]).toArray 46))
        go_wp2_with (first
          | (at_builtin
             refine app_gen _ 33 46 (.agg #[.int .i64 0, .bool false]) 2 16 Try.underlying33 infoEnt rfl (by decide) rfl (.tmp 35) (.tmp 37) rfl w.heap.size v j (ecells ((uEs bs).take j)) rfl O8.out (some ⟨w5.heap.size, 0, none⟩) 1 1 (ecells [(b, y)]) rfl (fun e => by cases e) L8.out (one_ecells _) (by unfold maxLen; omega) (by omega) U8.out.bel.size ?_
             intro v9 w9 hown9 hg9
             obtain ⟨g9, c9, cs9, rfl, _, _, _, _, _⟩ := own_formN hown9 (by omega)
             have U9 := Lib.hid (U8.out.row O8.out (Nat.le_refl _) hg9)
             have O9 := Lib.hid hown9
             clear hown9 hg9
             have z9 := U9.out.rcd.frozen 2
             have f9 := U9.out.rcd.cell 2)
          | fail)
        go_roundw
        case rel => exact ⟨j + 1, _, by omega, by go_num, FIN.out _ (U9.out.set_ 2 _), by
          rw [HTK.out y HY, ecells_snoc]
          exact own_set_far O9.out U9.out.rcd (by decide) _⟩
        case measure => simp [intOf]; omega
      · have hk1' : (k == 1) = false := by simpa using hk1
        have HY := Lib.hid (show (k == 1 && uf bs (11 + stride k * j + 4) 1 == 1) = false by rw [hk1']; rfl)
        have U7 := Lib.hid (show UAt w A len cap (w.heap.size + 1) w2.heap.size (11 + stride k * j + stride k) _ (w4.alloc (.cells #[.int .i64 b, .bool false] 46)) from by rw [show stride k = 4 from by simp [stride, hk1]]; rw [show stride k = 4 from by simp [stride, hk1]] at U6; exact U6.out)
        have E7 := E6
        have O7 := O6
        clear U6 O6 E6 hk1
        have f2 := U7.out.rcd.cell 2
        have z2 := U7.out.rcd.frozen 2
        have e0 := E7.out.cell 0
        have e1 := E7.out.cell 1
        have L8 := Lib.hid (lit_rowN (w4.alloc (.cells #[.int .i64 b, .bool false] 46)) 46 (ecells [(b, false)]) 2 (w4.heap.size + 1) rfl (by simp))
        have O8 := Lib.hid (O7.out.alloc (.cells (ecells [(b, false)]).toArray 46))
        have U8 := Lib.hid (U7.out.alloc (.cells (ecells [(b, false)]).toArray 46))
        go_wp2_with (first
          | (at_builtin
             refine app_gen _ 33 46 (.agg #[.int .i64 0, .bool false]) 2 16 Try.underlying33 infoEnt rfl (by decide) rfl (.tmp 35) (.tmp 37) rfl w.heap.size v j (ecells ((uEs bs).take j)) rfl O8.out (some ⟨w4.heap.size + 1, 0, none⟩) 1 1 (ecells [(b, false)]) rfl (fun e => by cases e) L8.out (one_ecells _) (by unfold maxLen; omega) (by omega) U8.out.bel.size ?_
             intro v9 w9 hown9 hg9
             obtain ⟨g9, c9, cs9, rfl, _, _, _, _, _⟩ := own_formN hown9 (by omega)
             have U9 := Lib.hid (U8.out.row O8.out (Nat.le_refl _) hg9)
             have O9 := Lib.hid hown9
             clear hown9 hg9
             have z9 := U9.out.rcd.frozen 2
             have f9 := U9.out.rcd.cell 2)
          | fail)
        go_roundw
        case rel => exact ⟨j + 1, _, by omega, by go_num, FIN.out _ (U9.out.set_ 2 _), by
          rw [HTK.out false HY, ecells_snoc]
          exact own_set_far O9.out U9.out.rcd (by decide) _⟩
        case measure => simp [intOf]; omega
    · have hd : ¬ (j : Int) < min m0 61 := by omega
      obtain rfl : j = m := by omega
      have hall := X2.out
      have hta := uEs_all bs
      rw [HMM.out] at hta
      rw [hta] at hall
      have O7 := Lib.hid hall
      have hup : uP bs = 11 + stride k * j := by rw [uP, HKK.out, HMM.out]
      have hsm : uSum bs (uP bs) = if k = 2 then (uf bs (11 + stride k * j) 4).toNat else 0 := by rw [hup, uSum, HKK.out]
      have hst' : uSt bs (uP bs) = if k = 4 then uf bs (11 + stride k * j) 4 else 0 := by rw [hup, uSt, HKK.out]
      have HSM := Lib.hid hsm
      have HSU := Lib.hid hst'
      have f0 := X1.out.rcd.cell 0
      clear hall hta hup hsm hst' X2
      have kcs : k = 2 ∨ k = 4 ∨ (k == 2) = false ∧ (k == 4) = false := by
        by_cases h2 : k = 2
        · exact .inl h2
        · by_cases h4 : k = 4
          · exact .inr (.inl h4)
          · exact .inr (.inr ⟨by simpa using h2, by simpa using h4⟩)
      rcases kcs with rfl | rfl | ⟨k2, k4⟩
      · go_wp2_with fail
        refine (next_at X1.out hl hc HB.out 4 (by omega) (by omega) hp0.1 (by omega)).mono ?_
        rintro e wz ⟨rfl, uz, gz⟩
        have ztl := uf_lt bs (11 + stride 2 * j) 4 (by omega)
        obtain ⟨zs, hzs⟩ := uf_nat bs (11 + stride 2 * j) 4
        have HSUM := Lib.hid (show uSum bs (uP bs) = zs by rw [HSM.out]; simp [hzs])
        have HST := Lib.hid (show uSt bs (uP bs) = 0 by rw [HSU.out]; simp)
        rw [hzs] at ztl
        rw [hzs]
        have wzs : IntKind.u32.wrap (zs : Int) = (zs : Int) := by rw [IntKind.wrap_u32]; omega
        have O8a := Lib.hid (O7.out.kept gz (.inr (own_blk_ne O7.out X1.out.cur (by decide)).symm))
        have O8 := Lib.hid (own_set_far (i := 3) O8a.out uz.rcd (by decide) (.int .u32 (zs : Int)))
        have U8 := Lib.hid (uz.set_ 3 (.int .u32 (zs : Int)))
        have t3 := uz.rcd.cell 3
        have y3 := uz.rcd.frozen 3
        clear uz gz O7 X1 hzs HSM HSU f0
        obtain ⟨Av, cv, rfl, hrv, _, _, _, _⟩ := own_sliceN O8.out
        have f0 := U8.out.rcd.cell 0
        have f1 := U8.out.rcd.cell 1
        have f2 := U8.out.rcd.cell 2
        have f3 := U8.out.rcd.cell 3
        have f4 := U8.out.rcd.cell 4
        have HP := Lib.hid (logPack_any 2 x Av j cv zs (0) (uEs bs) (wz.setCell ⟨w2.heap.size, 3, none⟩ (.int .u32 (zs : Int))) (by omega) (by have := uSum_lt bs (uP bs); have := HSUM.out; omega) hrv)
        have hum : uMay bs = rMay 2 x (uEs bs) zs (0) := by rw [uMay, HKK.out, HXX.out, HSUM.out, HST.out]
        have hub : uRB bs = rB 2 x (uEs bs) zs (0) := by rw [uRB, HKK.out, HXX.out, HSUM.out, HST.out]
        have HUM := Lib.hid hum
        have HUB := Lib.hid hub
        clear hrv hum hub
        go_wp2_with fail
        refine HP.out.mono ?_
        rintro e w10 ⟨v10, rfl, hb10, ho10⟩
        clear f0 f1 f2 f3 f4
        have B10 := Lib.hid (below_all U8.out.bel U8.out.bel.size hb10)
        have r10 := U8.out.res.belowAll hb10
        have R10 := Lib.hid r10
        have c10 := U8.out.rcd.belowAll hb10
        have f0 := c10.cell 0
        have f1 := c10.cell 1
        have f2 := c10.cell 2
        have f3 := c10.cell 3
        have f4 := c10.cell 4
        have q0 := r10.cell 0
        have q1 := r10.cell 1
        have q2 := r10.cell 2
        have q3 := r10.cell 3
        have q4 := r10.cell 4
        have z0 := r10.frozen 0
        have z1 := r10.frozen 1
        have z2 := r10.frozen 2
        have z3 := r10.frozen 3
        have z4 := r10.frozen 4
        have OV10 := Lib.hid (own_belowN O8.out hb10)
        have HB10 := Lib.hid (HB.out.below B10.out)
        obtain ⟨A10, c10', rfl, hr10, _, _, _, _⟩ := own_slice ho10
        have R11 := Lib.hid hr10
        clear r10 c10 hb10 ho10 hr10 HP
        cases hmay : rMay 2 x (uEs bs) zs (0)
        · have huo : uOk bs = false := by rw [uOk, HUM.out, hmay]; rfl
          have UV := Lib.hid (show ∀ v, uV bs v = #[.int .i64 0, .int .i64 0, .slice none 0 0, .int .u32 0, .int .i64 0] from fun v => by simp [uV, huo])
          have UE := Lib.hid (show uE bs = 117 by simp [uE, huo])
          have UX := Lib.hid (show uXs bs = [] by simp [uXs, huo])
          have e1 : rE 2 x (uEs bs) zs (0) = 22 := by simp [rE, hmay]
          rw [e1]
          clear e1 huo hmay
          go_wp2_with fail
          refine bodyPost_ret (v := .tuple #[.agg #[.int .i64 0, .int .i64 0, .slice none 0 0, .int .u32 0, .int .i64 0], .int .i64 117]) (by simp [results, Try.results11, go_sem, q0, q1, q2, q3, q4, z0, z1, z2, z3, z4]) rfl ⟨.slice none 0 0, by rw [UV.out, UE.out], ?_⟩
          rw [UX.out]
          exact u_end R10.out B10.out (World.ownsRow_nil _ _ _ _) _ _ _ _ _
        have e1 : rE 2 x (uEs bs) zs (0) = 0 := by simp [rE, hmay]
        rw [e1]
        have HEQ := Lib.hid (equal_any A10 A (rB 2 x (uEs bs) zs (0)).length len c10' cap (rB 2 x (uEs bs) zs (0)) bs w10 R11.out HB10.out)
        cases hq : (rB 2 x (uEs bs) zs (0) == bs)
        · have huo : uOk bs = false := by rw [uOk, HUB.out, hq]; simp
          have UV := Lib.hid (show ∀ v, uV bs v = #[.int .i64 0, .int .i64 0, .slice none 0 0, .int .u32 0, .int .i64 0] from fun v => by simp [uV, huo])
          have UE := Lib.hid (show uE bs = 117 by simp [uE, huo])
          have UX := Lib.hid (show uXs bs = [] by simp [uXs, huo])
          rw [hq] at HEQ
          clear e1 huo hmay hq
          go_wp2_with fail
          refine HEQ.out.mono ?_
          rintro e w11 ⟨rfl, rfl⟩
          go_wp2_with fail
          refine bodyPost_ret (v := .tuple #[.agg #[.int .i64 0, .int .i64 0, .slice none 0 0, .int .u32 0, .int .i64 0], .int .i64 117]) (by simp [results, Try.results11, go_sem, q0, q1, q2, q3, q4, z0, z1, z2, z3, z4]) rfl ⟨.slice none 0 0, by rw [UV.out, UE.out], ?_⟩
          rw [UX.out]
          exact u_end R10.out B10.out (World.ownsRow_nil _ _ _ _) _ _ _ _ _
        · have huo : uOk bs = true := by rw [uOk, HUB.out, hq, HUM.out, hmay]; rfl
          have UV := Lib.hid (show ∀ v, uV bs v = #[.int .i64 (2), .int .i64 x, v, .int .u32 (zs : Int), .int .i64 (0)] from fun v => by simp only [uV, huo, if_true, HKK.out, HXX.out, HSUM.out, HST.out]; try rfl)
          have UE := Lib.hid (show uE bs = 0 by simp [uE, huo])
          have UX := Lib.hid (show uXs bs = uEs bs by simp [uXs, huo])
          rw [hq] at HEQ
          have hlj : (uEs bs).length = j := by rw [uEs_length]; exact HMM.out
          have HLJ := Lib.hid hlj
          clear e1 huo hmay hq hlj
          go_wp2_with fail
          refine HEQ.out.mono ?_
          rintro e w11 ⟨rfl, rfl⟩
          go_wp2_with fail
          refine bodyPost_ret (v := .tuple #[.agg #[.int .i64 2, .int .i64 x, .slice Av j cv, .int .u32 (zs : Int), .int .i64 0], .int .i64 0]) (by simp [results, Try.results11, go_sem, q0, q1, q2, q3, q4, z0, z1, z2, z3, z4]) rfl ⟨_, by rw [UV.out, UE.out], ?_⟩
          rw [UX.out, HLJ.out]
          exact u_end R10.out B10.out OV10.out _ _ _ _ _
      · go_wp2_with fail
        refine (next_at X1.out hl hc HB.out 4 (by omega) (by omega) hp0.1 (by omega)).mono ?_
        rintro e wz ⟨rfl, uz, gz⟩
        obtain ⟨zt, hzt⟩ : ∃ zt, uf bs (11 + stride 4 * j) 4 = zt := ⟨_, rfl⟩
        have HSUM := Lib.hid (show uSum bs (uP bs) = 0 by rw [HSM.out]; simp)
        have HST := Lib.hid (show uSt bs (uP bs) = zt by rw [HSU.out]; simp [hzt])
        rw [hzt]
        have O8a := Lib.hid (O7.out.kept gz (.inr (own_blk_ne O7.out X1.out.cur (by decide)).symm))
        have O8 := Lib.hid (own_set_far (i := 4) O8a.out uz.rcd (by decide) (.int .i64 zt))
        have U8 := Lib.hid (uz.set_ 4 (.int .i64 zt))
        have t3 := uz.rcd.cell 4
        have y3 := uz.rcd.frozen 4
        clear uz gz O7 X1 hzt HSM HSU f0
        obtain ⟨Av, cv, rfl, hrv, _, _, _, _⟩ := own_sliceN O8.out
        have f0 := U8.out.rcd.cell 0
        have f1 := U8.out.rcd.cell 1
        have f2 := U8.out.rcd.cell 2
        have f3 := U8.out.rcd.cell 3
        have f4 := U8.out.rcd.cell 4
        have HP := Lib.hid (logPack_any 4 x Av j cv 0 (zt) (uEs bs) (wz.setCell ⟨w2.heap.size, 4, none⟩ (.int .i64 zt)) (by omega) (by have := uSum_lt bs (uP bs); have := HSUM.out; omega) hrv)
        have hum : uMay bs = rMay 4 x (uEs bs) 0 (zt) := by rw [uMay, HKK.out, HXX.out, HSUM.out, HST.out]
        have hub : uRB bs = rB 4 x (uEs bs) 0 (zt) := by rw [uRB, HKK.out, HXX.out, HSUM.out, HST.out]
        have HUM := Lib.hid hum
        have HUB := Lib.hid hub
        clear hrv hum hub
        go_wp2_with fail
        refine HP.out.mono ?_
        rintro e w10 ⟨v10, rfl, hb10, ho10⟩
        clear f0 f1 f2 f3 f4
        have B10 := Lib.hid (below_all U8.out.bel U8.out.bel.size hb10)
        have r10 := U8.out.res.belowAll hb10
        have R10 := Lib.hid r10
        have c10 := U8.out.rcd.belowAll hb10
        have f0 := c10.cell 0
        have f1 := c10.cell 1
        have f2 := c10.cell 2
        have f3 := c10.cell 3
        have f4 := c10.cell 4
        have q0 := r10.cell 0
        have q1 := r10.cell 1
        have q2 := r10.cell 2
        have q3 := r10.cell 3
        have q4 := r10.cell 4
        have z0 := r10.frozen 0
        have z1 := r10.frozen 1
        have z2 := r10.frozen 2
        have z3 := r10.frozen 3
        have z4 := r10.frozen 4
        have OV10 := Lib.hid (own_belowN O8.out hb10)
        have HB10 := Lib.hid (HB.out.below B10.out)
        obtain ⟨A10, c10', rfl, hr10, _, _, _, _⟩ := own_slice ho10
        have R11 := Lib.hid hr10
        clear r10 c10 hb10 ho10 hr10 HP
        cases hmay : rMay 4 x (uEs bs) 0 (zt)
        · have huo : uOk bs = false := by rw [uOk, HUM.out, hmay]; rfl
          have UV := Lib.hid (show ∀ v, uV bs v = #[.int .i64 0, .int .i64 0, .slice none 0 0, .int .u32 0, .int .i64 0] from fun v => by simp [uV, huo])
          have UE := Lib.hid (show uE bs = 117 by simp [uE, huo])
          have UX := Lib.hid (show uXs bs = [] by simp [uXs, huo])
          have e1 : rE 4 x (uEs bs) 0 (zt) = 22 := by simp [rE, hmay]
          rw [e1]
          clear e1 huo hmay
          go_wp2_with fail
          refine bodyPost_ret (v := .tuple #[.agg #[.int .i64 0, .int .i64 0, .slice none 0 0, .int .u32 0, .int .i64 0], .int .i64 117]) (by simp [results, Try.results11, go_sem, q0, q1, q2, q3, q4, z0, z1, z2, z3, z4]) rfl ⟨.slice none 0 0, by rw [UV.out, UE.out], ?_⟩
          rw [UX.out]
          exact u_end R10.out B10.out (World.ownsRow_nil _ _ _ _) _ _ _ _ _
        have e1 : rE 4 x (uEs bs) 0 (zt) = 0 := by simp [rE, hmay]
        rw [e1]
        have HEQ := Lib.hid (equal_any A10 A (rB 4 x (uEs bs) 0 (zt)).length len c10' cap (rB 4 x (uEs bs) 0 (zt)) bs w10 R11.out HB10.out)
        cases hq : (rB 4 x (uEs bs) 0 (zt) == bs)
        · have huo : uOk bs = false := by rw [uOk, HUB.out, hq]; simp
          have UV := Lib.hid (show ∀ v, uV bs v = #[.int .i64 0, .int .i64 0, .slice none 0 0, .int .u32 0, .int .i64 0] from fun v => by simp [uV, huo])
          have UE := Lib.hid (show uE bs = 117 by simp [uE, huo])
          have UX := Lib.hid (show uXs bs = [] by simp [uXs, huo])
          rw [hq] at HEQ
          clear e1 huo hmay hq
          go_wp2_with fail
          refine HEQ.out.mono ?_
          rintro e w11 ⟨rfl, rfl⟩
          go_wp2_with fail
          refine bodyPost_ret (v := .tuple #[.agg #[.int .i64 0, .int .i64 0, .slice none 0 0, .int .u32 0, .int .i64 0], .int .i64 117]) (by simp [results, Try.results11, go_sem, q0, q1, q2, q3, q4, z0, z1, z2, z3, z4]) rfl ⟨.slice none 0 0, by rw [UV.out, UE.out], ?_⟩
          rw [UX.out]
          exact u_end R10.out B10.out (World.ownsRow_nil _ _ _ _) _ _ _ _ _
        · have huo : uOk bs = true := by rw [uOk, HUB.out, hq, HUM.out, hmay]; rfl
          have UV := Lib.hid (show ∀ v, uV bs v = #[.int .i64 (4), .int .i64 x, v, .int .u32 (0 : Int), .int .i64 (zt)] from fun v => by simp only [uV, huo, if_true, HKK.out, HXX.out, HSUM.out, HST.out]; try rfl)
          have UE := Lib.hid (show uE bs = 0 by simp [uE, huo])
          have UX := Lib.hid (show uXs bs = uEs bs by simp [uXs, huo])
          rw [hq] at HEQ
          have hlj : (uEs bs).length = j := by rw [uEs_length]; exact HMM.out
          have HLJ := Lib.hid hlj
          clear e1 huo hmay hq hlj
          go_wp2_with fail
          refine HEQ.out.mono ?_
          rintro e w11 ⟨rfl, rfl⟩
          go_wp2_with fail
          refine bodyPost_ret (v := .tuple #[.agg #[.int .i64 4, .int .i64 x, .slice Av j cv, .int .u32 (0 : Int), .int .i64 zt], .int .i64 0]) (by simp [results, Try.results11, go_sem, q0, q1, q2, q3, q4, z0, z1, z2, z3, z4]) rfl ⟨_, by rw [UV.out, UE.out], ?_⟩
          rw [UX.out, HLJ.out]
          exact u_end R10.out B10.out OV10.out _ _ _ _ _
      · have HSUM := Lib.hid (show uSum bs (uP bs) = 0 by rw [HSM.out, if_neg (by simpa using k2)])
        have HST := Lib.hid (show uSt bs (uP bs) = 0 by rw [HSU.out, if_neg (by simpa using k4)])
        have O8 := O7
        have U8 := X1
        clear O7 X1 HSM HSU f0
        obtain ⟨Av, cv, rfl, hrv, _, _, _, _⟩ := own_sliceN O8.out
        have f0 := U8.out.rcd.cell 0
        have f1 := U8.out.rcd.cell 1
        have f2 := U8.out.rcd.cell 2
        have f3 := U8.out.rcd.cell 3
        have f4 := U8.out.rcd.cell 4
        have HP := Lib.hid (logPack_any k x Av j cv 0 (0) (uEs bs) wr (by omega) (by have := uSum_lt bs (uP bs); have := HSUM.out; omega) hrv)
        have hum : uMay bs = rMay k x (uEs bs) 0 (0) := by rw [uMay, HKK.out, HXX.out, HSUM.out, HST.out]
        have hub : uRB bs = rB k x (uEs bs) 0 (0) := by rw [uRB, HKK.out, HXX.out, HSUM.out, HST.out]
        have HUM := Lib.hid hum
        have HUB := Lib.hid hub
        clear hrv hum hub
        go_wp2_with fail
        refine HP.out.mono ?_
        rintro e w10 ⟨v10, rfl, hb10, ho10⟩
        clear f0 f1 f2 f3 f4
        have B10 := Lib.hid (below_all U8.out.bel U8.out.bel.size hb10)
        have r10 := U8.out.res.belowAll hb10
        have R10 := Lib.hid r10
        have c10 := U8.out.rcd.belowAll hb10
        have f0 := c10.cell 0
        have f1 := c10.cell 1
        have f2 := c10.cell 2
        have f3 := c10.cell 3
        have f4 := c10.cell 4
        have q0 := r10.cell 0
        have q1 := r10.cell 1
        have q2 := r10.cell 2
        have q3 := r10.cell 3
        have q4 := r10.cell 4
        have z0 := r10.frozen 0
        have z1 := r10.frozen 1
        have z2 := r10.frozen 2
        have z3 := r10.frozen 3
        have z4 := r10.frozen 4
        have OV10 := Lib.hid (own_belowN O8.out hb10)
        have HB10 := Lib.hid (HB.out.below B10.out)
        obtain ⟨A10, c10', rfl, hr10, _, _, _, _⟩ := own_slice ho10
        have R11 := Lib.hid hr10
        clear r10 c10 hb10 ho10 hr10 HP
        cases hmay : rMay k x (uEs bs) 0 (0)
        · have huo : uOk bs = false := by rw [uOk, HUM.out, hmay]; rfl
          have UV := Lib.hid (show ∀ v, uV bs v = #[.int .i64 0, .int .i64 0, .slice none 0 0, .int .u32 0, .int .i64 0] from fun v => by simp [uV, huo])
          have UE := Lib.hid (show uE bs = 117 by simp [uE, huo])
          have UX := Lib.hid (show uXs bs = [] by simp [uXs, huo])
          have e1 : rE k x (uEs bs) 0 (0) = 22 := by simp [rE, hmay]
          rw [e1]
          clear e1 huo hmay
          go_wp2_with fail
          refine bodyPost_ret (v := .tuple #[.agg #[.int .i64 0, .int .i64 0, .slice none 0 0, .int .u32 0, .int .i64 0], .int .i64 117]) (by simp [results, Try.results11, go_sem, q0, q1, q2, q3, q4, z0, z1, z2, z3, z4]) rfl ⟨.slice none 0 0, by rw [UV.out, UE.out], ?_⟩
          rw [UX.out]
          exact u_end R10.out B10.out (World.ownsRow_nil _ _ _ _) _ _ _ _ _
        have e1 : rE k x (uEs bs) 0 (0) = 0 := by simp [rE, hmay]
        rw [e1]
        have HEQ := Lib.hid (equal_any A10 A (rB k x (uEs bs) 0 (0)).length len c10' cap (rB k x (uEs bs) 0 (0)) bs w10 R11.out HB10.out)
        cases hq : (rB k x (uEs bs) 0 (0) == bs)
        · have huo : uOk bs = false := by rw [uOk, HUB.out, hq]; simp
          have UV := Lib.hid (show ∀ v, uV bs v = #[.int .i64 0, .int .i64 0, .slice none 0 0, .int .u32 0, .int .i64 0] from fun v => by simp [uV, huo])
          have UE := Lib.hid (show uE bs = 117 by simp [uE, huo])
          have UX := Lib.hid (show uXs bs = [] by simp [uXs, huo])
          rw [hq] at HEQ
          clear e1 huo hmay hq
          go_wp2_with fail
          refine HEQ.out.mono ?_
          rintro e w11 ⟨rfl, rfl⟩
          go_wp2_with fail
          refine bodyPost_ret (v := .tuple #[.agg #[.int .i64 0, .int .i64 0, .slice none 0 0, .int .u32 0, .int .i64 0], .int .i64 117]) (by simp [results, Try.results11, go_sem, q0, q1, q2, q3, q4, z0, z1, z2, z3, z4]) rfl ⟨.slice none 0 0, by rw [UV.out, UE.out], ?_⟩
          rw [UX.out]
          exact u_end R10.out B10.out (World.ownsRow_nil _ _ _ _) _ _ _ _ _
        · have huo : uOk bs = true := by rw [uOk, HUB.out, hq, HUM.out, hmay]; rfl
          have UV := Lib.hid (show ∀ v, uV bs v = #[.int .i64 (k), .int .i64 x, v, .int .u32 (0 : Int), .int .i64 (0)] from fun v => by simp only [uV, huo, if_true, HKK.out, HXX.out, HSUM.out, HST.out]; try rfl)
          have UE := Lib.hid (show uE bs = 0 by simp [uE, huo])
          have UX := Lib.hid (show uXs bs = uEs bs by simp [uXs, huo])
          rw [hq] at HEQ
          have hlj : (uEs bs).length = j := by rw [uEs_length]; exact HMM.out
          have HLJ := Lib.hid hlj
          clear e1 huo hmay hq hlj
          go_wp2_with fail
          refine HEQ.out.mono ?_
          rintro e w11 ⟨rfl, rfl⟩
          go_wp2_with fail
          refine bodyPost_ret (v := .tuple #[.agg #[.int .i64 k, .int .i64 x, .slice Av j cv, .int .u32 (0 : Int), .int .i64 0], .int .i64 0]) (by simp [results, Try.results11, go_sem, q0, q1, q2, q3, q4, z0, z1, z2, z3, z4]) rfl ⟨_, by rw [UV.out, UE.out], ?_⟩
          rw [UX.out, HLJ.out]
          exact u_end R10.out B10.out OV10.out _ _ _ _ _
end Go.Proofs.Ytifamhmiibhohaa.Log
