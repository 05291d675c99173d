
/-
  THE WALKS of layer 1's reference: fits, small, Get, sum.
  WORDS: append onto a row of one's own, for the walk. Bytes and 64-bit numbers.
  WORDS: rows of one's own of any element; append onto them, for the walk and at a step of a region that draws; bytes.Equal.
  A LAW for regions that draw their order, walked in the text's order: some operations are taken first (their value is the same in every world that meets S), some are forced (none but they can come up) and are carried out, S being shown anew; where no more of the world turns, the rest is walked still. No program in sight.
  THE WALKS of layer 1's law: lent, marked; the reference's Copied.
  layer 1: Put and Seal upon a row of one's own, the program's and the reference's; the reference's Sealed.
  THE WALK of layer 1's law: awake.
  WORDS: slices of integers that came in, as bytes, ints, numbers. No program in sight.
-/
import Derived.Test.YtifamhmiibhohaaProg
import Derived.Test.YtifamhmiibhohaaKR5N1
import Derived.Laws.AppendOwnNone
import Derived.Shelf.Bytes.SlEqualAll
import Derived.Deep.RegionHeld3
import Derived.StillTailTactics
import Derived.WalkKit
import Derived.Lib.Hide
import Derived.Test.YtifamhmiibhohaaKR5N2
import Derived.Lib.SlBytesConst
import Derived.OpenShut
namespace Go.Proofs.Ytifamhmiibhohaa.Wire
open Go.RowKit
set_option maxHeartbeats 8000000
set_option maxRecDepth 100000
set_option linter.unusedVariables false
set_option linter.unusedSimpArgs false

theorem ref_fits (A : Option Addr) (len cap : Nat) (at_ n : Int) (w : World) (hl : len ≤ 9223372036854775807) :
    Calls Try.prog 58 #[.slice A len cap, .int .i64 at_, .int .i64 n] w fun e w' => e = .returned (.bool (fits len at_ n)) ∧ w = w' := by
  cases hf : fits len at_ n
  · have h := fits_false hf
    clear hf
    by_cases h1 : n < 1
    · clear h
      have d1 : decide (1 ≤ n) = false := by simp; omega
      go_enter Try.func58, Try.ntmps58
      go_wp2_with fail
      go_ret
      exact ⟨rfl, rfl⟩
    have d1 : decide (1 ≤ n) = true := by simp; omega
    by_cases h2 : 8 < n
    · clear h
      have d2 : decide (n ≤ 8) = false := by simp; omega
      go_enter Try.func58, Try.ntmps58
      go_wp2_with fail
      go_ret
      exact ⟨rfl, rfl⟩
    have d2 : decide (n ≤ 8) = true := by simp; omega
    by_cases h3 : at_ < 0
    · clear h
      have d3 : decide (0 ≤ at_) = false := by simp; omega
      go_enter Try.func58, Try.ntmps58
      go_wp2_with fail
      go_ret
      exact ⟨rfl, rfl⟩
    have d3 : decide (0 ≤ at_) = true := by simp; omega
    by_cases h4 : (len : Int) < at_
    · clear h
      have d4 : decide (at_ ≤ (len : Int)) = false := by simp; omega
      go_enter Try.func58, Try.ntmps58
      go_wp2_with fail
      go_ret
      exact ⟨rfl, rfl⟩
    have d4 : decide (at_ ≤ (len : Int)) = true := by simp; omega
    have h5 : (len : Int) - at_ < n := by omega
    have d5 : decide (n ≤ (len : Int) - at_) = false := by simp; omega
    clear h
    go_enter Try.func58, Try.ntmps58
    go_wp2_with fail
    go_ret
    exact ⟨rfl, rfl⟩
  · obtain ⟨h1, h2, h3, h4, h5⟩ := fits_true hf
    have d1 : decide (1 ≤ n) = true := by simp; omega
    have d2 : decide (n ≤ 8) = true := by simp; omega
    have d3 : decide (0 ≤ at_) = true := by simp; omega
    have d4 : decide (at_ ≤ (len : Int)) = true := by simp; omega
    have d5 : decide (n ≤ (len : Int) - at_) = true := by simp; omega
    clear hf
    go_enter Try.func58, Try.ntmps58
    go_wp2_with fail
    go_ret
    exact ⟨rfl, rfl⟩

theorem div_step (x k : Nat) : x / 256 ^ k / 256 = x / 256 ^ (k + 1) := by rw [Nat.div_div_eq_div_mul, Nat.pow_succ]

theorem ref_small (x : Nat) (n : Nat) (w : World) (hx : x < 18446744073709551616) (hn : n ≤ 9223372036854775807) :
    Calls Try.prog 59 #[.int .u64 (x : Int), .int .i64 (n : Int)] w fun e w' => e = .returned (.bool (decide (x < 256 ^ n))) ∧ w = w' := by
  have HX := Lib.hid hx
  clear hx
  go_enter Try.func59, Try.ntmps59
  go_wp2_with fail
  go_loop [0, 5] (fun y i => ∃ k : Nat, k ≤ n ∧ i = .int .i64 k ∧ y = .int .u64 ((x / 256 ^ k : Nat) : Int)) (fun _ i => n - (intOf i).toNat)
  case atStart => exact ⟨0, by omega, rfl, by simp⟩
  case round =>
    obtain ⟨k, hk, rfl, rfl⟩ := hrel
    have hs := div_step x k
    have hlt64 : x / 256 ^ k < 18446744073709551616 := Nat.lt_of_le_of_lt (Nat.div_le_self _ _) HX.out
    have hz : x / 256 ^ n = 0 ↔ x < 256 ^ n := Nat.div_eq_zero_iff_lt (Nat.pow_pos (by omega))
    have HS := Lib.hid hs
    have HZ := Lib.hid hz
    clear hs hz
    by_cases hlt : k < n
    · generalize x / 256 ^ k = y at HS hlt64 ⊢
      have hq : (y : Int) / 256 = ((y / 256 : Nat) : Int) := by omega
      have HQ := Lib.hid hq
      clear hq
      go_wp2_with fail
      go_round
      case rel => exact ⟨k + 1, by omega, by go_num, by rw [HQ.out, HS.out]⟩
      case measure => simp [intOf]; omega
    · obtain rfl : k = n := by omega
      have hd : decide (x < 256 ^ k) = ((x / 256 ^ k : Nat) == 0) := by rw [Bool.eq_iff_iff]; simp [HZ.out]
      have HD := Lib.hid hd
      clear hd HZ
      generalize x / 256 ^ k = y at HS hlt64 HD ⊢
      cases hy : (y == 0)
      · have hy' : ((y : Int) == 0) = false := by simp at hy ⊢; omega
        have HY := Lib.hid hy
        clear hy
        go_wp2_with fail
        go_ret
        exact ⟨ret_bool (by rw [HD.out, HY.out]), rfl⟩
      · have hy' : ((y : Int) == 0) = true := by simp at hy ⊢; omega
        have HY := Lib.hid hy
        clear hy
        go_wp2_with fail
        go_ret
        exact ⟨ret_bool (by rw [HD.out, HY.out]), rfl⟩

theorem num_drop {bs : List UInt8} {k : Nat} {c : UInt8} (h : bs[k]? = some c) : num (bs.drop k) = c.toNat + 256 * num (bs.drop (k + 1)) := by
  rw [List.drop_eq_getElem_cons (List.getElem?_eq_some_iff.mp h).1, (List.getElem?_eq_some_iff.mp h).2]; rfl

theorem ref_sum (A : Option Addr) (n cap : Nat) (ws : List Int) (w : World) (hn : n ≤ 1125899906842624) (hr : RowAt w A n (ints ws)) :
    Calls Try.prog 51 #[.slice A n cap] w fun e w' => e = .returned (.tuple #[.int .i64 (if wok ws = true then ws.sum else 0), .bool (wok ws)]) ∧ w = w' := by
  have hlen : ws.length = n := by have := hr.len; simpa [ints] using this
  cases hw : wok ws
  · obtain ⟨j, y, hj, hy, hpre⟩ := wok_false ws hw
    have hjn : j < n := by rw [← hlen]; exact (List.getElem?_eq_some_iff.1 hj).1
    have HR := Lib.hid hr
    have HJ := Lib.hid hj
    have HP := Lib.hid hpre
    have hbad : y < 1 ∨ 8 < y := by simp [wok1] at hy; omega
    have HBAD := Lib.hid hbad
    have hif : (if false = true then ws.sum else 0) = 0 := by simp
    rw [hif]
    clear hr hw hj hpre hy hbad hif
    go_enter Try.func51, Try.ntmps51
    go_wp2_with fail
    go_loop [4, 5] (fun x i => ∃ k : Nat, k ≤ j ∧ i = .int .i64 k ∧ x = .int .i64 (ws.take k).sum) (fun _ i => n - (intOf i).toNat)
    case atStart => exact ⟨0, by omega, rfl, rfl⟩
    case round =>
      obtain ⟨k, hk, rfl, rfl⟩ := hrel
      have hlt : k < n := by omega
      have hsk : 0 ≤ (ws.take k).sum ∧ (ws.take k).sum ≤ 8 * k := by
        have h1 := wok_take HP.out k
        rw [List.take_take, Nat.min_eq_left hk] at h1
        have := wsum_le _ h1
        have h3 : (ws.take k).length ≤ k := List.length_take_le _ _
        omega
      obtain ⟨s0, s1⟩ := hsk
      by_cases hkj : k < j
      · obtain ⟨a, z, rfl, hz, hc⟩ := HR.out.int_at hlt
        have hz' : (ws.take j)[k]? = some z := by rw [List.getElem?_take, if_pos hkj]; exact hz
        obtain ⟨z1, z2⟩ := wok_at HP.out hz'
        have hs := wsum_succ hz
        have HS := Lib.hid hs
        have HZ := Lib.hid hz
        clear hs hz hz'
        have hd : decide (z < 1) = false := by simp; omega
        have hd2 : decide (8 < z) = false := by simp; omega
        go_wp2_with fail
        go_round
        case rel => exact ⟨k + 1, by omega, by go_num, by rw [HS.out]⟩
        case measure => simp [intOf]; omega
      · obtain rfl : k = j := by omega
        obtain ⟨a, z, rfl, hz, hc⟩ := HR.out.int_at hlt
        obtain rfl : z = y := by have := HJ.out; rw [hz] at this; injection this
        have HZ := Lib.hid hz
        clear hz
        rcases HBAD.out with hb | hb
        · have hd : decide (z < 1) = true := by simp; omega
          go_wp2_with fail
          go_ret2
          exact ⟨rfl, rfl⟩
        · have hd : decide (z < 1) = false := by simp; omega
          have hd2 : decide (8 < z) = true := by simp; omega
          go_wp2_with fail
          go_ret2
          exact ⟨rfl, rfl⟩
  · have HR := Lib.hid hr
    have HW := Lib.hid hw
    have hif : (if true = true then ws.sum else 0) = ws.sum := by simp
    rw [hif]
    clear hr hw hif
    go_enter Try.func51, Try.ntmps51
    go_wp2_with fail
    go_loop [4, 5] (fun x i => ∃ k : Nat, k ≤ n ∧ i = .int .i64 k ∧ x = .int .i64 (ws.take k).sum) (fun _ i => n - (intOf i).toNat)
    case atStart => exact ⟨0, by omega, rfl, rfl⟩
    case round =>
      obtain ⟨k, hk, rfl, rfl⟩ := hrel
      obtain ⟨s0, s1⟩ := wsum_mono HW.out k
      have s2 := (wsum_le _ HW.out).2
      by_cases hlt : k < n
      · obtain ⟨a, z, rfl, hz, hc⟩ := HR.out.int_at hlt
        obtain ⟨z1, z2⟩ := wok_at HW.out hz
        have hs := wsum_succ hz
        have HS := Lib.hid hs
        have HZ := Lib.hid hz
        clear hs hz
        have hd : decide (z < 1) = false := by simp; omega
        have hd2 : decide (8 < z) = false := by simp; omega
        go_wp2_with fail
        go_round
        case rel => exact ⟨k + 1, by omega, by go_num, by rw [HS.out]⟩
        case measure => simp [intOf]; omega
      · obtain rfl : k = n := by omega
        have hs : ws.take k = ws := List.take_of_length_le (by omega)
        rw [hs]
        clear hs
        go_wp2_with fail
        go_ret2
        exact ⟨rfl, rfl⟩
end Go.Proofs.Ytifamhmiibhohaa.Wire

namespace Go.Proofs.Ytifamhmiibhohaa
open Go.RowKit
set_option linter.unusedVariables false
set_option linter.unusedSimpArgs false

theorem infoU8 : (Try.prog.info? 5).map (fun i => (i.zero, i.size, i.bytes)) = some (some (.int .u8 0), 1, 1) := by kernel_rfl
theorem infoU64 : (Try.prog.info? 79).map (fun i => (i.zero, i.size, i.bytes)) = some (some (.int .u64 0), 1, 8) := by kernel_rfl

theorem app_u8 (w : World) {ops : Array Oper} {rest : List Oper} {o : Oper} {a : Act} {Q : Exit → Act → World → Prop} (hgd : o.guard = none) (s x : Operand)
    (ho : o.op = .call { callee := .builtin .append, args := #[s, x], argTypes := #[31, 31] })
    (base : Nat) (v : Value) (n : Nat) (xs : List Value) (hs : a.eval s = v) (hown : w.ownsRow base 5 1 v n xs)
    (A : Option Addr) (m c : Nat) (bs : List UInt8) (hx : a.eval x = .slice A m c) (hA : A = none → m = 0 ∧ c = 0) (hb : BytesAt w A m bs)
    (hbd : n + m ≤ 140737488355328) (hbase : base ≤ w.heap.size)
    (h : ∀ v' w', w'.ownsRow base 5 1 v' (n + m) (xs ++ bvl bs) → w.grownBy w' v.ownBlock → wpList Try.prog ops Q rest (a.put o.dst v') w') : wpList Try.prog ops Q (o :: rest) a w := by
  obtain ⟨i0, hi, hz0, hz1, hz2⟩ := info_parts infoU8
  cases A with
  | none =>
    obtain ⟨rfl, rfl⟩ := hA rfl
    have e : bs = [] := List.eq_nil_of_length_eq_zero hb.len
    subst e
    exact wpList_append_own_none hgd s x 31 ho base 5 i0 1 Try.underlying31 hi v n xs hs hown hx (h v w (by simpa [bvl] using hown) (World.grownBy.refl _ _))
  | some ad =>
    have hbl := hb.len
    refine wpList_append_own w hgd s x 31 ho base 5 i0 (.int .u8 0) 1 1 Try.underlying31 hi hz0 hz1 hz2 rfl (by decide) v n xs hs hown ad m c (bvl bs) hx (by rw [bvl_length]; omega) ?_ ?_ (by unfold maxLen; omega) (by omega) hbase (fun v' w' h1 h2 _ => h v' w' h1 h2)
    · intro j u hu
      obtain ⟨a', e', hc⟩ := hb.row.2 (by rw [← hbl]; have := (List.getElem?_eq_some_iff.1 hu).1; rw [bvl_length] at this; omega)
      obtain rfl : ad = a' := by simpa using e'
      exact hc j u hu
    · intro u hu
      simp only [bvl, List.mem_map] at hu
      obtain ⟨y, _, rfl⟩ := hu
      rfl

theorem app_u64 (w : World) {ops : Array Oper} {rest : List Oper} {o : Oper} {a : Act} {Q : Exit → Act → World → Prop} (hgd : o.guard = none) (s x : Operand)
    (ho : o.op = .call { callee := .builtin .append, args := #[s, x], argTypes := #[68, 68] })
    (base : Nat) (v : Value) (n : Nat) (xs : List Value) (hs : a.eval s = v) (hown : w.ownsRow base 79 1 v n xs)
    (ad : Addr) (c : Nat) (y : Nat) (hx : a.eval x = .slice (some ad) 1 c) (hb : w.cell? ad = some (.int .u64 (y : Int)))
    (hbd : n + 1 ≤ 17592186044416) (hbase : base ≤ w.heap.size)
    (h : ∀ v' w', w'.ownsRow base 79 1 v' (n + 1) (xs ++ nums [y]) → w.grownBy w' v.ownBlock → wpList Try.prog ops Q rest (a.put o.dst v') w') : wpList Try.prog ops Q (o :: rest) a w := by
  obtain ⟨i0, hi, hz0, hz1, hz2⟩ := info_parts infoU64
  refine wpList_append_own w hgd s x 68 ho base 79 i0 (.int .u64 0) 1 8 Try.underlying68 hi hz0 hz1 hz2 rfl (by decide) v n xs hs hown ad 1 c (nums [y]) hx (by simp [nums]) ?_ ?_ (by unfold maxLen; omega) (by omega) hbase (fun v' w' h1 h2 _ => h v' w' h1 h2)
  · intro j u hu
    cases j with
    | zero => simp [nums] at hu; subst hu; rw [show ad.add 0 = ad by unfold Addr.add; simp]; exact hb
    | succ j => simp [nums] at hu
  · intro u hu
    simp [nums] at hu; subst hu; rfl

/-- What a row of one's own is, spelt out. -/
theorem own_form {w : World} {base : Nat} {t : TypeId} {v : Value} {n : Nat} {xs : List Value} (h : w.ownsRow base t 1 v n xs) (hn : 0 < n) :
    ∃ g cap cs, v = .slice (some ⟨g, 0, none⟩) n cap ∧ base ≤ g ∧ Blk w g t cs ∧ n ≤ cap ∧ cap ≤ maxLen ∧ cs.size = cap := by
  rcases h.2 with ⟨_, e⟩ | ⟨g, cap, cs, h1, h2, h3, h4, h5, h6, _⟩
  · omega
  · exact ⟨g, cap, cs, h1, h2, h3, h4, h5, by omega⟩
theorem own_blk {w : World} {base g n cap : Nat} {t : TypeId} {xs : List Value} (h : w.ownsRow base t 1 (.slice (some ⟨g, 0, none⟩) n cap) n xs) :
    ∃ cs, base ≤ g ∧ Blk w g t cs ∧ n ≤ cap ∧ cap ≤ maxLen ∧ cs.size = cap := by
  rcases h.2 with ⟨e, _⟩ | ⟨g', cap', cs, h1, h2, h3, h4, h5, h6, _⟩
  · cases e
  · injection h1 with e1 e2 e3
    obtain rfl : g = g' := by injection e1 with e1; injection e1
    subst e3
    exact ⟨cs, h2, h3, h4, h5, by omega⟩
/-- Any value that owns bytes is a slice of them. -/
theorem own_slice {w : World} {base : Nat} {v : Value} {n : Nat} {bs : List UInt8} (h : w.ownsRow base 5 1 v n (bvl bs)) :
    ∃ A cap, v = .slice A n cap ∧ BytesAt w A n bs ∧ n ≤ cap ∧ cap ≤ maxLen ∧ (A = none → n = 0 ∧ cap = 0) ∧ (∀ a, A = some a → base ≤ a.block) := by
  rcases h.2 with ⟨e, e0⟩ | ⟨g, cap, cs, h1, h2, h3, h4, h5, h6, _⟩
  · subst e e0
    have : bs = [] := List.eq_nil_of_length_eq_zero (by have := h.1; simpa [bvl_length] using this)
    subst this
    exact ⟨none, 0, rfl, BytesAt.nil_ _ _, Nat.le_refl _, by unfold maxLen; omega, fun _ => ⟨rfl, rfl⟩, fun a ha => by cases ha⟩
  · subst h1
    exact ⟨_, cap, rfl, BytesAt.of_own h, h4, h5, (fun e => by cases e), fun a ha => by injection ha with ha; subst ha; exact h2⟩
theorem own_slice64 {w : World} {base : Nat} {v : Value} {n : Nat} {l : List Nat} (h : w.ownsRow base 79 1 v n (nums l)) :
    ∃ A cap, v = .slice A n cap ∧ RowAt w A n (nums l) ∧ n ≤ cap ∧ cap ≤ maxLen ∧ (∀ a, A = some a → base ≤ a.block) := by
  rcases h.2 with ⟨e, e0⟩ | ⟨g, cap, cs, h1, h2, h3, h4, h5, h6, _⟩
  · subst e e0
    have : nums l = [] := List.eq_nil_of_length_eq_zero (by have := h.1; simpa using this)
    rw [this]
    exact ⟨none, 0, rfl, RowAt.nil_ _ _, Nat.le_refl _, by unfold maxLen; omega, fun a ha => by cases ha⟩
  · subst h1
    exact ⟨_, cap, rfl, RowAt.of_own h, h4, h5, fun a ha => by injection ha with ha; subst ha; exact h2⟩
/-- A row of one's own stays, where only below its base nothing is promised but all else is. -/
theorem own_below {w w' : World} {base : Nat} {t : TypeId} {v : Value} {n : Nat} {xs : List Value} (h : w.ownsRow base t 1 v n xs) (hb : Below w.heap.size w w') : w'.ownsRow base t 1 v n xs :=
  h.kept (row := none) (only_of_below hb none) (by cases v.ownBlock with | none => exact .inl rfl | some k => exact .inr (by simp))
theorem own_grown {w w' : World} {base g : Nat} {t : TypeId} {v : Value} {n : Nat} {xs : List Value} (h : w.ownsRow base t 1 v n xs) (hb : w.grownBy w' (some g)) (hne : v.ownBlock ≠ some g) : w'.ownsRow base t 1 v n xs :=
  h.kept hb (.inr hne)
theorem below_own {a w w' : World} {base : Nat} {t : TypeId} {v : Value} {n : Nat} {xs : List Value} (h : w.ownsRow base t 1 v n xs) (hb : Below a.heap.size a w) (hbase : a.heap.size ≤ base) (hg : w.grownBy w' v.ownBlock) : Below a.heap.size a w' :=
  below_only hb hg (fun g e => Nat.le_trans hbase (h.lt g e).1)
end Go.Proofs.Ytifamhmiibhohaa

namespace Go.Proofs.Ytifamhmiibhohaa
open Go.RowKit
set_option linter.unusedVariables false
set_option linter.unusedSimpArgs false
section
variable {w w' : World}

theorem own_formN {base size : Nat} {t : TypeId} {v : Value} {n : Nat} {xs : List Value} (h : w.ownsRow base t size v n xs) (hn : 0 < n) :
    ∃ g cap cs, v = .slice (some ⟨g, 0, none⟩) n cap ∧ base ≤ g ∧ Blk w g t cs ∧ n ≤ cap ∧ cap ≤ maxLen ∧ cs.size = cap * size := by
  rcases h.2 with ⟨_, e⟩ | ⟨g, cap, cs, h1, h2, h3, h4, h5, h6, _⟩
  · omega
  · exact ⟨g, cap, cs, h1, h2, h3, h4, h5, h6⟩
theorem rowAt_ownN {base size : Nat} {t : TypeId} {A : Option Addr} {n c : Nat} {xs : List Value} (h : w.ownsRow base t size (.slice A n c) n xs) : RowAt w A (n * size) xs := by
  refine ⟨h.1, fun hn => ?_⟩
  have hn' : 0 < n := Nat.pos_of_mul_pos_right hn
  obtain ⟨g, cap, hv, _, hlt⟩ := h.form hn'
  have hA : A = some ⟨g, 0, none⟩ := by injection hv
  subst hA
  exact ⟨_, rfl, h.cells (g := g) rfl⟩
/-- Any value that owns a row is a slice of it. -/
theorem own_sliceN {base size : Nat} {t : TypeId} {v : Value} {n : Nat} {xs : List Value} (h : w.ownsRow base t size v n xs) :
    ∃ A cap, v = .slice A n cap ∧ RowAt w A (n * size) xs ∧ n ≤ cap ∧ cap ≤ maxLen ∧ (A = none → n = 0 ∧ cap = 0) ∧ (∀ a, A = some a → base ≤ a.block) := by
  rcases h.2 with ⟨e, e0⟩ | ⟨g, cap, cs, h1, h2, h3, h4, h5, h6, _⟩
  · subst e e0
    exact ⟨none, 0, rfl, rowAt_ownN h, Nat.le_refl _, by unfold maxLen; omega, fun _ => ⟨rfl, rfl⟩, fun a ha => by cases ha⟩
  · subst h1
    exact ⟨_, cap, rfl, rowAt_ownN h, h4, h5, (fun e => by cases e), fun a ha => by injection ha with ha; subst ha; exact h2⟩
theorem own_belowN {base size : Nat} {t : TypeId} {v : Value} {n : Nat} {xs : List Value} (h : w.ownsRow base t size v n xs) (hb : Below w.heap.size w w') : w'.ownsRow base t size v n xs :=
  h.kept (row := none) (only_of_below hb none) (by cases v.ownBlock with | none => exact .inl rfl | some k => exact .inr (by simp))
theorem own_grownN {base size g : Nat} {t : TypeId} {v : Value} {n : Nat} {xs : List Value} (h : w.ownsRow base t size v n xs) (hb : w.grownBy w' (some g)) (hne : v.ownBlock ≠ some g) : w'.ownsRow base t size v n xs :=
  h.kept hb (.inr hne)
theorem below_ownN {a : World} {base size : Nat} {t : TypeId} {v : Value} {n : Nat} {xs : List Value} (h : w.ownsRow base t size v n xs) (hb : Below a.heap.size a w) (hbase : a.heap.size ≤ base) (hg : w.grownBy w' v.ownBlock) : Below a.heap.size a w' :=
  below_only hb hg (fun g e => Nat.le_trans hbase (h.lt g e).1)
theorem own_mono {base base' size : Nat} {t : TypeId} {v : Value} {n : Nat} {xs : List Value} (h : w.ownsRow base t size v n xs) (hb : base' ≤ base) : w.ownsRow base' t size v n xs :=
  ⟨h.1, h.2.imp id fun ⟨g, cap, cur, h1, h2, h3⟩ => ⟨g, cap, cur, h1, Nat.le_trans hb h2, h3⟩⟩
/-- A literal's row is one's own. -/
theorem lit_ownN (w : World) (t : TypeId) (size : Nat) (vs : List Value) (n : Nat) (hn : vs.length = n * size) (hm : n ≤ maxLen) : (w.alloc (.cells vs.toArray t)).ownsRow w.heap.size t size (.slice (some ⟨w.heap.size, 0, none⟩) n n) n vs :=
  ⟨hn, .inr ⟨w.heap.size, n, vs.toArray, rfl, Nat.le_refl _, heap_alloc_new w _, Nat.le_refl _, hm, by simpa using hn, by simp [← hn]⟩⟩
theorem lit_rowN (w : World) (t : TypeId) (vs : List Value) (n g : Nat) (hn : vs.length = n) (hg : g = w.heap.size) : RowAt (w.alloc (.cells vs.toArray t)) (some ⟨g, 0, none⟩) n vs := by
  subst hg
  have h := rowAt_ownN (size := n) (n := 1) (c := 1) (w := w.alloc (.cells vs.toArray t)) (base := w.heap.size) (t := t) (xs := vs) (A := some ⟨w.heap.size, 0, none⟩)
    ⟨by omega, .inr ⟨w.heap.size, 1, vs.toArray, rfl, Nat.le_refl _, heap_alloc_new w _, Nat.le_refl _, by unfold maxLen; omega, by simp; omega, by simp [hn, List.take_of_length_le]⟩⟩
  rwa [Nat.one_mul] at h

theorem app_gen (w : World) {ops : Array Oper} {rest : List Oper} {o : Oper} {a : Act} {Q : Exit → Act → World → Prop} (T E : TypeId) (z : Value) (size bytes : Nat)
    (ht : Try.prog.underlying T = some (.slice E)) (hinf : (Try.prog.info? E).map (fun i => (i.zero, i.size, i.bytes)) = some (some z, size, bytes)) (hzs : z.cells.size = size) (hsz : 0 < size)
    (hgd : o.guard = none) (s x : Operand) (ho : o.op = .call { callee := .builtin .append, args := #[s, x], argTypes := #[T, T] })
    (base : Nat) (v : Value) (n : Nat) (xs : List Value) (hs : a.eval s = v) (hown : w.ownsRow base E size v n xs)
    (A : Option Addr) (m c : Nat) (news : List Value) (hx : a.eval x = .slice A m c) (hA : A = none → m = 0 ∧ c = 0) (hb : RowAt w A (m * size) news) (h1 : ∀ u ∈ news, u.oneCell' = true)
    (h63 : n + m ≤ maxLen) (hbd : (n + m) * bytes ≤ 140737488355328) (hbase : base ≤ w.heap.size)
    (h : ∀ v' w', w'.ownsRow base E size v' (n + m) (xs ++ news) → w.grownBy w' v.ownBlock → wpList Try.prog ops Q rest (a.put o.dst v') w') : wpList Try.prog ops Q (o :: rest) a w := by
  obtain ⟨i0, hi, hz0, hz1, hz2⟩ := info_parts hinf
  cases A with
  | none =>
    obtain ⟨rfl, rfl⟩ := hA rfl
    have e : news = [] := List.eq_nil_of_length_eq_zero (by rw [hb.len]; omega)
    subst e
    exact wpList_append_own_none hgd s x T ho base E i0 size ht hi v n xs hs hown hx (h v w (by simpa using hown) (World.grownBy.refl _ _))
  | some ad =>
    refine wpList_append_own w hgd s x T ho base E i0 z size bytes ht hi hz0 hz1 hz2 hzs hsz v n xs hs hown ad m c news hx hb.len ?_ h1 h63 hbd hbase (fun v' w' h1 h2 _ => h v' w' h1 h2)
    intro j u hu
    obtain ⟨a', e', hc⟩ := hb.2 (by have := (List.getElem?_eq_some_iff.1 hu).1; have := hb.len; omega)
    obtain rfl : ad = a' := by simpa using e'
    exact hc j u hu
theorem step_app_gen (w : World) {ops : Array Oper} {o : Oper} {a : Act} {K : Act → World → Prop} {Q : Exit → Act → World → Prop} {E' : Prop} (T E : TypeId) (z : Value) (size bytes : Nat)
    (ht : Try.prog.underlying T = some (.slice E)) (hinf : (Try.prog.info? E).map (fun i => (i.zero, i.size, i.bytes)) = some (some z, size, bytes)) (hzs : z.cells.size = size) (hsz : 0 < size)
    (hgd : o.guard = none) (s x : Operand) (ho : o.op = .call { callee := .builtin .append, args := #[s, x], argTypes := #[T, T] })
    (base : Nat) (v : Value) (n : Nat) (xs : List Value) (hs : a.eval s = v) (hown : w.ownsRow base E size v n xs)
    (ad : Addr) (m c : Nat) (news : List Value) (hx : a.eval x = .slice (some ad) m c) (hb : RowAt w (some ad) (m * size) news) (h1 : ∀ u ∈ news, u.oneCell' = true)
    (h63 : n + m ≤ maxLen) (hbd : (n + m) * bytes ≤ 140737488355328) (hbase : base ≤ w.heap.size)
    (h : ∀ v' w', w'.ownsRow base E size v' (n + m) (xs ++ news) → w.grownBy w' v.ownBlock → K (a.put o.dst v') w') :
    if Region.wanted o (yielded ops a.tmps) = true then Oper.wp Try.prog o a w K Q else E' := by
  have hw : Region.wanted o (yielded ops a.tmps) = true := by simp [Region.wanted, hgd]
  rw [if_pos hw]
  obtain ⟨i0, hi, hz0, hz1, hz2⟩ := info_parts hinf
  refine wp_append_own w s x T ho base E i0 z size bytes ht hi hz0 hz1 hz2 hzs hsz v n xs hs hown ad m c news hx hb.len ?_ h1 h63 hbd hbase (fun v' w' h1 h2 _ => h v' w' h1 h2)
  intro j u hu
  obtain ⟨a', e', hc⟩ := hb.2 (by have := (List.getElem?_eq_some_iff.1 hu).1; have := hb.len; omega)
  obtain rfl : ad = a' := by simpa using e'
  exact hc j u hu
end

theorem infoInt : (Try.prog.info? 3).map (fun i => (i.zero, i.size, i.bytes)) = some (some (.int .i64 0), 1, 8) := by kernel_rfl
theorem one_ints (zs : List Int) : ∀ u ∈ ints zs, u.oneCell' = true := fun u hu => by
  simp only [ints, List.mem_map] at hu
  obtain ⟨y, _, rfl⟩ := hu
  rfl
theorem one_nums (zs : List Nat) : ∀ u ∈ nums zs, u.oneCell' = true := fun u hu => by
  simp only [nums, List.mem_map] at hu
  obtain ⟨y, _, rfl⟩ := hu
  rfl
theorem app_i64 (w : World) {ops : Array Oper} {rest : List Oper} {o : Oper} {a : Act} {Q : Exit → Act → World → Prop} (hgd : o.guard = none) (s x : Operand)
    (ho : o.op = .call { callee := .builtin .append, args := #[s, x], argTypes := #[23, 23] })
    (base : Nat) (v : Value) (n : Nat) (xs : List Value) (hs : a.eval s = v) (hown : w.ownsRow base 3 1 v n xs)
    (A : Option Addr) (m c : Nat) (ys : List Int) (hx : a.eval x = .slice A m c) (hA : A = none → m = 0 ∧ c = 0) (hb : RowAt w A m (ints ys))
    (hbd : n + m ≤ 17592186044416) (hbase : base ≤ w.heap.size)
    (h : ∀ v' w', w'.ownsRow base 3 1 v' (n + m) (xs ++ ints ys) → w.grownBy w' v.ownBlock → wpList Try.prog ops Q rest (a.put o.dst v') w') : wpList Try.prog ops Q (o :: rest) a w :=
  app_gen w 23 3 (.int .i64 0) 1 8 Try.underlying23 infoInt rfl (by decide) hgd s x ho base v n xs hs hown A m c (ints ys) hx hA (by rwa [Nat.mul_one]) (one_ints ys) (by unfold maxLen; omega) (by omega) hbase h
theorem app_n64 (w : World) {ops : Array Oper} {rest : List Oper} {o : Oper} {a : Act} {Q : Exit → Act → World → Prop} (hgd : o.guard = none) (s x : Operand)
    (ho : o.op = .call { callee := .builtin .append, args := #[s, x], argTypes := #[68, 68] })
    (base : Nat) (v : Value) (n : Nat) (xs : List Value) (hs : a.eval s = v) (hown : w.ownsRow base 79 1 v n xs)
    (A : Option Addr) (m c : Nat) (ys : List Nat) (hx : a.eval x = .slice A m c) (hA : A = none → m = 0 ∧ c = 0) (hb : RowAt w A m (nums ys))
    (hbd : n + m ≤ 17592186044416) (hbase : base ≤ w.heap.size)
    (h : ∀ v' w', w'.ownsRow base 79 1 v' (n + m) (xs ++ nums ys) → w.grownBy w' v.ownBlock → wpList Try.prog ops Q rest (a.put o.dst v') w') : wpList Try.prog ops Q (o :: rest) a w :=
  app_gen w 68 79 (.int .u64 0) 1 8 Try.underlying68 infoU64 rfl (by decide) hgd s x ho base v n xs hs hown A m c (nums ys) hx hA (by rwa [Nat.mul_one]) (one_nums ys) (by unfold maxLen; omega) (by omega) hbase h
theorem own_ints {w : World} {base : Nat} {v : Value} {n : Nat} {zs : List Int} (h : w.ownsRow base 3 1 v n (ints zs)) :
    ∃ A cap, v = .slice A n cap ∧ RowAt w A n (ints zs) ∧ n ≤ cap ∧ cap ≤ maxLen ∧ (A = none → n = 0 ∧ cap = 0) ∧ (∀ a, A = some a → base ≤ a.block) := by
  have := own_sliceN h
  rwa [Nat.mul_one] at this
theorem own_nums {w : World} {base : Nat} {v : Value} {n : Nat} {l : List Nat} (h : w.ownsRow base 79 1 v n (nums l)) :
    ∃ A cap, v = .slice A n cap ∧ RowAt w A n (nums l) ∧ n ≤ cap ∧ cap ≤ maxLen ∧ (A = none → n = 0 ∧ cap = 0) ∧ (∀ a, A = some a → base ≤ a.block) := by
  have := own_sliceN h
  rwa [Nat.mul_one] at this

/-! ### bytes.Equal -/
theorem strOf (x : List UInt8) : strOfNums (x.map fun c => (c.toNat : Int)) = ⟨x.toArray⟩ := by
  unfold strOfNums
  rw [List.map_map]
  congr 2
  conv => rhs; rw [← List.map_id x]
  exact List.map_congr_left fun c _ => by simp
theorem conv_string {w : World} {A : Option Addr} {n : Nat} {x : List UInt8} (h : BytesAt w A n x) (c : Nat) : (convert 31 9 (.slice A n c)).run Try.prog w = .ok (.string ⟨x.toArray⟩) w := by
  have hl := h.len
  have hin : Lib.BytesIn w A n (x.map fun c => (c.toNat : Int)) := by
    intro hn
    obtain ⟨a, rfl, hc⟩ := h.2 hn
    refine Lib.BytesIn.of_cells (fun i hi => ?_) hn
    have hx : x[i]? = some x[i] := List.getElem?_eq_getElem (by omega)
    rw [hc i _ hx, List.getD_eq_getElem?_getD, List.getElem?_map, hx]; rfl
  rw [hin.convert (by simpa using hl) c 31 5 9 Try.underlying31 Try.underlying5 Try.underlying9, strOf]
set_option maxHeartbeats 1000000 in
theorem equal_any (A B : Option Addr) (n m ca cb : Nat) (x y : List UInt8) (w : World) (ha : BytesAt w A n x) (hb : BytesAt w B m y) :
    Calls Try.prog 24 #[.slice A n ca, .slice B m cb] w fun e w' => e = .returned (.bool (x == y)) ∧ w = w' := by
  have h1 := conv_string ha ca
  have h2 := conv_string hb cb
  clear ha hb
  go_enter Try.func24, Try.ntmps24
  go_wp2
  go_ret
  exact ⟨by congr 2, rfl⟩
end Go.Proofs.Ytifamhmiibhohaa

namespace Go.Proofs.Ytifamhmiibhohaa
open Go.RowKit
section
variable {P : Program} {ops : Array Oper} {md : Region.Mode} {Q : Exit → Act → World → Prop} {S : World → Prop}

/-- In every world that meets S operation o leaves v in its temporary and does nothing else: by itself, or by a call that leaves the world as it was. -/
def YI (P : Program) (ops : Array Oper) (S : World → Prop) (o : Oper) (v : Value) (a : Act) : Prop :=
  (Region.wanted o (yielded ops a.tmps) = true ∧ ∀ w, S w → (execOp a.eval o).run P w = .ok (.value v) w ∨ ∃ f args, (execOp a.eval o).run P w = .ok (.enter f args) w ∧ Calls P f args w (fun e w' => e = .returned v ∧ w' = w)) ∨
  (Region.wanted o (yielded ops a.tmps) = false ∧ v = undef)
theorem YI.of_same {o : Oper} {v : Value} {a a' : Act} (hy : YI P ops S o v a) (he : execOp a'.eval o = execOp a.eval o) (hw : Region.wanted o (yielded ops a'.tmps) = Region.wanted o (yielded ops a.tmps)) : YI P ops S o v a' := by
  unfold YI at *
  rw [he, hw]
  exact hy
theorem YI.wpOp {i : Nat} {o : Oper} {v : Value} {a : Act} (hi : ops[i]? = some o) (hy : YI P ops S o v a) {K : Act → World → Prop} {w : World} (hS : S w) (h : K (a.put o.dst v) w) : wpOp P ops Q i K a w := by
  unfold Go.wpOp
  simp only [hi]
  rcases hy with ⟨hw, hv⟩ | ⟨hw, rfl⟩
  · rcases hv w hS with hr | ⟨f, args, hr, hc⟩
    · simp only [hw, if_true, Oper.wp, hr, Oper.upon]; exact .inl h
    · simp only [hw, if_true, Oper.wp, hr, Oper.upon]
      exact .inl (hc.mono fun e w' ⟨he, hw'⟩ => by subst he; subst hw'; exact h)
  · simp only [hw, Bool.false_eq_true, if_false]; exact h

/-- Two operations that are apart: a fact that the one keeps goes with it. -/
theorem wpOp_putY {j : Nat} {oi oj : Oper} {v : Value} (hj : ops[j]? = some oj) (hap : oi.apart ops oj = true) (hsj : ∀ cs b, oj.op ≠ .select cs b)
    (hQ : ∀ c a w, Q (.panic c) (a.put oi.dst v) w → Q (.panic c) a w) {Y : Act → Prop} (hYp : ∀ a, Y a → ∀ u, Y (a.put oj.dst u)) (hYd : ∀ (a : Act) d, Y a → Y { a with defers := d :: a.defers })
    {K : Act → World → Prop} {a : Act} {w : World} (hy : Y a) (h : wpOp P ops Q j K (a.put oi.dst v) w) : wpOp P ops Q j (fun a' w' => Y a' ∧ K (a'.put oi.dst v) w') a w := by
  obtain ⟨h1, h2, h3⟩ := Oper.apart_spec hap
  unfold wpOp at *
  simp only [hj] at *
  rw [wanted_put oj a oi.dst v h1] at h
  by_cases hw : Region.wanted oj (yielded ops a.tmps) = true
  · simp only [hw, if_true] at h ⊢
    rcases h with h | ⟨hasks, hlets⟩
    · refine .inl ?_
      unfold Oper.wp at *
      rw [execOp_put oj hsj a oi.dst v h1] at h
      generalize (execOp a.eval oj).run P w = r at *
      cases r with
      | halt x w' =>
        cases x <;> simp only [Oper.upon] at h ⊢
        case panic u => exact hQ _ _ _ h
      | ok n w' =>
        cases n <;> simp only [Oper.upon] at h ⊢
        case value u => exact ⟨hYp a hy u, by rw [← Act.put_comm a v u h2]; exact h⟩
        case skip => exact ⟨hYp a hy _, by rw [← Act.put_comm a v undef h2]; exact h⟩
        case defer d =>
          refine ⟨hYp _ (hYd a d hy) _, ?_⟩
          rw [← Act.put_comm _ v undef h2, ← Act.put_defers]
          exact h
        case enter f args =>
          refine Calls.mono h fun e w'' he => ?_
          cases e with
          | returned u => exact ⟨hYp a hy u, by rw [← Act.put_comm a v u h2]; exact he⟩
          | panicked c => exact hQ _ _ _ he
          | outgrown => exact he
        case row row args => exact Rows.mono h fun u w'' he => ⟨hYp a hy u, by rw [← Act.put_comm a v u h2]; exact he⟩
    · exact .inr ⟨by unfold Oper.asks at *; rw [execOp_put oj hsj a oi.dst v h1] at hasks; exact hasks, hlets⟩
  · simp only [hw] at h ⊢
    exact ⟨hYp a hy _, by rw [← Act.put_comm a v undef h2]; exact h⟩

theorem getD_falseT {listed : Array Bool} {i : Nat} (h : listed.getD i true = false) : listed.getD i false = false := by
  rcases Nat.lt_or_ge i listed.size with h' | h'
  · simp [h'] at h ⊢; exact h
  · simp [Array.getElem?_eq_none h'] at h
theorem wpAnyH_firstY {i : Nat} {oi : Oper} {v : Value} (hi : ops[i]? = some oi) (hsel : ∀ (j : Nat) (o : Oper) cs b, ops[j]? = some o → o.op ≠ .select cs b)
    (hQ : ∀ c a w, Q (.panic c) (a.put oi.dst v) w → Q (.panic c) a w) : ∀ (fuel : Nat) (listed : Array Bool) (a : Act) (w : World),
      (∀ j oj, ops[j]? = some oj → j ≠ i → listed.getD j true = false → (∀ e ∈ oj.after, Region.binds md e = true → e.on ≠ i) → oi.apart ops oj = true) →
      i ∈ Region.ready md ops listed → YI P ops S oi v a → S w →
      wpAnyH P md ops Q S fuel (listed.setIfInBounds i true) (a.put oi.dst v) w → wpAnyH P md ops Q S (fuel + 1) listed a w
  | fuel, listed, a, w, hfree, hr, hy, hS, H => by
    refine ⟨fun h => (by rw [h] at hr; cases hr), fun j hj => ?_⟩
    by_cases hji : j = i
    · subst hji; exact hy.wpOp hi hS ⟨hS, H⟩
    · obtain ⟨hjun, oj, hoj, hall⟩ := mem_ready.1 hj
      cases fuel with
      | zero =>
        have := ready_mono hj hji
        rw [H.1] at this
        cases this
      | succ fuel =>
        have h1 := H.2 j (ready_mono hj hji)
        have hnot : ∀ e ∈ oj.after, Region.binds md e = true → e.on ≠ i := fun e he hb heq => by
          have h1 := hall e he hb
          rw [heq, getD_falseT (mem_ready.1 hr).1] at h1
          cases h1
        have hap := hfree j oj hoj hji hjun hnot
        obtain ⟨a1, a2, a3⟩ := Oper.apart_spec hap
        have h2 := wpOp_putY (Y := fun a' => YI P ops S oi v a') hoj hap (fun cs b => hsel j oj cs b hoj) hQ
          (fun a hy u => hy.of_same (execOp_put oi (fun cs b => hsel i oi cs b hi) a oj.dst u a3) (wanted_put oi a oj.dst u a3)) (fun a d hy => hy.of_same rfl rfl) hy h1
        have hfree' : ∀ k ok, ops[k]? = some ok → k ≠ i → (listed.setIfInBounds j true).getD k true = false →
            (∀ e ∈ ok.after, Region.binds md e = true → e.on ≠ i) → oi.apart ops ok = true := fun k ok hk hki hun hno => by
          refine hfree k ok hk hki ?_ hno
          by_cases hjk : j = k
          · subst hjk; exact hjun
          · rw [getD_set_ne true hjk] at hun; exact hun
        refine wpOp_mono (fun a' w' h3 => ⟨h3.2.1, wpAnyH_firstY hi hsel hQ fuel (listed.setIfInBounds j true) a' w' hfree' (ready_mono hr (Ne.symm hji)) h3.1 h3.2.1 ?_⟩) h2
        rw [Array.setIfInBounds_comm _ _ hji]
        exact h3.2.2

/-- The flags: true: taken first; false: forced. Behind them: the rest may be walked still. -/
def lexMix (md : Region.Mode) (ops : Array Oper) : List Bool → Nat → Array Bool → Bool
  | [], k, listed => Region.lexFrom md ops (ops.size - k) k listed
  | true :: bs, k, listed => ((Region.ready md ops listed).contains k && Region.free md ops listed k) && lexMix md ops bs (k + 1) (listed.setIfInBounds k true)
  | false :: bs, k, listed => decide (Region.ready md ops listed = [k]) && lexMix md ops bs (k + 1) (listed.setIfInBounds k true)

def wpMix (P : Program) (ops : Array Oper) (Q : Exit → Act → World → Prop) (S : World → Prop) : List Bool → List Oper → Act → World → Prop
  | [], l, a, w => wpStill P ops w (fun a' => Q .normal a' w) l a
  | true :: bs, o :: l, a, w => ∃ v, YI P ops S o v a ∧ wpMix P ops Q S bs l (a.put o.dst v) w
  | false :: bs, o :: l, a, w => if Region.wanted o (yielded ops a.tmps) = true then o.wp P a w (fun a' w' => S w' ∧ wpMix P ops Q S bs l a' w') Q else wpMix P ops Q S bs l (a.put o.dst undef) w
  | _ :: _, [], _, _ => False

theorem wpAnyH_of_still {w : World} {Q' : Act → Prop} (hS : S w) (hQ : ∀ a, Q' a → Q .normal a w) : ∀ (fuel : Nat) (listed : Array Bool) (a : Act),
    wpAnyS P md ops w Q' fuel listed a → wpAnyH P md ops Q S fuel listed a w
  | 0, _, _, h => ⟨h.1, hQ _ h.2⟩
  | fuel + 1, _, _, h => ⟨fun h0 => hQ _ (h.1 h0), fun i hi => wpOp_of_stOp (fun a' h' => ⟨hS, wpAnyH_of_still hS hQ fuel _ a' h'⟩) (h.2 i hi)⟩

theorem wpAnyH_of_mix (hs : Region.noSelect ops = true) (hQ : ∀ c (a : Act) d v w, Q (.panic c) (a.put d v) w → Q (.panic c) a w) :
    ∀ (bs : List Bool) (l : List Oper) (k : Nat) (listed : Array Bool) (a : Act) (w : World), (∀ j, l[j]? = ops[k + j]?) → k + l.length = ops.size →
      lexMix md ops bs k listed = true → S w → wpMix P ops Q S bs l a w → wpAnyH P md ops Q S l.length listed a w
  | [], l, k, listed, a, w, hl, hk, hB, hS, h => by
    have hlen : ops.size - k = l.length := by omega
    rw [lexMix, hlen] at hB
    exact wpAnyH_of_still hS (fun _ h => h) _ _ _ (wpAnyS_lex hs l k listed a hl hB h)
  | true :: bs, [], _, _, _, _, _, _, _, _, h => by cases h
  | false :: bs, [], _, _, _, _, _, _, _, _, h => by cases h
  | true :: bs, o :: l, k, listed, a, w, hl, hk, hB, hS, h => by
    have h0 : ops[k]? = some o := by simpa using (hl 0).symm
    simp only [lexMix, Bool.and_eq_true] at hB
    obtain ⟨⟨hr, hf⟩, hB'⟩ := hB
    obtain ⟨v, hy, hK⟩ := h
    exact wpAnyH_firstY h0 (Region.noSelect_spec hs) (fun c a' w' => hQ c a' _ _ w') l.length listed a w (Region.free_spec h0 hf) (by simpa using hr) hy hS
      (wpAnyH_of_mix hs hQ bs l (k + 1) _ _ w (fun j => by have := hl (j + 1); simpa [Nat.add_assoc, Nat.add_comm 1 j] using this) (by simp only [List.length_cons] at hk; omega) hB' hS hK)
  | false :: bs, o :: l, k, listed, a, w, hl, hk, hB, hS, h => by
    have h0 : ops[k]? = some o := by simpa using (hl 0).symm
    simp only [lexMix, Bool.and_eq_true, decide_eq_true_eq] at hB
    obtain ⟨hr, hB'⟩ := hB
    have rec_ := fun a' w' (hS' : S w') (h' : wpMix P ops Q S bs l a' w') => wpAnyH_of_mix hs hQ bs l (k + 1) (listed.setIfInBounds k true) a' w'
      (fun j => by have := hl (j + 1); simpa [Nat.add_assoc, Nat.add_comm 1 j] using this) (by simp only [List.length_cons] at hk; omega) hB' hS' h'
    refine ⟨fun h1 => (by rw [hr] at h1; cases h1), fun i hi => ?_⟩
    rw [hr] at hi
    have hik : i = k := by simpa using hi
    subst hik
    unfold wpOp
    simp only [h0]
    simp only [wpMix] at h
    split
    · rename_i hw
      rw [if_pos hw] at h
      exact .inl (Oper.wp_mono (fun a' w' h' => ⟨h'.1, rec_ a' w' h'.1 h'.2⟩) h)
    · rename_i hw
      rw [if_neg hw] at h
      exact ⟨hS, rec_ _ w hS h⟩

theorem wp_region_mix {id : Nat} {l : List Oper} {a : Act} {w : World} (bs : List Bool) (hm : P.follows .mixedOrders = true)
    (hB : (Region.noSelect l.toArray && lexMix .any l.toArray bs 0 (Array.replicate l.toArray.size false)) = true)
    (hQ : ∀ c (a : Act) d v w, Q (.panic c) (a.put d v) w → Q (.panic c) a w) (hS : S w.drew) (h : wpMix P l.toArray Q S bs l a w.drew) : (Code.region id l.toArray true).wp P Q a w := by
  simp only [Bool.and_eq_true] at hB
  refine wp_region_held_drew hm hS (fun _ => ?_)
  have := wpAnyH_of_mix (md := .any) hB.1 hQ bs l 0 (Array.replicate l.toArray.size false) a w.drew (by simp) (by simp) hB.2 hS h
  simpa using this

/-- As wpMix and wpStill, closed to unfolding. -/
structure MW (P : Program) (ops : Array Oper) (Q : Exit → Act → World → Prop) (S : World → Prop) (bs : List Bool) (l : List Oper) (a : Act) (w : World) : Prop where
  out : wpMix P ops Q S bs l a w
structure SW (P : Program) (ops : Array Oper) (w : World) (R : Act → Prop) (l : List Oper) (a : Act) : Prop where
  out : wpStill P ops w R l a
theorem region_mix {id : Nat} {l : List Oper} {a : Act} {w : World} (bs : List Bool) (hm : P.follows .mixedOrders = true)
    (hB : (Region.noSelect l.toArray && lexMix .any l.toArray bs 0 (Array.replicate l.toArray.size false)) = true)
    (hQ : ∀ c (a : Act) d v w, Q (.panic c) (a.put d v) w → Q (.panic c) a w) (hS : S w.drew) (h : MW P l.toArray Q S bs l a w.drew) : (Code.region id l.toArray true).wp P Q a w :=
  wp_region_mix bs hm hB hQ hS h.out
theorem region_still {id : Nat} {l : List Oper} {a : Act} {w : World} (hm : P.follows .mixedOrders = true) (hB : Region.lexB .any l.toArray = true)
    (h : SW P l.toArray w.drew (fun a' => Q .normal a' w.drew) l a) : (Code.region id l.toArray true).wp P Q a w := wp_region_still_lit hm hB h.out
theorem mix_take {bs : List Bool} {o : Oper} {l : List Oper} {a : Act} {w : World} {v : Value} (hw : Region.wanted o (yielded ops a.tmps) = true) (hy : ∀ w', S w' → (execOp a.eval o).run P w' = .ok (.value v) w')
    (h : ∀ K : Act → Prop, (∀ a', MW P ops Q S bs l a' w → K a') → K (a.put o.dst v)) : MW P ops Q S (true :: bs) (o :: l) a w :=
  ⟨⟨v, .inl ⟨hw, fun w' hs => .inl (hy w' hs)⟩, (h (fun a' => MW P ops Q S bs l a' w) fun _ h => h).out⟩⟩
theorem mix_call {bs : List Bool} {o : Oper} {l : List Oper} {a : Act} {w : World} {v : Value} {f : FuncId} {args : Array Value} (hw : Region.wanted o (yielded ops a.tmps) = true) (hy : ∀ w', S w' → (execOp a.eval o).run P w' = .ok (.enter f args) w')
    (hc : ∀ w', S w' → Calls P f args w' fun e w'' => e = .returned v ∧ w'' = w') (h : ∀ K : Act → Prop, (∀ a', MW P ops Q S bs l a' w → K a') → K (a.put o.dst v)) : MW P ops Q S (true :: bs) (o :: l) a w :=
  ⟨⟨v, .inl ⟨hw, fun w' hs => .inr ⟨f, args, hy w' hs, hc w' hs⟩⟩, (h (fun a' => MW P ops Q S bs l a' w) fun _ h => h).out⟩⟩
theorem mix_skip {bs : List Bool} {o : Oper} {l : List Oper} {a : Act} {w : World} (hw : Region.wanted o (yielded ops a.tmps) = false)
    (h : ∀ K : Act → Prop, (∀ a', MW P ops Q S bs l a' w → K a') → K (a.put o.dst undef)) : MW P ops Q S (true :: bs) (o :: l) a w :=
  ⟨⟨undef, .inr ⟨hw, rfl⟩, (h (fun a' => MW P ops Q S bs l a' w) fun _ h => h).out⟩⟩
theorem mix_do {E : Prop} {bs : List Bool} {o : Oper} {l : List Oper} {a : Act} {w : World} (h : ∀ K : Act → World → Prop, Hid (∀ a' w', S w' → MW P ops Q S bs l a' w' → K a' w') →
    if Region.wanted o (yielded ops a.tmps) = true then o.wp P a w K Q else E) (hw : Region.wanted o (yielded ops a.tmps) = true) : MW P ops Q S (false :: bs) (o :: l) a w := by
  have := h (fun a' w' => S w' ∧ wpMix P ops Q S bs l a' w') (Lib.hid fun a' w' h1 h2 => ⟨h1, h2.out⟩)
  refine ⟨?_⟩
  simp only [wpMix]
  rw [if_pos hw] at this ⊢
  exact this
theorem mix_pass {bs : List Bool} {o : Oper} {l : List Oper} {a : Act} {w : World} (hw : Region.wanted o (yielded ops a.tmps) = false)
    (h : ∀ K : Act → Prop, (∀ a', MW P ops Q S bs l a' w → K a') → K (a.put o.dst undef)) : MW P ops Q S (false :: bs) (o :: l) a w := by
  have := h _ fun _ h => h
  refine ⟨?_⟩
  simp only [wpMix]
  rw [if_neg (by rw [hw]; decide)]
  exact this.out
theorem mix_still {l : List Oper} {a : Act} {w : World} (h : SW P ops w (fun a' => Q .normal a' w) l a) : MW P ops Q S [] l a w := ⟨h.out⟩
theorem mix_end {a : Act} {w : World} (h : Q .normal a w) : MW P ops Q S [] [] a w := ⟨h⟩
theorem still_end {R : Act → Prop} {a : Act} {w : World} (h : R a) : SW P ops w R [] a := ⟨h⟩
theorem still_take {R : Act → Prop} {o : Oper} {l : List Oper} {a : Act} {w : World} {v : Value} (hw : Region.wanted o (yielded ops a.tmps) = true) (hy : (execOp a.eval o).run P w = .ok (.value v) w)
    (h : ∀ K : Act → Prop, (∀ a', SW P ops w R l a' → K a') → K (a.put o.dst v)) : SW P ops w R (o :: l) a := by
  have := h (fun a' => SW P ops w R l a') fun _ h => h
  refine ⟨?_⟩
  simp only [wpStill]
  rw [if_pos hw]
  simp only [Oper.still, hy, Oper.stillUpon]
  exact ⟨trivial, this.out⟩
theorem still_skip {R : Act → Prop} {o : Oper} {l : List Oper} {a : Act} {w : World} (hw : Region.wanted o (yielded ops a.tmps) = false)
    (h : ∀ K : Act → Prop, (∀ a', SW P ops w R l a' → K a') → K (a.put o.dst undef)) : SW P ops w R (o :: l) a := by
  have := h (fun a' => SW P ops w R l a') fun _ h => h
  refine ⟨?_⟩
  simp only [wpStill]
  rw [if_neg (by rw [hw]; decide)]
  exact this.out
theorem still_call_ {R : Act → Prop} {o : Oper} {l : List Oper} {a : Act} {w : World} {v : Value} {f : FuncId} {args : Array Value} (hw : Region.wanted o (yielded ops a.tmps) = true) (hy : (execOp a.eval o).run P w = .ok (.enter f args) w)
    (hc : Calls P f args w fun e w'' => e = .returned v ∧ w'' = w) (h : ∀ K : Act → Prop, (∀ a', SW P ops w R l a' → K a') → K (a.put o.dst v)) : SW P ops w R (o :: l) a := by
  have := h (fun a' => SW P ops w R l a') fun _ h => h
  refine ⟨?_⟩
  simp only [wpStill]
  rw [if_pos hw]
  simp only [Oper.still, hy, Oper.stillUpon]
  exact ⟨trivial, v, hc, this.out⟩
end
end Go.Proofs.Ytifamhmiibhohaa

namespace Go.Proofs.Ytifamhmiibhohaa.Wire
open Go.RowKit
set_option maxHeartbeats 8000000
set_option maxRecDepth 100000
set_option linter.unusedVariables false
set_option linter.unusedSimpArgs false

theorem copied_any (A : Option Addr) (n cap : Nat) (bs : List UInt8) (w : World) (hc : n ≤ 140737488351232) (hA : A = none → n = 0 ∧ cap = 0) (hb : BytesAt w A n bs) :
    Calls Try.prog 35 #[.slice A n cap] w fun e w' => ∃ v, e = .returned v ∧ w'.ownsRow w.heap.size 5 1 v n (bvl bs) ∧ Below w.heap.size w w' := by
  have HB := Lib.hid hb
  have HA := Lib.hid hA
  clear hb hA
  go_enter Try.func35, Try.ntmps35
  go_wp2_with (at_builtin; refine app_u8 _ rfl _ _ rfl w.heap.size (.slice none 0 0) 0 [] rfl (World.ownsRow_nil _ _ _ _) A n cap bs rfl HA.out HB.out (by omega) (Nat.le_refl _) ?_; intro v' w' hown hg)
  go_ret
  refine ⟨_, rfl, by simpa using hown, below_of_only hg (fun g e => by cases e)⟩

end Go.Proofs.Ytifamhmiibhohaa.Wire

namespace Go.Proofs.Ytifamhmiibhohaa.Wire
open Go.RowKit
set_option maxHeartbeats 8000000
set_option maxRecDepth 100000
set_option linter.unusedVariables false
set_option linter.unusedSimpArgs false

theorem lays_tail (bs new tail : List UInt8) (off : Nat) (h : off + new.length ≤ bs.length) : lays (bs ++ tail) off new = lays bs off new ++ tail := by
  simp only [lays]
  rw [List.take_append_of_le_length (by omega), List.drop_append_of_le_length h]
  simp only [List.append_assoc]

theorem put_row (base g n c N : Nat) (bs tail : List UInt8) (at_ m : Int) (x : Nat) (w : World) (hx64 : x < 18446744073709551616) (hbl : bs.length = n) (hN : n ≤ N)
    (hown : w.ownsRow base 5 1 (.slice (some ⟨g, 0, none⟩) N c) N (bvl (bs ++ tail))) :
    Calls Try.prog 41 #[.slice (some ⟨g, 0, none⟩) n c, .int .i64 at_, .int .i64 m, .int .u64 (x : Int)] w fun e w' => e = .returned (.int .i64 (putE n at_ m x)) ∧
      w'.ownsRow base 5 1 (.slice (some ⟨g, 0, none⟩) N c) N (bvl (putB bs at_ m x ++ tail)) ∧ w.grownBy w' (some g) := by
  obtain ⟨cs, hb0, hblk, hc1, hc2, hc3⟩ := own_blk hown
  have h64 : c ≤ 9223372036854775807 := by unfold maxLen at hc2; omega
  cases hf : fits n at_ m
  · have e1 : putE n at_ m x = 22 := by simp [putE, hf]
    have e2 : putB bs at_ m x = bs := by simp [putB, hbl, hf]
    rw [e1, e2]
    exact (put_no _ n c at_ m x w (by omega) hf).mono fun e w' ⟨he, hb⟩ => ⟨he, own_below hown hb, only_of_below hb _⟩
  · by_cases hx : x < 256 ^ m.toNat
    · obtain ⟨h1, h2, h3, h4, h5⟩ := fits_true hf
      have e1 : putE n at_ m x = 0 := by simp [putE, hf, hx]
      have e2 : putB bs at_ m x = lays bs at_.toNat (le m.toNat x) := by simp [putB, hbl, hf, hx]; rfl
      rw [e1, e2]
      refine (put_ok ⟨g, 0, none⟩ n c x at_ m cs w (by omega) (by omega) hf hx rfl (by simp; omega) hblk).mono fun e w' ⟨he, hb, hg⟩ => ⟨he, ?_, hg⟩
      rw [← lays_tail _ _ _ _ (by rw [le_length]; omega)]
      refine own_put hown hblk (by rw [le_length]; omega) ?_
      rw [le_length]
      rw [show (⟨g, 0, none⟩ : Addr).off + at_.toNat = at_.toNat by simp] at hb
      exact hb
    · have e1 : putE n at_ m x = 34 := by simp [putE, hf, hx]
      have e2 : putB bs at_ m x = bs := by simp [putB, hbl, hf, hx]
      rw [e1, e2]
      exact (put_big _ n c x at_ m w (by omega) (by omega) hf hx hx64).mono fun e w' ⟨he, hb⟩ => ⟨he, own_below hown hb, only_of_below hb _⟩

theorem sealB_lays (seed : BitVec 32) (bs : List UInt8) (h : 4 ≤ bs.length) : sealB seed bs = lays bs (bs.length - 4) (le 4 (crc seed (bs.take (bs.length - 4))).toNat) := by
  rw [sealB, if_pos h, lays, List.drop_of_length_le (by rw [le_length]; omega), List.append_nil]

theorem seal_row (base g n c N : Nat) (bs tail : List UInt8) (seed : BitVec 32) (w : World) (hbl : bs.length = n) (hN : n ≤ N)
    (hown : w.ownsRow base 5 1 (.slice (some ⟨g, 0, none⟩) N c) N (bvl (bs ++ tail))) :
    Calls Try.prog 31 #[.slice (some ⟨g, 0, none⟩) n c, .int .u32 (seed.toNat : Int)] w fun e w' => e = .returned (.int .i64 (sealE n)) ∧
      w'.ownsRow base 5 1 (.slice (some ⟨g, 0, none⟩) N c) N (bvl (sealB seed bs ++ tail)) ∧ w.grownBy w' (some g) := by
  obtain ⟨cs, hb0, hblk, hc1, hc2, hc3⟩ := own_blk hown
  have h64 : c ≤ 9223372036854775807 := by unfold maxLen at hc2; omega
  by_cases h4 : 4 ≤ n
  · have e1 : sealE n = 0 := by simp [sealE, h4]
    have hby : BytesAt w (some ⟨g, 0, none⟩) n bs := by
      have := (BytesAt.of_own hown).take_ n hN
      rwa [List.take_append_of_le_length (by omega), List.take_of_length_le (by omega)] at this
    rw [e1, sealB_lays seed bs (by omega)]
    refine (seal_ok ⟨g, 0, none⟩ n c seed bs cs w (by omega) h64 h4 rfl (by simp; omega) hblk hby).mono fun e w' ⟨he, hb, hg⟩ => ⟨he, ?_, hg⟩
    rw [← lays_tail _ _ _ _ (by rw [le_length]; omega), hbl]
    refine own_put hown hblk (by rw [le_length]; omega) ?_
    rw [le_length]
    rw [show (⟨g, 0, none⟩ : Addr).off + (n - 4) = n - 4 by simp] at hb
    exact hb
  · have e1 : sealE n = 22 := by simp [sealE, h4]
    have e2 : sealB seed bs = bs := by rw [sealB, if_neg (by omega)]
    rw [e1, e2]
    exact (seal_no _ n c seed w (by omega) h4).mono fun e w' ⟨he, hb⟩ => ⟨he, own_below hown hb, only_of_below hb _⟩

theorem ref_byte (n x k : Nat) (hk : k < n) (y : Nat) (hy : x / 256 ^ k = y) : Value.int .u8 ((y : Int) % 256) = bval ((le n x).getD k 0) := by
  subst hy
  have h := le_get n x k hk
  rw [List.getD_eq_getElem?_getD, h]
  simp only [Option.getD_some, bval]
  have : x / 256 ^ k % 256 < 2 ^ 8 := Nat.mod_lt _ (by omega)
  rw [UInt8.toNat_ofNat', Nat.mod_eq_of_lt this]
  congr 1

theorem ref_put_ok (a : Addr) (len cap x : Nat) (at_ n : Int) (cs : Array Value) (w : World) (hl : len ≤ cap) (hcp : cap ≤ 9223372036854775807) (hf : fits len at_ n = true) (hx : x < 256 ^ n.toNat) (hx64 : x < 18446744073709551616)
    (hs : a.spot = none) (hcs : a.off + len ≤ cs.size) (hb : Blk w a.block 5 cs) :
    Calls Try.prog 52 #[.slice (some a) len cap, .int .i64 at_, .int .i64 n, .int .u64 (x : Int)] w fun e w' => e = .returned (.int .i64 0) ∧
      Blk w' a.block 5 (putN cs (a.off + at_.toNat) (le n.toNat x) n.toNat) ∧ w.grownBy w' (some a.block) := by
  obtain ⟨h1, h2, h3, h4, h5⟩ := fits_true hf
  have HF := Lib.hid (ref_fits (some a) len cap at_ n w (by omega))
  rw [hf] at HF
  have HS := Lib.hid (ref_small x n.toNat w hx64 (by omega))
  rw [show ((n.toNat : Nat) : Int) = n by omega, show decide (x < 256 ^ n.toNat) = true by simpa using hx] at HS
  have HB := Lib.hid hb
  have HCS := Lib.hid hcs
  have HSP := Lib.hid hs
  clear hf hx hb hcs hs
  go_enter Try.func52, Try.ntmps52
  go_wp2_with (first | (go_at_call 58; refine HF.out.mono ?_; rintro e w' ⟨rfl, rfl⟩) | (go_at_call 59; refine HS.out.mono ?_; rintro e w' ⟨rfl, rfl⟩))
  go_loopw [3, 9] (fun y i wr => ∃ k : Nat, k ≤ n.toNat ∧ i = .int .i64 k ∧ y = .int .u64 ((x / 256 ^ k : Nat) : Int) ∧ Blk wr a.block 5 (putN cs (a.off + at_.toNat) (le n.toNat x) k) ∧ w.grownBy wr (some a.block)) (fun _ i _ => n.toNat - (intOf i).toNat)
  case atStart => exact ⟨0, by omega, rfl, by simp, by rw [putN_zero]; exact HB.out, World.grownBy.refl _ _⟩
  case round =>
    clear HF HS
    obtain ⟨k, hk, rfl, rfl, hbk, hgr⟩ := hrel
    have HK := Lib.hid hbk
    have HG := Lib.hid hgr
    clear hbk hgr
    have hlt64 : x / 256 ^ k < 18446744073709551616 := Nat.lt_of_le_of_lt (Nat.div_le_self _ _) hx64
    by_cases hlt : k < n.toNat
    · have hds := div_step x k
      obtain ⟨y, hy⟩ : ∃ y, x / 256 ^ k = y := ⟨_, rfl⟩
      have hfz0 := blk_frozenAt (a := a.add at_.toNat) (by rw [block_of_add]; exact HK.out) k
      have hfz : wr.frozen? (a.add (at_.toNat + k)) = false := by rw [← add_of_add]; exact hfz0
      obtain ⟨v, hv⟩ : ∃ v, (putN cs (a.off + at_.toNat) (le n.toNat x) k)[a.off + (at_.toNat + k)]? = some v := ⟨_, Array.getElem?_eq_getElem (by rw [putN_size]; have := HCS.out; omega)⟩
      have hc := (blk_cellAt HK.out HSP.out (at_.toNat + k)).trans hv
      have hby := ref_byte n.toNat x k hlt y hy
      rw [hy] at hds hlt64 ⊢
      have HV := Lib.hid hv
      have HDS := Lib.hid hds
      have HBY := Lib.hid hby
      have HY := Lib.hid hy
      clear hv hds hby hy hfz0
      have hto : (at_ + (k : Int)).toNat = at_.toNat + k := by omega
      have hwr2 : IntKind.i64.wrap (at_ + (k : Int)) = at_ + (k : Int) := by rw [IntKind.wrap_i64]; omega
      go_wp2_with fail
      go_roundw
      case rel =>
        refine ⟨k + 1, by omega, by go_num, by rw [← HDS.out]; simp, ?_, only_setCell HG.out (.inl (block_of_add a _)) _⟩
        rw [putN_succ, HBY.out.symm]
        have := blk_setAt HK.out HSP.out (at_.toNat + k) (.int .u8 ((y : Int) % 256))
        rw [← Nat.add_assoc] at this
        exact this
      case measure => simp [intOf]; omega
    · obtain rfl : k = n.toNat := by omega
      generalize x / 256 ^ n.toNat = y at hlt64 ⊢
      have hnn : ¬ ((n.toNat : Nat) : Int) < n := by omega
      go_wp2_with fail
      go_ret
      exact ⟨rfl, HK.out, HG.out⟩

theorem ref_put_no (A : Option Addr) (len cap x : Nat) (at_ n : Int) (w : World) (hl : len ≤ 9223372036854775807) (hf : fits len at_ n = false) :
    Calls Try.prog 52 #[.slice A len cap, .int .i64 at_, .int .i64 n, .int .u64 (x : Int)] w fun e w' => e = .returned (.int .i64 22) ∧ w = w' := by
  have HF := Lib.hid (ref_fits A len cap at_ n w (by omega))
  rw [hf] at HF
  clear hf
  go_enter Try.func52, Try.ntmps52
  go_wp2_with (go_at_call 58; refine HF.out.mono ?_; rintro e w' ⟨rfl, rfl⟩)
  go_ret
  exact ⟨rfl, rfl⟩

theorem ref_put_big (A : Option Addr) (len cap x : Nat) (at_ n : Int) (w : World) (hl : len ≤ 9223372036854775807) (hf : fits len at_ n = true) (hx : ¬ x < 256 ^ n.toNat) (hx64 : x < 18446744073709551616) :
    Calls Try.prog 52 #[.slice A len cap, .int .i64 at_, .int .i64 n, .int .u64 (x : Int)] w fun e w' => e = .returned (.int .i64 34) ∧ w = w' := by
  obtain ⟨h1, h2, h3, h4, h5⟩ := fits_true hf
  have HF := Lib.hid (ref_fits A len cap at_ n w (by omega))
  rw [hf] at HF
  have HS := Lib.hid (ref_small x n.toNat w hx64 (by omega))
  rw [show ((n.toNat : Nat) : Int) = n by omega, show decide (x < 256 ^ n.toNat) = false by simpa using hx] at HS
  clear hf hx
  go_enter Try.func52, Try.ntmps52
  go_wp2_with (first | (go_at_call 58; refine HF.out.mono ?_; rintro e w' ⟨rfl, rfl⟩) | (go_at_call 59; refine HS.out.mono ?_; rintro e w' ⟨rfl, rfl⟩))
  go_ret
  exact ⟨rfl, rfl⟩

theorem ref_put_row (base n c : Nat) (A : Option Addr) (bs : List UInt8) (at_ m : Int) (x : Nat) (w : World) (hx64 : x < 18446744073709551616) (hbl : bs.length = n)
    (hown : w.ownsRow base 5 1 (.slice A n c) n (bvl bs)) :
    Calls Try.prog 52 #[.slice A n c, .int .i64 at_, .int .i64 m, .int .u64 (x : Int)] w fun e w' => e = .returned (.int .i64 (putE n at_ m x)) ∧
      w'.ownsRow base 5 1 (.slice A n c) n (bvl (putB bs at_ m x)) ∧ w.grownBy w' (Value.slice A n c).ownBlock := by
  obtain ⟨A', c', e0, hby, hnc, hcm, _, _⟩ := own_slice hown
  obtain ⟨rfl, rfl⟩ : A = A' ∧ c = c' := by injection e0 with e1 e2 e3; exact ⟨e1, e3⟩
  have hn64 : n ≤ 9223372036854775807 := by unfold maxLen at hcm; omega
  cases hf : fits n at_ m
  · have e1 : putE n at_ m x = 22 := by simp [putE, hf]
    have e2 : putB bs at_ m x = bs := by simp [putB, hbl, hf]
    rw [e1, e2]
    exact (ref_put_no _ n c x at_ m w hn64 hf).mono fun e w' ⟨he, hb⟩ => by subst hb; exact ⟨he, hown, World.grownBy.refl _ _⟩
  · by_cases hx : x < 256 ^ m.toNat
    · obtain ⟨h1, h2, h3, h4, h5⟩ := fits_true hf
      have e1 : putE n at_ m x = 0 := by simp [putE, hf, hx]
      have e2 : putB bs at_ m x = lays bs at_.toNat (le m.toNat x) := by simp [putB, hbl, hf, hx]; rfl
      rw [e1, e2]
      obtain ⟨g, cap, cs, e3, _, hblk, _, _, hcs⟩ := own_form hown (by omega)
      obtain ⟨rfl, rfl⟩ : A = some ⟨g, 0, none⟩ ∧ c = cap := by injection e3 with e1 e2 e3; exact ⟨e1, e3⟩
      refine (ref_put_ok ⟨g, 0, none⟩ n c x at_ m cs w hnc (by unfold maxLen at hcm; omega) hf hx hx64 rfl (by simp; omega) hblk).mono fun e w' ⟨he, hb, hg⟩ => ⟨he, ?_, hg⟩
      refine own_put hown hblk (by rw [le_length]; omega) ?_
      rw [le_length]
      rw [show (⟨g, 0, none⟩ : Addr).off + at_.toNat = at_.toNat by simp] at hb
      exact hb
    · have e1 : putE n at_ m x = 34 := by simp [putE, hf, hx]
      have e2 : putB bs at_ m x = bs := by simp [putB, hbl, hf, hx]
      rw [e1, e2]
      exact (ref_put_big _ n c x at_ m w hn64 hf hx hx64).mono fun e w' ⟨he, hb⟩ => by subst hb; exact ⟨he, hown, World.grownBy.refl _ _⟩
end Go.Proofs.Ytifamhmiibhohaa.Wire

namespace Go.Proofs.Ytifamhmiibhohaa.Wire
open Go.RowKit
set_option maxHeartbeats 16000000
set_option maxRecDepth 100000
set_option linter.unusedVariables false
set_option linter.unusedSimpArgs false

theorem ex_crc : (((crc 0#32 [49, 50, 51, 52, 53, 54, 55, 56, 57]).toNat : Nat) : Int) = 3808858755 := by decide +kernel
theorem ex_getX : ((getX [1, 2, 3] 1 2 : Nat) : Int) = 770 := by decide +kernel
theorem ex_getE : getE 3 1 2 = 0 := by decide +kernel
theorem ex_getE2 : getE 3 2 2 = 22 := by decide +kernel
theorem ex_putE : putE 2 0 1 256 = 34 := by decide +kernel
theorem ex_packE : packE [5, 258] [1, 2] 4 = 0 := by decide +kernel
theorem ex_packB : packB [5, 258] [1, 2] 4 = [5, 2, 1, 0] := by decide +kernel
theorem ex_same : (([5, 2, 1, 0] : List UInt8) == [5, 2, 1, 0]) = true := by decide +kernel

theorem lit_bytes (w : World) (bs : List UInt8) (n : Nat) (hn : bs.length = n) (hm : n ≤ maxLen) : BytesAt (w.alloc (.cells (bvl bs).toArray 5)) (some ⟨w.heap.size, 0, none⟩) n bs := by
  have := World.ownsRow_lit (base := 0) (e := 5) (size := 1) w (bvl bs).toArray n (Nat.zero_le _) hm (by simp [bvl]; omega)
  exact BytesAt.of_own (by simpa using this)
theorem lit_own (w : World) (bs : List UInt8) (n : Nat) (hn : bs.length = n) (hm : n ≤ maxLen) : (w.alloc (.cells (bvl bs).toArray 5)).ownsRow w.heap.size 5 1 (.slice (some ⟨w.heap.size, 0, none⟩) n n) n (bvl bs) := by
  have := World.ownsRow_lit (base := w.heap.size) (e := 5) (size := 1) w (bvl bs).toArray n (Nat.le_refl _) hm (by simp [bvl]; omega)
  simpa using this
theorem lit_row (w : World) (t : TypeId) (vs : List Value) (n : Nat) (hn : vs.length = n) (hm : n ≤ maxLen) : RowAt (w.alloc (.cells vs.toArray t)) (some ⟨w.heap.size, 0, none⟩) n vs := by
  have := World.ownsRow_lit (base := 0) (e := t) (size := 1) w vs.toArray n (Nat.zero_le _) hm (by simp; omega)
  exact RowAt.of_own (by simpa using this)

theorem lit_row' (w : World) (t : TypeId) (vs : List Value) (n g : Nat) (hn : vs.length = n) (hm : n ≤ maxLen) (hg : g = w.heap.size) : RowAt (w.alloc (.cells vs.toArray t)) (some ⟨g, 0, none⟩) n vs := by
  subst hg; exact lit_row w t vs n hn hm
theorem lit_bytes' (w : World) (bs : List UInt8) (n g : Nat) (hn : bs.length = n) (hm : n ≤ maxLen) (hg : g = w.heap.size) : BytesAt (w.alloc (.cells (bvl bs).toArray 5)) (some ⟨g, 0, none⟩) n bs := by
  subst hg; exact lit_bytes w bs n hn hm

theorem lit_marked (w : World) (bs : List UInt8) (n : Nat) (fz : Nat × Nat) (hn : bs.length = n) : BytesAt (w.alloc (.cells (bvl bs).toArray 5 fz)) (some ⟨w.heap.size, 0, none⟩) n bs := by
  refine ⟨hn, fun _ => ⟨_, rfl, fun i c hi => ?_⟩⟩
  rw [add_plain, Nat.zero_add, cell_of_row _ _ i _ _ fz (heap_alloc_new w _), List.getElem?_toArray, bvl_get, hi]
  rfl

attribute [local irreducible] crc getX getE putE packE packB

end Go.Proofs.Ytifamhmiibhohaa.Wire

namespace Go.Proofs.Ytifamhmiibhohaa
open Go.RowKit

/-- A slice of integers that came in: nil, or a row of 'cap' cells that read as zs. -/
def IsRow (k : IntKind) (w : World) (a : Option Addr) (len cap : Nat) (zs : List Int) : Prop :=
  (a = none ∧ len = 0 ∧ cap = 0 ∧ zs = []) ∨
  ∃ x, a = some x ∧ len ≤ cap ∧ cap ≤ maxLen ∧ zs.length = cap ∧ (∀ i, i < zs.length → w.cell? (x.add i) = some (.int k (zs.getD i 0))) ∧ (∀ n ∈ zs, (Lit.int k n).wf = true)

theorem wf_int {k : IntKind} {n : Int} (h : (Lit.int k n).wf = true) : k.min ≤ n ∧ n ≤ k.max := by simpa [Lit.wf] using h
theorem wf_u8 {n : Int} (h : (Lit.int .u8 n).wf = true) : 0 ≤ n ∧ n < 256 := by
  have := wf_int h
  rw [show IntKind.u8.min = 0 by decide, show IntKind.u8.max = 255 by decide] at this; omega
theorem wf_u32 {n : Int} (h : (Lit.int .u32 n).wf = true) : ∃ s : BitVec 32, n = (s.toNat : Int) := by
  have := wf_int h
  rw [show IntKind.u32.min = 0 by decide, show IntKind.u32.max = 4294967295 by decide] at this
  exact ⟨BitVec.ofNat 32 n.toNat, by rw [BitVec.toNat_ofNat]; omega⟩
theorem wf_u64 {n : Int} (h : (Lit.int .u64 n).wf = true) : ∃ s : Nat, n = (s : Int) ∧ s < 18446744073709551616 := by
  have := wf_int h
  rw [show IntKind.u64.min = 0 by decide, show IntKind.u64.max = 18446744073709551615 by decide] at this
  exact ⟨n.toNat, by omega, by omega⟩

theorem row_at {k : IntKind} {w : World} {A : Option Addr} {len cap : Nat} {zs : List Int} (h : IsRow k w A len cap zs) :
    RowAt w A len ((zs.take len).map (Value.int k)) ∧ len ≤ cap ∧ (A = none → len = 0 ∧ cap = 0) ∧ (∀ n ∈ zs.take len, (Lit.int k n).wf = true) := by
  rcases h with ⟨rfl, rfl, rfl, rfl⟩ | ⟨x, rfl, hl, hm, hz, hc, hw⟩
  · exact ⟨RowAt.nil_ _ _, Nat.le_refl _, fun _ => ⟨rfl, rfl⟩, fun n h => by simp at h⟩
  · refine ⟨⟨by simp; omega, fun _ => ⟨x, rfl, fun i u hu => ?_⟩⟩, hl, (fun e => by cases e), fun n h => hw n (List.mem_of_mem_take h)⟩
    rw [List.getElem?_map, List.getElem?_take] at hu
    split at hu
    · rename_i hi
      have hlt : i < zs.length := by omega
      rw [List.getElem?_eq_getElem hlt] at hu
      injection hu with hu
      subst hu
      rw [hc i hlt, List.getD_eq_getElem?_getD, List.getElem?_eq_getElem hlt]; rfl
    · cases hu

theorem row_bytes {w : World} {A : Option Addr} {len cap : Nat} {zs : List Int} (h : IsRow .u8 w A len cap zs) :
    ∃ bs, BytesAt w A len bs ∧ len ≤ cap ∧ (A = none → len = 0 ∧ cap = 0) := by
  obtain ⟨hr, hl, hA, hw⟩ := row_at h
  refine ⟨(zs.take len).map fun z => UInt8.ofNat z.toNat, BytesAt.of_row ?_, hl, hA⟩
  have e : bvl ((zs.take len).map fun z => UInt8.ofNat z.toNat) = (zs.take len).map (Value.int .u8) := by
    rw [bvl, List.map_map]
    apply List.map_congr_left
    intro n hn
    have := wf_u8 (hw n hn)
    simp only [Function.comp, bval]
    rw [UInt8.toNat_ofNat', Nat.mod_eq_of_lt (by omega)]
    congr 1; omega
  rw [e]; exact hr
theorem row_ints {w : World} {A : Option Addr} {len cap : Nat} {zs : List Int} (h : IsRow .i64 w A len cap zs) :
    ∃ ws, RowAt w A len (ints ws) ∧ len ≤ cap ∧ (A = none → len = 0 ∧ cap = 0) ∧ (∀ z ∈ ws, -9223372036854775808 ≤ z ∧ z ≤ 9223372036854775807) := by
  obtain ⟨hr, hl, hA, hw⟩ := row_at h
  refine ⟨zs.take len, hr, hl, hA, fun z hz => ?_⟩
  exact bounds_i64 (hw z hz)
theorem row_nums {w : World} {A : Option Addr} {len cap : Nat} {zs : List Int} (h : IsRow .u64 w A len cap zs) :
    ∃ l, RowAt w A len (nums l) ∧ len ≤ cap ∧ (A = none → len = 0 ∧ cap = 0) ∧ (∀ x ∈ l, x < 18446744073709551616) := by
  obtain ⟨hr, hl, hA, hw⟩ := row_at h
  refine ⟨(zs.take len).map Int.toNat, ?_, hl, hA, fun x hx => ?_⟩
  · have e : nums ((zs.take len).map Int.toNat) = (zs.take len).map (Value.int .u64) := by
      rw [nums, List.map_map]
      apply List.map_congr_left
      intro n hn
      obtain ⟨s, rfl, hs⟩ := wf_u64 (hw n hn)
      rfl
    rw [e]; exact hr
  · rw [List.mem_map] at hx
    obtain ⟨n, hn, rfl⟩ := hx
    obtain ⟨s, rfl, hs⟩ := wf_u64 (hw n hn)
    simpa using hs
end Go.Proofs.Ytifamhmiibhohaa
