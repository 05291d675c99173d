
/-
  WORDS: append onto a row of one's own, for the walk. Bytes and 64-bit numbers.
-/
import Derived.Test.YtafonjnanfekkaaProg
import Derived.Test.YtafonjnanfekkaaC
import Derived.Laws.AppendOwnNone
namespace Go.Proofs.Ytafonjnanfekkaa
open Go.RowKit
set_option linter.unusedVariables false
set_option linter.unusedSimpArgs false

theorem infoU8 : (Try.prog.info? 5).map (fun i => (i.zero, i.size, i.bytes)) = some (some (.int .u8 0), 1, 1) := by kernel_rfl
theorem infoU64 : (Try.prog.info? 84).map (fun i => (i.zero, i.size, i.bytes)) = some (some (.int .u64 0), 1, 8) := by kernel_rfl

theorem app_u8 (w : World) {ops : Array Oper} {rest : List Oper} {o : Oper} {a : Act} {Q : Exit → Act → World → Prop} (hgd : o.guard = none) (s x : Operand)
    (ho : o.op = .call { callee := .builtin .append, args := #[s, x], argTypes := #[26, 26] })
    (base : Nat) (v : Value) (n : Nat) (xs : List Value) (hs : a.eval s = v) (hown : w.ownsRow base 5 1 v n xs)
    (A : Option Addr) (m c : Nat) (bs : List UInt8) (hx : a.eval x = .slice A m c) (hA : A = none → m = 0 ∧ c = 0) (hb : BytesAt w A m bs)
    (hbd : n + m ≤ 140737488355328) (hbase : base ≤ w.heap.size)
    (h : ∀ v' w', w'.ownsRow base 5 1 v' (n + m) (xs ++ bvl bs) → w.grownBy w' v.ownBlock → wpList Try.prog ops Q rest (a.put o.dst v') w') : wpList Try.prog ops Q (o :: rest) a w := by
  obtain ⟨i0, hi, hz0, hz1, hz2⟩ := info_parts infoU8
  cases A with
  | none =>
    obtain ⟨rfl, rfl⟩ := hA rfl
    have e : bs = [] := List.eq_nil_of_length_eq_zero hb.len
    subst e
    exact wpList_append_own_none hgd s x 26 ho base 5 i0 1 Try.underlying26 hi v n xs hs hown hx (h v w (by simpa [bvl] using hown) (World.grownBy.refl _ _))
  | some ad =>
    have hbl := hb.len
    refine wpList_append_own w hgd s x 26 ho base 5 i0 (.int .u8 0) 1 1 Try.underlying26 hi hz0 hz1 hz2 rfl (by decide) v n xs hs hown ad m c (bvl bs) hx (by rw [bvl_length]; omega) ?_ ?_ (by unfold maxLen; omega) (by omega) hbase (fun v' w' h1 h2 _ => h v' w' h1 h2)
    · intro j u hu
      obtain ⟨a', e', hc⟩ := hb.row.2 (by rw [← hbl]; have := (List.getElem?_eq_some_iff.1 hu).1; rw [bvl_length] at this; omega)
      obtain rfl : ad = a' := by simpa using e'
      exact hc j u hu
    · intro u hu
      simp only [bvl, List.mem_map] at hu
      obtain ⟨y, _, rfl⟩ := hu
      rfl

theorem app_u64 (w : World) {ops : Array Oper} {rest : List Oper} {o : Oper} {a : Act} {Q : Exit → Act → World → Prop} (hgd : o.guard = none) (s x : Operand)
    (ho : o.op = .call { callee := .builtin .append, args := #[s, x], argTypes := #[22, 22] })
    (base : Nat) (v : Value) (n : Nat) (xs : List Value) (hs : a.eval s = v) (hown : w.ownsRow base 84 1 v n xs)
    (ad : Addr) (c : Nat) (y : Nat) (hx : a.eval x = .slice (some ad) 1 c) (hb : w.cell? ad = some (.int .u64 (y : Int)))
    (hbd : n + 1 ≤ 17592186044416) (hbase : base ≤ w.heap.size)
    (h : ∀ v' w', w'.ownsRow base 84 1 v' (n + 1) (xs ++ nums [y]) → w.grownBy w' v.ownBlock → wpList Try.prog ops Q rest (a.put o.dst v') w') : wpList Try.prog ops Q (o :: rest) a w := by
  obtain ⟨i0, hi, hz0, hz1, hz2⟩ := info_parts infoU64
  refine wpList_append_own w hgd s x 22 ho base 84 i0 (.int .u64 0) 1 8 Try.underlying22 hi hz0 hz1 hz2 rfl (by decide) v n xs hs hown ad 1 c (nums [y]) hx (by simp [nums]) ?_ ?_ (by unfold maxLen; omega) (by omega) hbase (fun v' w' h1 h2 _ => h v' w' h1 h2)
  · intro j u hu
    cases j with
    | zero => simp [nums] at hu; subst hu; rw [show ad.add 0 = ad by unfold Addr.add; simp]; exact hb
    | succ j => simp [nums] at hu
  · intro u hu
    simp [nums] at hu; subst hu; rfl

/-- What a row of one's own is, spelt out. -/
theorem own_form {w : World} {base : Nat} {t : TypeId} {v : Value} {n : Nat} {xs : List Value} (h : w.ownsRow base t 1 v n xs) (hn : 0 < n) :
    ∃ g cap cs, v = .slice (some ⟨g, 0, none⟩) n cap ∧ base ≤ g ∧ Blk w g t cs ∧ n ≤ cap ∧ cap ≤ maxLen ∧ cs.size = cap := by
  rcases h.2 with ⟨_, e⟩ | ⟨g, cap, cs, h1, h2, h3, h4, h5, h6, _⟩
  · omega
  · exact ⟨g, cap, cs, h1, h2, h3, h4, h5, by omega⟩
theorem own_blk {w : World} {base g n cap : Nat} {t : TypeId} {xs : List Value} (h : w.ownsRow base t 1 (.slice (some ⟨g, 0, none⟩) n cap) n xs) :
    ∃ cs, base ≤ g ∧ Blk w g t cs ∧ n ≤ cap ∧ cap ≤ maxLen ∧ cs.size = cap := by
  rcases h.2 with ⟨e, _⟩ | ⟨g', cap', cs, h1, h2, h3, h4, h5, h6, _⟩
  · cases e
  · injection h1 with e1 e2 e3
    obtain rfl : g = g' := by injection e1 with e1; injection e1
    subst e3
    exact ⟨cs, h2, h3, h4, h5, by omega⟩
/-- Any value that owns bytes is a slice of them. -/
theorem own_slice {w : World} {base : Nat} {v : Value} {n : Nat} {bs : List UInt8} (h : w.ownsRow base 5 1 v n (bvl bs)) :
    ∃ A cap, v = .slice A n cap ∧ BytesAt w A n bs ∧ n ≤ cap ∧ cap ≤ maxLen ∧ (A = none → n = 0 ∧ cap = 0) ∧ (∀ a, A = some a → base ≤ a.block) := by
  rcases h.2 with ⟨e, e0⟩ | ⟨g, cap, cs, h1, h2, h3, h4, h5, h6, _⟩
  · subst e e0
    have : bs = [] := List.eq_nil_of_length_eq_zero (by have := h.1; simpa [bvl_length] using this)
    subst this
    exact ⟨none, 0, rfl, BytesAt.nil_ _ _, Nat.le_refl _, by unfold maxLen; omega, fun _ => ⟨rfl, rfl⟩, fun a ha => by cases ha⟩
  · subst h1
    exact ⟨_, cap, rfl, BytesAt.of_own h, h4, h5, (fun e => by cases e), fun a ha => by injection ha with ha; subst ha; exact h2⟩
theorem own_slice64 {w : World} {base : Nat} {v : Value} {n : Nat} {l : List Nat} (h : w.ownsRow base 84 1 v n (nums l)) :
    ∃ A cap, v = .slice A n cap ∧ RowAt w A n (nums l) ∧ n ≤ cap ∧ cap ≤ maxLen ∧ (∀ a, A = some a → base ≤ a.block) := by
  rcases h.2 with ⟨e, e0⟩ | ⟨g, cap, cs, h1, h2, h3, h4, h5, h6, _⟩
  · subst e e0
    have : nums l = [] := List.eq_nil_of_length_eq_zero (by have := h.1; simpa using this)
    rw [this]
    exact ⟨none, 0, rfl, RowAt.nil_ _ _, Nat.le_refl _, by unfold maxLen; omega, fun a ha => by cases ha⟩
  · subst h1
    exact ⟨_, cap, rfl, RowAt.of_own h, h4, h5, fun a ha => by injection ha with ha; subst ha; exact h2⟩
/-- A row of one's own stays, where only below its base nothing is promised but all else is. -/
theorem own_below {w w' : World} {base : Nat} {t : TypeId} {v : Value} {n : Nat} {xs : List Value} (h : w.ownsRow base t 1 v n xs) (hb : Below w.heap.size w w') : w'.ownsRow base t 1 v n xs :=
  h.kept (row := none) (only_of_below hb none) (by cases v.ownBlock with | none => exact .inl rfl | some k => exact .inr (by simp))
theorem own_grown {w w' : World} {base g : Nat} {t : TypeId} {v : Value} {n : Nat} {xs : List Value} (h : w.ownsRow base t 1 v n xs) (hb : w.grownBy w' (some g)) (hne : v.ownBlock ≠ some g) : w'.ownsRow base t 1 v n xs :=
  h.kept hb (.inr hne)
theorem below_own {a w w' : World} {base : Nat} {t : TypeId} {v : Value} {n : Nat} {xs : List Value} (h : w.ownsRow base t 1 v n xs) (hb : Below a.heap.size a w) (hbase : a.heap.size ≤ base) (hg : w.grownBy w' v.ownBlock) : Below a.heap.size a w' :=
  below_only hb hg (fun g e => Nat.le_trans hbase (h.lt g e).1)
end Go.Proofs.Ytafonjnanfekkaa
