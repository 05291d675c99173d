
/-
  WORDS: rows of one's own of any element; append onto them, for the walk and at a step of a region that draws; bytes.Equal.
-/
import Derived.Test.YtafonjnanfekkaaA
import Derived.Shelf.Bytes.SlEqualAll
namespace Go.Proofs.Ytafonjnanfekkaa
open Go.RowKit
set_option linter.unusedVariables false
set_option linter.unusedSimpArgs false
section
variable {w w' : World}

theorem own_formN {base size : Nat} {t : TypeId} {v : Value} {n : Nat} {xs : List Value} (h : w.ownsRow base t size v n xs) (hn : 0 < n) :
    ∃ g cap cs, v = .slice (some ⟨g, 0, none⟩) n cap ∧ base ≤ g ∧ Blk w g t cs ∧ n ≤ cap ∧ cap ≤ maxLen ∧ cs.size = cap * size := by
  rcases h.2 with ⟨_, e⟩ | ⟨g, cap, cs, h1, h2, h3, h4, h5, h6, _⟩
  · omega
  · exact ⟨g, cap, cs, h1, h2, h3, h4, h5, h6⟩
theorem rowAt_ownN {base size : Nat} {t : TypeId} {A : Option Addr} {n c : Nat} {xs : List Value} (h : w.ownsRow base t size (.slice A n c) n xs) : RowAt w A (n * size) xs := by
  refine ⟨h.1, fun hn => ?_⟩
  have hn' : 0 < n := Nat.pos_of_mul_pos_right hn
  obtain ⟨g, cap, hv, _, hlt⟩ := h.form hn'
  have hA : A = some ⟨g, 0, none⟩ := by injection hv
  subst hA
  exact ⟨_, rfl, h.cells (g := g) rfl⟩
/-- Any value that owns a row is a slice of it. -/
theorem own_sliceN {base size : Nat} {t : TypeId} {v : Value} {n : Nat} {xs : List Value} (h : w.ownsRow base t size v n xs) :
    ∃ A cap, v = .slice A n cap ∧ RowAt w A (n * size) xs ∧ n ≤ cap ∧ cap ≤ maxLen ∧ (A = none → n = 0 ∧ cap = 0) ∧ (∀ a, A = some a → base ≤ a.block) := by
  rcases h.2 with ⟨e, e0⟩ | ⟨g, cap, cs, h1, h2, h3, h4, h5, h6, _⟩
  · subst e e0
    exact ⟨none, 0, rfl, rowAt_ownN h, Nat.le_refl _, by unfold maxLen; omega, fun _ => ⟨rfl, rfl⟩, fun a ha => by cases ha⟩
  · subst h1
    exact ⟨_, cap, rfl, rowAt_ownN h, h4, h5, (fun e => by cases e), fun a ha => by injection ha with ha; subst ha; exact h2⟩
theorem own_belowN {base size : Nat} {t : TypeId} {v : Value} {n : Nat} {xs : List Value} (h : w.ownsRow base t size v n xs) (hb : Below w.heap.size w w') : w'.ownsRow base t size v n xs :=
  h.kept (row := none) (only_of_below hb none) (by cases v.ownBlock with | none => exact .inl rfl | some k => exact .inr (by simp))
theorem own_grownN {base size g : Nat} {t : TypeId} {v : Value} {n : Nat} {xs : List Value} (h : w.ownsRow base t size v n xs) (hb : w.grownBy w' (some g)) (hne : v.ownBlock ≠ some g) : w'.ownsRow base t size v n xs :=
  h.kept hb (.inr hne)
theorem below_ownN {a : World} {base size : Nat} {t : TypeId} {v : Value} {n : Nat} {xs : List Value} (h : w.ownsRow base t size v n xs) (hb : Below a.heap.size a w) (hbase : a.heap.size ≤ base) (hg : w.grownBy w' v.ownBlock) : Below a.heap.size a w' :=
  below_only hb hg (fun g e => Nat.le_trans hbase (h.lt g e).1)
theorem own_mono {base base' size : Nat} {t : TypeId} {v : Value} {n : Nat} {xs : List Value} (h : w.ownsRow base t size v n xs) (hb : base' ≤ base) : w.ownsRow base' t size v n xs :=
  ⟨h.1, h.2.imp id fun ⟨g, cap, cur, h1, h2, h3⟩ => ⟨g, cap, cur, h1, Nat.le_trans hb h2, h3⟩⟩
/-- A literal's row is one's own. -/
theorem lit_ownN (w : World) (t : TypeId) (size : Nat) (vs : List Value) (n : Nat) (hn : vs.length = n * size) (hm : n ≤ maxLen) : (w.alloc (.cells vs.toArray t)).ownsRow w.heap.size t size (.slice (some ⟨w.heap.size, 0, none⟩) n n) n vs :=
  ⟨hn, .inr ⟨w.heap.size, n, vs.toArray, rfl, Nat.le_refl _, heap_alloc_new w _, Nat.le_refl _, hm, by simpa using hn, by simp [← hn]⟩⟩
theorem lit_rowN (w : World) (t : TypeId) (vs : List Value) (n g : Nat) (hn : vs.length = n) (hg : g = w.heap.size) : RowAt (w.alloc (.cells vs.toArray t)) (some ⟨g, 0, none⟩) n vs := by
  subst hg
  have h := rowAt_ownN (size := n) (n := 1) (c := 1) (w := w.alloc (.cells vs.toArray t)) (base := w.heap.size) (t := t) (xs := vs) (A := some ⟨w.heap.size, 0, none⟩)
    ⟨by omega, .inr ⟨w.heap.size, 1, vs.toArray, rfl, Nat.le_refl _, heap_alloc_new w _, Nat.le_refl _, by unfold maxLen; omega, by simp; omega, by simp [hn, List.take_of_length_le]⟩⟩
  rwa [Nat.one_mul] at h

theorem app_gen (w : World) {ops : Array Oper} {rest : List Oper} {o : Oper} {a : Act} {Q : Exit → Act → World → Prop} (T E : TypeId) (z : Value) (size bytes : Nat)
    (ht : Try.prog.underlying T = some (.slice E)) (hinf : (Try.prog.info? E).map (fun i => (i.zero, i.size, i.bytes)) = some (some z, size, bytes)) (hzs : z.cells.size = size) (hsz : 0 < size)
    (hgd : o.guard = none) (s x : Operand) (ho : o.op = .call { callee := .builtin .append, args := #[s, x], argTypes := #[T, T] })
    (base : Nat) (v : Value) (n : Nat) (xs : List Value) (hs : a.eval s = v) (hown : w.ownsRow base E size v n xs)
    (A : Option Addr) (m c : Nat) (news : List Value) (hx : a.eval x = .slice A m c) (hA : A = none → m = 0 ∧ c = 0) (hb : RowAt w A (m * size) news) (h1 : ∀ u ∈ news, u.oneCell' = true)
    (h63 : n + m ≤ maxLen) (hbd : (n + m) * bytes ≤ 140737488355328) (hbase : base ≤ w.heap.size)
    (h : ∀ v' w', w'.ownsRow base E size v' (n + m) (xs ++ news) → w.grownBy w' v.ownBlock → wpList Try.prog ops Q rest (a.put o.dst v') w') : wpList Try.prog ops Q (o :: rest) a w := by
  obtain ⟨i0, hi, hz0, hz1, hz2⟩ := info_parts hinf
  cases A with
  | none =>
    obtain ⟨rfl, rfl⟩ := hA rfl
    have e : news = [] := List.eq_nil_of_length_eq_zero (by rw [hb.len]; omega)
    subst e
    exact wpList_append_own_none hgd s x T ho base E i0 size ht hi v n xs hs hown hx (h v w (by simpa using hown) (World.grownBy.refl _ _))
  | some ad =>
    refine wpList_append_own w hgd s x T ho base E i0 z size bytes ht hi hz0 hz1 hz2 hzs hsz v n xs hs hown ad m c news hx hb.len ?_ h1 h63 hbd hbase (fun v' w' h1 h2 _ => h v' w' h1 h2)
    intro j u hu
    obtain ⟨a', e', hc⟩ := hb.2 (by have := (List.getElem?_eq_some_iff.1 hu).1; have := hb.len; omega)
    obtain rfl : ad = a' := by simpa using e'
    exact hc j u hu
theorem step_app_gen (w : World) {ops : Array Oper} {o : Oper} {a : Act} {K : Act → World → Prop} {Q : Exit → Act → World → Prop} {E' : Prop} (T E : TypeId) (z : Value) (size bytes : Nat)
    (ht : Try.prog.underlying T = some (.slice E)) (hinf : (Try.prog.info? E).map (fun i => (i.zero, i.size, i.bytes)) = some (some z, size, bytes)) (hzs : z.cells.size = size) (hsz : 0 < size)
    (hgd : o.guard = none) (s x : Operand) (ho : o.op = .call { callee := .builtin .append, args := #[s, x], argTypes := #[T, T] })
    (base : Nat) (v : Value) (n : Nat) (xs : List Value) (hs : a.eval s = v) (hown : w.ownsRow base E size v n xs)
    (ad : Addr) (m c : Nat) (news : List Value) (hx : a.eval x = .slice (some ad) m c) (hb : RowAt w (some ad) (m * size) news) (h1 : ∀ u ∈ news, u.oneCell' = true)
    (h63 : n + m ≤ maxLen) (hbd : (n + m) * bytes ≤ 140737488355328) (hbase : base ≤ w.heap.size)
    (h : ∀ v' w', w'.ownsRow base E size v' (n + m) (xs ++ news) → w.grownBy w' v.ownBlock → K (a.put o.dst v') w') :
    if Region.wanted o (yielded ops a.tmps) = true then Oper.wp Try.prog o a w K Q else E' := by
  have hw : Region.wanted o (yielded ops a.tmps) = true := by simp [Region.wanted, hgd]
  rw [if_pos hw]
  obtain ⟨i0, hi, hz0, hz1, hz2⟩ := info_parts hinf
  refine wp_append_own w s x T ho base E i0 z size bytes ht hi hz0 hz1 hz2 hzs hsz v n xs hs hown ad m c news hx hb.len ?_ h1 h63 hbd hbase (fun v' w' h1 h2 _ => h v' w' h1 h2)
  intro j u hu
  obtain ⟨a', e', hc⟩ := hb.2 (by have := (List.getElem?_eq_some_iff.1 hu).1; have := hb.len; omega)
  obtain rfl : ad = a' := by simpa using e'
  exact hc j u hu
end

theorem infoInt : (Try.prog.info? 3).map (fun i => (i.zero, i.size, i.bytes)) = some (some (.int .i64 0), 1, 8) := by kernel_rfl
theorem one_ints (zs : List Int) : ∀ u ∈ ints zs, u.oneCell' = true := fun u hu => by
  simp only [ints, List.mem_map] at hu
  obtain ⟨y, _, rfl⟩ := hu
  rfl
theorem one_nums (zs : List Nat) : ∀ u ∈ nums zs, u.oneCell' = true := fun u hu => by
  simp only [nums, List.mem_map] at hu
  obtain ⟨y, _, rfl⟩ := hu
  rfl
theorem app_i64 (w : World) {ops : Array Oper} {rest : List Oper} {o : Oper} {a : Act} {Q : Exit → Act → World → Prop} (hgd : o.guard = none) (s x : Operand)
    (ho : o.op = .call { callee := .builtin .append, args := #[s, x], argTypes := #[23, 23] })
    (base : Nat) (v : Value) (n : Nat) (xs : List Value) (hs : a.eval s = v) (hown : w.ownsRow base 3 1 v n xs)
    (A : Option Addr) (m c : Nat) (ys : List Int) (hx : a.eval x = .slice A m c) (hA : A = none → m = 0 ∧ c = 0) (hb : RowAt w A m (ints ys))
    (hbd : n + m ≤ 17592186044416) (hbase : base ≤ w.heap.size)
    (h : ∀ v' w', w'.ownsRow base 3 1 v' (n + m) (xs ++ ints ys) → w.grownBy w' v.ownBlock → wpList Try.prog ops Q rest (a.put o.dst v') w') : wpList Try.prog ops Q (o :: rest) a w :=
  app_gen w 23 3 (.int .i64 0) 1 8 Try.underlying23 infoInt rfl (by decide) hgd s x ho base v n xs hs hown A m c (ints ys) hx hA (by rwa [Nat.mul_one]) (one_ints ys) (by unfold maxLen; omega) (by omega) hbase h
theorem app_n64 (w : World) {ops : Array Oper} {rest : List Oper} {o : Oper} {a : Act} {Q : Exit → Act → World → Prop} (hgd : o.guard = none) (s x : Operand)
    (ho : o.op = .call { callee := .builtin .append, args := #[s, x], argTypes := #[22, 22] })
    (base : Nat) (v : Value) (n : Nat) (xs : List Value) (hs : a.eval s = v) (hown : w.ownsRow base 84 1 v n xs)
    (A : Option Addr) (m c : Nat) (ys : List Nat) (hx : a.eval x = .slice A m c) (hA : A = none → m = 0 ∧ c = 0) (hb : RowAt w A m (nums ys))
    (hbd : n + m ≤ 17592186044416) (hbase : base ≤ w.heap.size)
    (h : ∀ v' w', w'.ownsRow base 84 1 v' (n + m) (xs ++ nums ys) → w.grownBy w' v.ownBlock → wpList Try.prog ops Q rest (a.put o.dst v') w') : wpList Try.prog ops Q (o :: rest) a w :=
  app_gen w 22 84 (.int .u64 0) 1 8 Try.underlying22 infoU64 rfl (by decide) hgd s x ho base v n xs hs hown A m c (nums ys) hx hA (by rwa [Nat.mul_one]) (one_nums ys) (by unfold maxLen; omega) (by omega) hbase h
theorem own_ints {w : World} {base : Nat} {v : Value} {n : Nat} {zs : List Int} (h : w.ownsRow base 3 1 v n (ints zs)) :
    ∃ A cap, v = .slice A n cap ∧ RowAt w A n (ints zs) ∧ n ≤ cap ∧ cap ≤ maxLen ∧ (A = none → n = 0 ∧ cap = 0) ∧ (∀ a, A = some a → base ≤ a.block) := by
  have := own_sliceN h
  rwa [Nat.mul_one] at this
theorem own_nums {w : World} {base : Nat} {v : Value} {n : Nat} {l : List Nat} (h : w.ownsRow base 84 1 v n (nums l)) :
    ∃ A cap, v = .slice A n cap ∧ RowAt w A n (nums l) ∧ n ≤ cap ∧ cap ≤ maxLen ∧ (A = none → n = 0 ∧ cap = 0) ∧ (∀ a, A = some a → base ≤ a.block) := by
  have := own_sliceN h
  rwa [Nat.mul_one] at this

/-! ### bytes.Equal -/
theorem strOf (x : List UInt8) : strOfNums (x.map fun c => (c.toNat : Int)) = ⟨x.toArray⟩ := by
  unfold strOfNums
  rw [List.map_map]
  congr 2
  conv => rhs; rw [← List.map_id x]
  exact List.map_congr_left fun c _ => by simp
theorem conv_string {w : World} {A : Option Addr} {n : Nat} {x : List UInt8} (h : BytesAt w A n x) (c : Nat) : (convert 26 9 (.slice A n c)).run Try.prog w = .ok (.string ⟨x.toArray⟩) w := by
  have hl := h.len
  have hin : Lib.BytesIn w A n (x.map fun c => (c.toNat : Int)) := by
    intro hn
    obtain ⟨a, rfl, hc⟩ := h.2 hn
    refine Lib.BytesIn.of_cells (fun i hi => ?_) hn
    have hx : x[i]? = some x[i] := List.getElem?_eq_getElem (by omega)
    rw [hc i _ hx, List.getD_eq_getElem?_getD, List.getElem?_map, hx]; rfl
  rw [hin.convert (by simpa using hl) c 26 5 9 Try.underlying26 Try.underlying5 Try.underlying9, strOf]
set_option maxHeartbeats 1000000 in
theorem equal_any (A B : Option Addr) (n m ca cb : Nat) (x y : List UInt8) (w : World) (ha : BytesAt w A n x) (hb : BytesAt w B m y) :
    Calls Try.prog 72 #[.slice A n ca, .slice B m cb] w fun e w' => e = .returned (.bool (x == y)) ∧ w = w' := by
  have h1 := conv_string ha ca
  have h2 := conv_string hb cb
  clear ha hb
  go_enter Try.func72, Try.ntmps72
  go_wp2
  go_ret
  exact ⟨by congr 2, rfl⟩
end Go.Proofs.Ytafonjnanfekkaa
