
/-
  log.Lay, whatever comes in.
  WHAT A FRAME HANDS OVER, more: a transaction's writes.
  layer 7: a transaction's blocks, plain: how many, how long; which transactions may be.
-/
import Derived.Test.YtifamhmiibhohaaKR5N10
import Derived.SizedLaws
import Derived.Test.YtifamhmiibhohaaKR5N7
namespace Go.Proofs.Ytifamhmiibhohaa.Mem
open Go.RowKit Go.Proofs.Ytifamhmiibhohaa Go.Proofs.Ytifamhmiibhohaa.Wire Go.Proofs.Ytifamhmiibhohaa.Log Go.Shelf
set_option maxHeartbeats 16000000
set_option maxRecDepth 100000
set_option linter.unusedVariables false
set_option linter.unusedSimpArgs false

/-- Too long lists. -/
theorem lay_long (s : Int) (A R : Option Addr) (n c m d : Nat) (ws : List Wt) (rs : List Int) (w : World) (hwl : ws.length = n) (hrl : rs.length = m) (h : 4096 < n ∨ 4096 < m) :
    Calls Try.prog 6 #[.int .i64 s, .slice A n c, .slice R m d] w fun e w' => Laid w s ws rs e w' := by
  have hno : tOk s ws rs = false := tOk_long (by omega)
  by_cases hn : 4096 < n
  · have hn2 : (4096 : Int) < (n : Int) := by omega
    go_enter Try.func6, Try.ntmps6
    go_wp2_with fail
    refine bodyPost_ret (v := .tuple #[.slice none 0 0, .int .i64 22]) (by simp [results, Try.f6, go_sem]) rfl ?_
    exact .inl ⟨hno, rfl, (((Below.refl w.heap.size w).alloc (Nat.le_refl _) _).alloc (by simp) _).alloc (by simp; omega) _⟩
  · have hn2 : ¬ (4096 : Int) < (n : Int) := by omega
    have hm2 : (4096 : Int) < (m : Int) := by omega
    go_enter Try.func6, Try.ntmps6
    go_wp2_with fail
    refine bodyPost_ret (v := .tuple #[.slice none 0 0, .int .i64 22]) (by simp [results, Try.f6, go_sem]) rfl ?_
    exact .inl ⟨hno, rfl, (((Below.refl w.heap.size w).alloc (Nat.le_refl _) _).alloc (by simp) _).alloc (by simp; omega) _⟩
theorem lay_any (s : Int) (A R : Option Addr) (n c m d : Nat) (ws : List Wt) (rs : List Int) (w : World) (hw : WsIn w A ws) (hwl : ws.length = n) (hnc : n ≤ c) (hcm : c ≤ 9223372036854775807) (hA : 0 < n → A ≠ none)
    (hr : RowAt w R m (ints rs)) (hmd : m ≤ d) (hdm : d ≤ 9223372036854775807) (hR : 0 < m → R ≠ none) :
    Calls Try.prog 6 #[.int .i64 s, .slice A n c, .slice R m d] w fun e w' => Laid w s ws rs e w' := by
  by_cases h : 4096 < n ∨ 4096 < m
  · exact lay_long s A R n c m d ws rs w hwl (by have := hr.len; simpa [ints] using this) h
  · exact lay_main s A R n c m d ws rs w (by omega) (by omega) hw hwl hnc hcm hA hr hmd hdm hR
end Go.Proofs.Ytifamhmiibhohaa.Mem

namespace Go.Proofs.Ytifamhmiibhohaa
open Go.ChangeShapes Go.WideShapes Go.ChangeAt Go.RowKit Go.Joins Go.Proofs.Ytifamhmiibhohaa.Mem
set_option maxRecDepth 100000
set_option linter.unusedVariables false
set_option linter.unusedSimpArgs false
theorem mem_weightsAll {H : Type} {P : Program} {e : TypeId} : ∀ {l : List (DataW H)} {d : DataW H}, d ∈ l → ∀ n ∈ d.weights P e, n ∈ DataW.weightsAll P e l
  | x :: l, d, hd, n, hn => by
    simp only [DataW.weightsAll, List.mem_append]
    rcases List.mem_cons.1 hd with rfl | hd
    · exact .inl hn
    · exact .inr (mem_weightsAll hd n hn)
section
variable {H : Type} {enc : TypeId × Value → H} {w : World} {base : Nat} {held : Bool}
theorem cells_write : Try.prog.cellsOf 52 = 2 := by kernel_rfl
theorem cells_u8s : Try.prog.cellsOf 31 = 1 := by kernel_rfl
theorem bytes_write : Try.prog.bytesOf 52 = 32 := by kernel_rfl
theorem bytes_u8 : Try.prog.bytesOf 5 = 1 := by kernel_rfl
theorem bytes_of {n : Nat} {c : Value} {y : DataW H × List MemPlace} (h : DataW.trod enc Try.prog w base (fun _ => true) held n 31 [c] = some y) (hw : ∀ x ∈ y.1.weights Try.prog 31, x ≤ reachBytes) :
    ∃ (A : Option Addr) (len cap : Nat) (bs : List UInt8), c = .slice A len cap ∧ BytesAt w A len bs ∧ len ≤ cap ∧ cap ≤ 140737488351232 ∧ (A = none → len = 0 ∧ cap = 0) := by
  rcases open_ints Try.underlying31 Try.underlying5 (by kernel_rfl) h with ⟨hcs, _⟩ | ⟨x, l, c, zs, hcs, _, hl, hm, hz, hx, hcell, hwz⟩
  · simp at hcs
    subst hcs
    exact ⟨none, 0, 0, [], rfl, BytesAt.nil_ _ _, Nat.le_refl _, by omega, fun _ => ⟨rfl, rfl⟩⟩
  · simp at hcs
    subst hcs
    have hz2 : zs.length = c := by simpa using hz
    obtain ⟨bs, hb, h1, h2⟩ := Go.Proofs.Ytifamhmiibhohaa.row_bytes (w := w) (A := some x) (len := l) (cap := c) (zs := zs) (.inr ⟨x, rfl, hl, hm, hz2, hcell, hwz⟩)
    refine ⟨some x, l, c, bs, rfl, hb, hl, ?_, h2⟩
    rw [hx] at hw
    have := hw (((zs.take l).length + (zs.drop l).length) * 1) (by simp [DataW.weights, lits, Try.underlying31, bytes_u8])
    simp [reachBytes] at this
    omega
theorem write_parts {n : Nat} {cs : List Value} {y : DataW H × List MemPlace} (h : DataW.trod enc Try.prog w base (fun _ => true) held n 52 cs = some y) (hw : ∀ x ∈ y.1.weights Try.prog 52, x ≤ reachBytes) :
    ∃ (x : Int) (A : Option Addr) (len cap : Nat) (bs : List UInt8), cs = [.int .i64 x, .slice A len cap] ∧ BytesAt w A len bs ∧ len ≤ cap ∧ cap ≤ 140737488351232 ∧ (A = none → len = 0 ∧ cap = 0) := by
  obtain ⟨xs, n', _, hx, hlc, hlen, hg⟩ := DataW.trod_struct Try.underlying52 h
  rw [cells_write] at hlc
  match cs, hlc with
  | [c0, c1], _ =>
    have hl : xs.length = 2 := hlen
    obtain ⟨z0, f0⟩ := some_at hl 0 (by omega)
    obtain ⟨z1, f1⟩ := some_at hl 1 (by omega)
    have k0 := hg 0 _ rfl
    have k1 := hg 1 _ rfl
    simp only [cells_int, cells_u8s, f0, f1, List.drop_succ_cons, List.drop_zero, List.take_succ_cons, List.take_zero] at k0 k1
    obtain ⟨x, rfl, _⟩ := one_int k0
    obtain ⟨A, len, cap, bs, rfl, h1, h2, h3, h4⟩ := bytes_of k1 (fun u hu => hw u (by
      rw [hx]
      simp only [DataW.weights]
      rw [show Try.prog.underlying 52 = _ from Try.underlying52]
      exact DataW.weights_mem_each (j := 1) rfl (by rw [List.getElem?_map, f1]; rfl) u hu))
    exact ⟨x, A, len, cap, bs, rfl, h1, h2, h3, h4⟩
theorem open_writes {r : Reach} {b0 : Nat} {v : Value} {d : DataW H} {p : List MemPlace} (hv : Value.okWide Try.prog w r b0 22 v) (h : DataW.Trod enc Try.prog w base (fun _ => true) held 22 v d p)
    (hw : ∀ x ∈ d.weights Try.prog 22, x ≤ reachBytes) :
    ∃ (A : Option Addr) (len cap : Nat) (ws : List Wt), v = .slice A len cap ∧ WsIn w A ws ∧ ws.length = len ∧ len ≤ cap ∧ cap ≤ 9223372036854775807 ∧ (0 < len → A ≠ none) ∧ len ≤ 140737488351232 := by
  obtain ⟨a, len, cap, rfl⟩ := okWide_slice Try.underlying22 hv
  obtain ⟨fuel, hf⟩ := h
  rcases Go.Deep.open_slice Try.underlying22 hf with ⟨hcs, _⟩ | ⟨a', len', cap', m, n, D, Pl, hcs, _, hl, hm, hmm, hy, hi⟩
  · simp [Value.cells] at hcs
    obtain ⟨rfl, rfl, rfl⟩ := hcs
    exact ⟨none, 0, 0, [], rfl, fun i n b h => by simp at h, rfl, Nat.le_refl _, by omega, fun h => by omega, by omega⟩
  · simp [Value.cells] at hcs
    obtain ⟨rfl, rfl, rfl⟩ := hcs
    have hml : m = cap := by simpa using hmm
    subst hml
    simp only [Prod.mk.injEq] at hy
    rw [hy.1] at hw
    have hw2 : ∀ i, i < len → ∀ x ∈ (D i).weights Try.prog 52, x ≤ reachBytes := fun i hi2 x hx => hw x (by
      simp only [DataW.weights]
      rw [show Try.prog.underlying 22 = _ from Try.underlying22]
      exact List.mem_cons_of_mem _ (List.mem_append.2 (.inl (mem_weightsAll (List.mem_map.2 ⟨i, List.mem_range.2 hi2, rfl⟩) x hx))))
    have hw3 := hw ((len + (m - len)) * 32) (by simp [DataW.weights, Try.underlying22, bytes_write])
    simp only [reachBytes] at hw3
    obtain ⟨gs, hgl, hg⟩ := listOf (R := fun i (g : Wt) => ∃ A2 n2 c2, w.cell? (a'.add (i * 2)) = some (.int .i64 g.1) ∧ w.cell? ⟨(a'.add (i * 2)).block, (a'.add (i * 2)).off + 1, none⟩ = some (.slice A2 n2 c2) ∧ BytesAt w A2 n2 g.2 ∧ n2 ≤ c2 ∧ c2 ≤ 140737488351232 ∧ (A2 = none → n2 = 0 ∧ c2 = 0)) len (fun i hil => by
      obtain ⟨cs', hc, ht⟩ := hi i (by omega)
      rw [cells_write] at hc
      obtain ⟨x, A2, n2, c2, bs, rfl, h1, h2, h3, h4⟩ := write_parts ht (hw2 i hil)
      obtain ⟨_, _, hat⟩ := World.cells?_some hc
      have e0 := hat 0 (by omega)
      have e1 := hat 1 (by omega)
      exact ⟨(x, bs), A2, n2, c2, e0, by simpa [Addr.add] using e1, h1, h2, h3, h4⟩)
    refine ⟨some a', len, m, gs, rfl, fun i n b hib => ?_, hgl, hl, by unfold maxLen at hm; omega, (fun _ e => by cases e), by omega⟩
    obtain ⟨A2, n2, c2, h1, h2, h3, h4, h5, h6⟩ := hg i _ hib
    exact ⟨a', A2, n2, c2, rfl, h1, h2, h3, h4, h5, h6⟩
end
end Go.Proofs.Ytifamhmiibhohaa

namespace Go.Proofs.Ytifamhmiibhohaa.Mem
open Go.RowKit Go.Proofs.Ytifamhmiibhohaa Go.Proofs.Ytifamhmiibhohaa.Wire Go.Proofs.Ytifamhmiibhohaa.Log
set_option maxHeartbeats 8000000
set_option maxRecDepth 100000
set_option linter.unusedVariables false
set_option linter.unusedSimpArgs false

theorem tOk_all {s : Int} {ws : List Wt} {rs : List Int} (h : tOk s ws rs = true) : ws.length ≤ 4096 ∧ rs.length ≤ 4096 ∧ (∀ j, j < nch 48 ws.length → okW s (cutAt 48 ws j) = true) ∧ (∀ j, j < nch 60 rs.length → okR s (cutAt 60 rs j) = true) ∧ rMay 2 s [] 0 0 = true := by
  unfold tOk at h
  simp only [Bool.and_eq_true, decide_eq_true_eq, List.all_eq_true, List.mem_range] at h
  exact h
theorem nch_mul {k n : Nat} (hk : 1 ≤ k) : n ≤ nch k n * k ∧ ∀ j, j < nch k n → j * k < n := by
  refine ⟨?_, fun j hj => (nch_iff hk).1 hj⟩
  rcases Nat.lt_or_ge (nch k n * k) n with h | h
  · exact absurd ((nch_iff hk).2 h) (Nat.lt_irrefl _)
  · exact h
theorem flatW_n (s : Int) (ws : List Wt) : ∀ j, ((List.range j).flatMap fun j => layW s (cutAt 48 ws j)).length = j + min (j * 48) ws.length
  | 0 => by simp
  | j + 1 => by
    rw [List.range_succ, List.flatMap_append, List.length_append, flatW_n s ws j]
    simp only [List.flatMap_cons, List.flatMap_nil, List.append_nil, layW, List.length_cons, List.length_map, cutAt_len]
    omega
theorem flatR_n (s : Int) (rs : List Int) : ∀ j, ((List.range j).flatMap fun j => layR s (cutAt 60 rs j)).length = j
  | 0 => by simp
  | j + 1 => by
    rw [List.range_succ, List.flatMap_append, List.length_append, flatR_n s rs j]
    simp [layR]
theorem tHead_n (s : Int) (ws : List Wt) (rs : List Int) : (tHead s ws rs).length = ws.length + nch 48 ws.length + nch 60 rs.length := by
  unfold tHead
  rw [List.length_append, flatW_n, flatR_n]
  have := (nch_mul (k := 48) (n := ws.length) (by omega)).1
  omega
theorem tB_n (s : Int) (ws : List Wt) (rs : List Int) : (tB s ws rs).length = ws.length + nch 48 ws.length + nch 60 rs.length + 1 := by
  unfold tB
  rw [List.length_append, tHead_n]; rfl
theorem tHead_256 {s : Int} {ws : List Wt} {rs : List Int} (h : tOk s ws rs = true) : ∀ b ∈ tHead s ws rs, b.length = 256 := fun b hb => by
  obtain ⟨_, _, h3, h4, _⟩ := tOk_all h
  rcases List.mem_append.1 hb with hb | hb
  · obtain ⟨j, hj, hb⟩ := List.mem_flatMap.1 hb
    exact layW_len (h3 j (List.mem_range.1 hj)) b hb
  · obtain ⟨j, hj, hb⟩ := List.mem_flatMap.1 hb
    exact layR_len (h4 j (List.mem_range.1 hj)) b hb
theorem tHead_few {s : Int} {ws : List Wt} {rs : List Int} (h : tOk s ws rs = true) : (tHead s ws rs).length ≤ 6000 := by
  obtain ⟨h1, h2, _, _, _⟩ := tOk_all h
  rw [tHead_n]
  have a : nch 48 ws.length ≤ 100 := by
    unfold nch
    have := Nat.div_le_div_right (c := 48) (show ws.length + 48 - 1 ≤ 4143 by omega)
    omega
  have b : nch 60 rs.length ≤ 100 := by
    unfold nch
    have := Nat.div_le_div_right (c := 60) (show rs.length + 60 - 1 ≤ 4155 by omega)
    omega
  omega
theorem need_nch (n m : Nat) : need (n : Int) (m : Int) = ((n + nch 48 n + nch 60 m + 1 : Nat) : Int) := by
  unfold need parts nch
  omega
end Go.Proofs.Ytifamhmiibhohaa.Mem
