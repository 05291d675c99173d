
/-
  THE WALKS of layer 1's law: lent, marked; the reference's Copied.
  layer 2's document (hayrickref02): what a disk is in memory; New, Read, Write.
  layer 2's document (hayrickref02): Read, Write.
  layer 6's document (hayrickref06): what a store is in memory; has, now, Mark, Held.
  layer 6's document (hayrickref06): without, used.
  layer 6's document (hayrickref06): next.
  layer 6's document (hayrickref06): a state comes to the others; Write.
  layer 6's document (hayrickref06): Back, Held.
-/
import Derived.Test.YtomoliickggghaaKR6N2
import Derived.Test.YtomoliickggghaaKR6N10
namespace Go.Proofs.Ytomoliickggghaa.Wire
open Go.RowKit
set_option maxHeartbeats 8000000
set_option maxRecDepth 100000
set_option linter.unusedVariables false
set_option linter.unusedSimpArgs false

theorem copied_any (A : Option Addr) (n cap : Nat) (bs : List UInt8) (w : World) (hc : n ≤ 140737488351232) (hA : A = none → n = 0 ∧ cap = 0) (hb : BytesAt w A n bs) :
    Calls Try.prog 69 #[.slice A n cap] w fun e w' => ∃ v, e = .returned v ∧ w'.ownsRow w.heap.size 5 1 v n (bvl bs) ∧ Below w.heap.size w w' := by
  have HB := Lib.hid hb
  have HA := Lib.hid hA
  clear hb hA
  go_enter Try.func69, Try.ntmps69
  go_wp2_with (at_builtin; refine app_u8 _ rfl _ _ rfl w.heap.size (.slice none 0 0) 0 [] rfl (World.ownsRow_nil _ _ _ _) A n cap bs rfl HA.out HB.out (by omega) (Nat.le_refl _) ?_; intro v' w' hown hg)
  go_ret
  refine ⟨_, rfl, by simpa using hown, below_of_only hg (fun g e => by cases e)⟩

end Go.Proofs.Ytomoliickggghaa.Wire

namespace Go.Proofs.Ytomoliickggghaa.Mem
open Go.RowKit Go.Proofs.Ytomoliickggghaa Go.Proofs.Ytomoliickggghaa.Wire
set_option maxHeartbeats 8000000
set_option maxRecDepth 100000
set_option linter.unusedVariables false
set_option linter.unusedSimpArgs false

/-- A document's disk: its blocks, what is pending, how many writes there were. -/
structure RD where
  l : List Bytes
  pend : List (Int × Bytes)
  n : Nat
/-- Values that are blocks' bytes. -/
def Dats (w : World) (col : Col) (B : Nat) (vs : List Value) (l : List Bytes) : Prop := vs.length = l.length ∧ ∀ (i : Nat) (v : Value) (b : Bytes), vs[i]? = some v → l[i]? = some b → Dat w col B v b
theorem Dats.keep {w w' : World} {a b : Col} {B lo hi : Nat} {vs : List Value} {l : List Bytes} (h : Dats w a B vs l) (ht : Tch lo hi a b w w') (hr : 2 ≤ lo ∨ hi ≤ 1) : Dats w' b B vs l := ⟨h.1, fun i v x h1 h2 => (h.2 i v x h1 h2).keep ht hr⟩
theorem Dats.snoc {w : World} {a : Col} {B : Nat} {vs : List Value} {l : List Bytes} {v : Value} {x : Bytes} (h : Dats w a B vs l) (hd : Dat w a B v x) : Dats w a B (vs ++ [v]) (l ++ [x]) := by
  refine ⟨by simp [h.1], fun i u y h1 h2 => ?_⟩
  rcases Nat.lt_or_ge i vs.length with hi | hi
  · rw [List.getElem?_append_left hi] at h1
    rw [List.getElem?_append_left (by rw [← h.1]; exact hi)] at h2
    exact h.2 i u y h1 h2
  · rw [List.getElem?_append_right hi] at h1
    rw [List.getElem?_append_right (by rw [← h.1]; exact hi)] at h2
    have h0 : i - vs.length = 0 := by
      have := (List.getElem?_eq_some_iff.1 h1).1
      simp at this; omega
    rw [h0] at h1
    rw [show i - l.length = 0 by rw [← h.1]; exact h0] at h2
    injection h1 with h1
    injection h2 with h2
    subst h1 h2
    exact hd
/-- A document's disk in memory: colours c (the struct), c + 1 (the row of blocks), c + 2 (what is pending). -/
structure RDiskAt (w : World) (col : Col) (B c p : Nat) (R : RD) : Prop where
  ex : ∃ vl vp vs, Bk w col B c p 76 #[vl, vp, .int .i64 R.n] ∧ Row w col B (c + 1) 34 1 vl R.l.length vs ∧ Dats w col B vs R.l ∧ Wr w col B (c + 2) vp R.pend
  lo : 16 ≤ c
  n : R.l.length ≤ 4096
  room : R.pend.length + R.n ≤ 1000000000
theorem RDiskAt.keep {w w' : World} {a b : Col} {B c p lo hi : Nat} {R : RD} (h : RDiskAt w a B c p R) (ht : Tch lo hi a b w w') (hlo : 2 ≤ lo ∨ hi ≤ 1) (hr : c + 3 ≤ lo ∨ hi ≤ c) : RDiskAt w' b B c p R := by
  obtain ⟨vl, vp, vs, h1, h2, h3, h4⟩ := h.ex
  exact ⟨⟨vl, vp, vs, h1.keep ht (by omega), h2.keep ht (by omega), h3.keep ht hlo, h4.keep ht hlo (by omega)⟩, h.lo, h.n, h.room⟩
def RD.fresh (N : Nat) : RD := { l := List.replicate N zero256, pend := [], n := 0 }
theorem rdnew_no (w : World) (n : Int) (h : n < 128 ∨ ¬ n < 128 ∧ 4096 < n) :
    Calls Try.prog 31 #[.int .i64 n] w fun e w' => e = .returned (.tuple #[.pointer none, .int .i64 22]) ∧ w = w' := by
  rcases h with h | ⟨h, h'⟩
  all_goals
    go_enter Try.func31, Try.ntmps31
    go_wp2_with fail
    go_ret2
    exact ⟨rfl, rfl⟩
def RDNew (w : World) (col : Col) (B c N : Nat) (e : Ending) (w' : World) : Prop := ∃ p col', e = .returned (.tuple #[ptr p, .int .i64 0]) ∧ Tch c (c + 3) col col' w w' ∧ RDiskAt w' col' B c p (RD.fresh N) ∧ w.heap.size ≤ p
theorem rdnew_any (w : World) (col : Col) (B c N : Nat) (h1 : 128 ≤ N) (h2 : N ≤ 4096) (hB : B ≤ w.heap.size) (hc : 16 ≤ c) :
    Calls Try.prog 31 #[.int .i64 N] w fun e w' => RDNew w col B c N e w' := by
  have hmk := make_bytes 256 (by omega)
  rw [show ((256 : Nat) : Int) = 256 from rfl] at hmk
  have h3 : ¬ (N : Int) < 128 := by omega
  have h4 : ¬ (4096 : Int) < (N : Int) := by omega
  obtain ⟨p, hp⟩ : ∃ p, w.heap.size = p := ⟨_, rfl⟩
  obtain ⟨w1, hw1⟩ : ∃ w1, w.alloc (.cells #[.slice none 0 0, .slice none 0 0, .int .i64 0] 76) = w1 := ⟨_, rfl⟩
  have T1 := Lib.hid (show Tch c (c + 3) col (paint col p c) w w1 by rw [← hw1]; exact ((Tch.refl _ _ _ _).alloc _).paint (by omega) (by simp; omega) (by omega))
  have K1 := Lib.hid (show Bk w1 (paint col p c) B c p 76 #[.slice none 0 0, .slice none 0 0, .int .i64 0] from ⟨by rw [← hw1, ← hp]; exact Blk.new _ _ _, paint_self _ _ _, by omega⟩)
  have HW1 := Lib.hid hw1
  have HP := Lib.hid hp
  clear hw1 hp
  go_enter Try.func31, Try.ntmps31
  go_wp2_with (first | rw [HP.out, HW1.out] | fail)
  go_loopw [5] (fun ii wr => ∃ (j : Nat) (col' : Col) (vl : Value) (vs : List Value), j ≤ N ∧ ii = .int .i64 j ∧ Tch c (c + 3) col col' w wr ∧ Bk wr col' B c p 76 #[vl, .slice none 0 0, .int .i64 0] ∧ Row wr col' B (c + 1) 34 1 vl j vs ∧ Dats wr col' B vs (List.replicate j zero256)) (fun ii _ => N - (intOf ii).toNat)
  case atStart => exact ⟨0, _, _, [], by omega, rfl, T1.out, K1.out, Row.nil _ _ _ _ _ _, rfl, fun i v b h => by cases h⟩
  case round =>
    obtain ⟨j, col', vl, vs, hj, rfl, ht, hk, hr, hd⟩ := hrel
    by_cases hlt : j < N
    · have hji : (j : Int) < (N : Int) := by omega
      have hBr : B ≤ wr.heap.size := Nat.le_trans hB ht.size
      have hvl : vs.length = j := by rw [hd.1]; simp
      obtain ⟨w2, hw2⟩ : ∃ w2, wr.drew = w2 := ⟨_, rfl⟩
      obtain ⟨g, hg⟩ : ∃ g, w2.heap.size = g := ⟨_, rfl⟩
      obtain ⟨w3, hw3⟩ : ∃ w3, w2.alloc (.cells (roomOf [] 256) 5) = w3 := ⟨_, rfl⟩
      obtain ⟨w4, hw4⟩ : ∃ w4, w3.alloc (.cells #[.slice (some ⟨g, 0, none⟩) 256 256] 34) = w4 := ⟨_, rfl⟩
      obtain ⟨col4, hcol4⟩ : ∃ col4, paint col' g 1 = col4 := ⟨_, rfl⟩
      have e2 : w2.heap.size = wr.heap.size := by rw [← hw2]; rfl
      have t3 : Tch 16 16 col' col4 wr w3 := by rw [← hcol4, ← hw3, ← hw2]; exact (((Tch.refl _ _ _ _).drew).alloc _).paint (by rw [← hg, e2]; exact Nat.le_refl _) (by rw [← hg, ← hw2]; simp) (by omega)
      have t34 : Tch 16 16 col4 col4 w3 w4 := by rw [← hw4]; exact (Tch.refl _ _ _ _).alloc _
      have t4 := t3.trans t34
      have D3 : Dat w3 col4 B (.slice (some ⟨g, 0, none⟩) 256 256) zero256 := ⟨by
        have := World.ownsRow_lit (base := B) (e := 5) (size := 1) w2 (roomOf [] 256) 256 (by rw [e2]; exact hBr) (by unfold maxLen; omega) (by rw [roomOf_size (by simp)])
        rw [← hw3, ← hg]
        exact this, fun g' e => by injection e with e; subst e; rw [← hcol4, paint_self]⟩
      have X4 := Lib.hid (show RowAt w4 (some ⟨w3.heap.size, 0, none⟩) (1 * 1) [.slice (some ⟨g, 0, none⟩) 256 256] by rw [← hw4]; exact lit_rowN w3 34 [.slice (some ⟨g, 0, none⟩) 256 256] (1 * 1) w3.heap.size rfl rfl)
      have D4 := Lib.hid (D3.keep t34 (by omega))
      have K2 : w2.cell? ⟨p, 0, none⟩ = some vl := by rw [← hw2]; exact hk.blk.cell 0
      have K3 := Lib.hid ((hk.keep t3 (by omega)).blk.cell 0)
      have K4 := Lib.hid (hk.keep t4 (by omega))
      have R4 := Lib.hid (hr.keep t4 (by omega))
      have DD4 := Lib.hid (hd.keep t4 (by omega))
      have T4 := Lib.hid (ht.trans (t4.any (Nat.le_refl _)))
      have hB4 : B ≤ w4.heap.size := Nat.le_trans hBr t4.size
      have HW2 := Lib.hid hw2
      have HW3 := Lib.hid hw3
      have HW4 := Lib.hid hw4
      have HG := Lib.hid hg
      clear ht hk hr hd hw2 hg hw3 hw4 hcol4 t3 t34 t4 D3 e2
      go_upto_region 7 with fail
      have hNS : w2.cell? ⟨p, 0, none⟩ = some vl := K2
      refine region_need_at (v := w2) (fun w' => w'.cell? ⟨p, 0, none⟩ = some vl) (fun i => decide (i < 8)) HW2.out (by kernel_rfl) ?_
      refine nw_take (i := 0) (v := ?_) rfl (by kernel_rfl) (by kernel_rfl) (fun _ _ d _ _ h => by cases d <;> exact h) (by exact hNS) (by kernel_rfl) ?_ (fun K hK => ?_); rotate_left; (· (intro w' hSw; (try dsimp only at hSw); go_simp; with_reducible rfl)); simp only [Act.put, List.setIfInBounds_toArray, List.set_cons_zero, List.set_cons_succ]; refine hK _ ?_; clear hK K
      refine nw_take (i := 1) (v := ?_) rfl (by kernel_rfl) (by kernel_rfl) (fun _ _ d _ _ h => by cases d <;> exact h) (by exact hNS) (by kernel_rfl) ?_ (fun K hK => ?_); rotate_left; (· (intro w' hSw; (try dsimp only at hSw); go_simp; with_reducible rfl)); simp only [Act.put, List.setIfInBounds_toArray, List.set_cons_zero, List.set_cons_succ]; refine hK _ ?_; clear hK K
      refine nw_take (i := 2) (v := ?_) rfl (by kernel_rfl) (by kernel_rfl) (fun _ _ d _ _ h => by cases d <;> exact h) (by exact hNS) (by kernel_rfl) ?_ (fun K hK => ?_); rotate_left; (· (intro w' hSw; (try dsimp only at hSw); go_simp; with_reducible rfl)); simp only [Act.put, List.setIfInBounds_toArray, List.set_cons_zero, List.set_cons_succ]; refine hK _ ?_; clear hK K
      refine nw_take (i := 3) (v := ?_) rfl (by kernel_rfl) (by kernel_rfl) (fun _ _ d _ _ h => by cases d <;> exact h) (by exact hNS) (by kernel_rfl) ?_ (fun K hK => ?_); rotate_left; (· (intro w' hSw; (try dsimp only at hSw); go_simp; with_reducible rfl)); simp only [Act.put, List.setIfInBounds_toArray, List.set_cons_zero, List.set_cons_succ]; refine hK _ ?_; clear hK K
      refine nw_take (i := 4) (v := ?_) rfl (by kernel_rfl) (by kernel_rfl) (fun _ _ d _ _ h => by cases d <;> exact h) (by exact hNS) (by kernel_rfl) ?_ (fun K hK => ?_); rotate_left; (· (intro w' hSw; (try dsimp only at hSw); go_simp; with_reducible rfl)); simp only [Act.put, List.setIfInBounds_toArray, List.set_cons_zero, List.set_cons_succ]; refine hK _ ?_; clear hK K
      clear hNS
      refine nw_one (i := 5) (E := False) rfl (by kernel_rfl) (fun K hK => ?_) (by kernel_rfl)
      go_simp
      rw [HW3.out, HG.out]
      refine hK.out _ _ ((fun _ => K3.out)) ?_
      clear hK K
      try simp only [Act.put, List.setIfInBounds_toArray, List.set_cons_zero, List.set_cons_succ]
      refine nw_one (i := 6) (E := False) rfl (by kernel_rfl) (fun K hK => ?_) (by kernel_rfl)
      go_simp
      rw [HW4.out]
      refine hK.out _ _ ((fun _ => K4.out.blk.cell 0)) ?_
      clear hK K
      try simp only [Act.put, List.setIfInBounds_toArray, List.set_cons_zero, List.set_cons_succ]
      refine nw_one (i := 7) (E := False) rfl (by kernel_rfl) (fun K hK => ?_) (by kernel_rfl)
      refine step_app_row _ 44 34 (.slice none 0 0) 1 24 Try.underlying44 info_rows rfl (by decide) rfl (.tmp 23) (.tmp 25) rfl col4 B (c + 1) (c + 1) (c + 2) vl j vs rfl R4.out ⟨by omega, by omega⟩ ⟨w3.heap.size, 0, none⟩ 1 1 [.slice (some ⟨g, 0, none⟩) 256 256] rfl X4.out (by intro u hu; simp at hu; subst hu; rfl) (by unfold maxLen; omega) (by omega) hB4 ?_
      intro v7 w7 col7 r7 t7
      obtain ⟨g7, cap7, _, rfl, _⟩ := own_form r7.own (by omega)
      have K7 := Lib.hid (K4.out.keep t7 (by omega))
      have D7 := Lib.hid ((DD4.out.keep t7 (by omega)).snoc (D4.out.keep t7 (by omega)))
      have R7 := Lib.hid r7
      have T7 := Lib.hid (T4.out.trans (t7.mono (by omega) (by omega)))
      have c7 : w7.cell? ⟨p, 0, none⟩ = some vl := K7.out.blk.cell 0
      have z7 : w7.frozen? ⟨p, 0, none⟩ = false := K7.out.blk.frozen 0
      clear r7 t7 K4 DD4 D4 R4 T4 X4
      refine hK.out _ _ ((fun _ => K7.out.blk.cell 0)) ?_
      clear hK K
      try simp only [Act.put, List.setIfInBounds_toArray, List.set_cons_zero, List.set_cons_succ]
      refine nw_one (i := 8) (E := False) rfl (by kernel_rfl) (fun K hK => ?_) (by kernel_rfl)
      go_simp
      refine hK.out _ _ ((fun h => absurd h (by decide))) ?_
      clear hK K
      try simp only [Act.put, List.setIfInBounds_toArray, List.set_cons_zero, List.set_cons_succ]
      refine nw_one (i := 9) (E := False) rfl (by kernel_rfl) (fun K hK => ?_) (by kernel_rfl)
      go_simp
      refine hK.out _ _ ((fun h => absurd h (by decide))) ?_
      clear hK K
      try simp only [Act.put, List.setIfInBounds_toArray, List.set_cons_zero, List.set_cons_succ]
      refine nw_one (i := 10) (E := False) rfl (by kernel_rfl) (fun K hK => ?_) (by kernel_rfl)
      go_simp
      refine hK.out _ _ ((fun h => absurd h (by decide))) ?_
      clear hK K
      try simp only [Act.put, List.setIfInBounds_toArray, List.set_cons_zero, List.set_cons_succ]
      refine nw_end (by kernel_rfl) ?_
      have t8 : Tch c (c + 1) col7 col7 w7 (w7.setCell ⟨p, 0, none⟩ (.slice (some ⟨g7, 0, none⟩) (j + 1) cap7)) := (Tch.refl _ _ _ _).setCell (p := ⟨p, 0, none⟩) (by rw [K7.out.c]; omega) _
      have K8 := Lib.hid (K7.out.set 0 (.slice (some ⟨g7, 0, none⟩) (j + 1) cap7))
      have R8 := Lib.hid (R7.out.keep t8 (by omega))
      have D8 := Lib.hid (D7.out.keep t8 (by omega))
      have T8 := Lib.hid (T7.out.trans (t8.mono (by omega) (by omega)))
      clear t8 c7 z7
      go_wp2_with fail
      go_roundw
      case rel => exact ⟨j + 1, col7, _, _, by omega, by go_num, T8.out, K8.out, R8.out, by rw [List.replicate_succ']; exact D8.out⟩
      case measure => simp [intOf]; omega
    · obtain rfl : j = N := by omega
      have T := Lib.hid ht
      have KK := Lib.hid hk
      have RR := Lib.hid hr
      have DD := Lib.hid hd
      clear ht hk hr hd
      go_wp2_with fail
      go_ret2
      exact ⟨p, col', rfl, T.out, ⟨⟨vl, .slice none 0 0, vs, KK.out, by simp only [RD.fresh, List.length_replicate]; exact RR.out, DD.out, Wr.nil _ _ _ _⟩, hc, by simp [RD.fresh]; omega, by simp [RD.fresh]⟩, by have := HP.out; omega⟩
end Go.Proofs.Ytomoliickggghaa.Mem

namespace Go.Proofs.Ytomoliickggghaa.Mem
open Go.RowKit Go.Proofs.Ytomoliickggghaa Go.Proofs.Ytomoliickggghaa.Wire
set_option maxHeartbeats 8000000
set_option maxRecDepth 100000
set_option linter.unusedVariables false
set_option linter.unusedSimpArgs false

/-- The last bytes of a block in a list, or others. -/
def lastOf (n : Int) : List (Int × Bytes) → Bytes → Bytes
  | [], b => b
  | (m, x) :: l, b => lastOf n l (if m = n then x else b)
theorem lastOf_snoc (n m : Int) (x : Bytes) : ∀ (l : List (Int × Bytes)) (b : Bytes), lastOf n (l ++ [(m, x)]) b = if m = n then x else lastOf n l b
  | [], b => rfl
  | (k, y) :: l, b => lastOf_snoc n m x l _
def RD.has (R : RD) (n : Int) : Bool := decide (0 ≤ n ∧ n < (R.l.length : Int))
def RD.get (R : RD) (n : Int) : Bytes := lastOf n R.pend ((R.l[n.toNat]?).getD [])
def RD.readB (R : RD) (n : Int) : Bytes := if R.has n = true then R.get n else []
def RD.readE (R : RD) (n : Int) : Int := if R.has n = true then 0 else 5
def RD.write (R : RD) (n : Int) (b : Bytes) : RD := { R with pend := R.pend ++ [(n, b)], n := R.n + 1 }
theorem rdread_any (w : World) (col : Col) (B c p : Nat) (R : RD) (n : Int) (h : RDiskAt w col B c p R) :
    Calls Try.prog 72 #[ptr p, .int .i64 n] w fun e w' => ∃ v, e = .returned (.tuple #[v, .int .i64 (R.readE n)]) ∧ Below w.heap.size w w' ∧ w'.ownsRow w.heap.size 5 1 v (R.readB n).length (bvl (R.readB n)) := by
  obtain ⟨vl, vp, vs, h1, h2, h3, h4⟩ := h.ex
  obtain ⟨A, cl, rfl, _, hcl, hcm, hA⟩ := row_len h2
  have c0 : w.cell? ⟨p, 0, none⟩ = some (.slice A R.l.length cl) := h1.blk.cell 0
  cases hh : R.has n with
  | false =>
    have hno : ¬ (0 ≤ n ∧ n < (R.l.length : Int)) := of_decide_eq_false hh
    have HE := Lib.hid (show R.readE n = 5 by rw [RD.readE, hh]; rfl)
    have HB := Lib.hid (show R.readB n = [] by rw [RD.readB, hh]; rfl)
    clear h1 h2 h3 h4 h hA
    unfold ptr at *
    generalize R.l.length = N at *
    by_cases h0 : n < 0
    · go_enter Try.func72, Try.ntmps72
      go_wp2_with fail
      go_ret2
      exact ⟨_, by rw [HE.out]; rfl, Below.refl _ _, by rw [HB.out]; exact World.ownsRow_nil _ _ _ _⟩
    · have h1 : (N : Int) ≤ n := by omega
      have h00 : ¬ n < 0 := h0
      go_enter Try.func72, Try.ntmps72
      go_wp2_with fail
      go_ret2
      exact ⟨_, by rw [HE.out]; rfl, Below.refl _ _, by rw [HB.out]; exact World.ownsRow_nil _ _ _ _⟩
  | true =>
    have hn : 0 ≤ n ∧ n < (R.l.length : Int) := of_decide_eq_true hh
    have HE := Lib.hid (show R.readE n = 0 by rw [RD.readE, hh]; rfl)
    have HB := Lib.hid (show R.readB n = R.get n by rw [RD.readB, hh]; rfl)
    obtain ⟨k, rfl⟩ := Int.eq_ofNat_of_zero_le hn.1
    have hk : k < R.l.length := by omega
    obtain ⟨g, rfl, _⟩ := hA (by omega)
    obtain ⟨b0, hb0⟩ : ∃ b0, R.l[k]? = some b0 := ⟨_, List.getElem?_eq_getElem hk⟩
    obtain ⟨v0, hv0⟩ : ∃ v0, vs[k]? = some v0 := ⟨_, List.getElem?_eq_getElem (by rw [h3.1]; exact hk)⟩
    obtain ⟨g0, cp0, rfl, hby, _⟩ := (h3.2 k v0 b0 hv0 hb0).form
    have ck : w.cell? ⟨g, k, none⟩ = some (.slice (some ⟨g0, 0, none⟩) 256 cp0) := by rw [h2.own.cellAt k (by omega)]; exact hv0
    have HG := Lib.hid (show R.get k = lastOf k R.pend b0 by rw [RD.get, Int.toNat_natCast, hb0]; rfl)
    obtain ⟨AP, cpp, hvp, hpl, hpm⟩ := h4.form
    have c1 : w.cell? ⟨p, 1, none⟩ = some vp := h1.blk.cell 1
    rw [hvp] at c1
    rw [hvp] at h4
    have HP := Lib.hid h4
    have H0 := Lib.hid hby
    obtain ⟨K, hK⟩ : ∃ K, R.pend.length = K := ⟨_, rfl⟩
    rw [hK] at c1 hpl HP
    have HK := Lib.hid hK
    have h00 : ¬ (k : Int) < 0 := by omega
    have h01 : ¬ (R.l.length : Int) ≤ (k : Int) := by omega
    have hkn : ((k : Int)).toNat = k := by omega
    have h02 : (k : Int) < (R.l.length : Int) := hn.2
    have h03 : (0 : Int) ≤ (k : Int) := by omega
    generalize hNl : R.l.length = N at *
    clear h1 h2 h3 h4 h hn hv0 hb0 hby hvp hK hNl
    unfold ptr at *
    go_enter Try.func72, Try.ntmps72
    go_wp2_with fail
    go_loopw [6, 7] (fun oo ii wr => ∃ (i g1 c1 : Nat), ii = .int .i64 i ∧ i ≤ K ∧ oo = .slice (some ⟨g1, 0, none⟩) 256 c1 ∧ BytesAt w (some ⟨g1, 0, none⟩) 256 (lastOf k (R.pend.take i) b0) ∧ wr = w) (fun _ ii _ => K - (intOf ii).toNat)
    case atStart => exact ⟨0, g0, cp0, rfl, by omega, rfl, H0.out, rfl⟩
    case round =>
      obtain ⟨i, g1, c1', rfl, hi, rfl, hb, rfl⟩ := hrel
      have HBY := Lib.hid hb
      clear hb
      by_cases hlt : i < K
      · obtain ⟨⟨m, bs⟩, hm⟩ : ∃ x, R.pend[i]? = some x := ⟨_, List.getElem?_eq_getElem (by rw [HK.out]; exact hlt)⟩
        have hP := HP.out
        rw [← HK.out] at hP
        obtain ⟨gp, g2, c2, rfl, k0, k1, hy2⟩ := hP.at_ hm
        have hii : (i : Int) < (K : Int) := by omega
        have hin : ((i : Int)).toNat = i := by omega
        have HS := Lib.hid (show lastOf k (R.pend.take (i + 1)) b0 = if m = (k : Int) then bs else lastOf k (R.pend.take i) b0 by rw [List.take_add_one, hm]; exact lastOf_snoc _ _ _ _ _)
        have HY2 := Lib.hid hy2
        clear hP hm hy2
        by_cases hmk : m = (k : Int)
        · have hmb : (m == (k : Int)) = true := by simpa using hmk
          have e := HS.out
          rw [if_pos hmk] at e
          have HE2 := Lib.hid e
          clear e hmk
          go_wp2_with (first | simp only [hmb] | fail)
          go_roundw
          case rel => exact ⟨i + 1, g2, c2, by go_num, by omega, rfl, by rw [HE2.out]; exact HY2.out, by first | rfl | trivial⟩
          case measure => simp [intOf]; omega
        · have hmb : (m == (k : Int)) = false := by simpa using hmk
          have e := HS.out
          rw [if_neg hmk] at e
          have HE2 := Lib.hid e
          clear e
          go_wp2_with (first | simp only [hmb] | fail)
          go_roundw
          case rel => exact ⟨i + 1, g1, c1', by go_num, by omega, rfl, by rw [HE2.out]; exact HBY.out, by first | rfl | trivial⟩
          case measure => simp [intOf]; omega
      · obtain rfl : i = K := by omega
        have e : lastOf k (R.pend.take i) b0 = R.get k := by rw [List.take_of_length_le (by rw [HK.out]; exact Nat.le_refl _), HG.out]
        have hb := HBY.out
        rw [e] at hb
        have hl := hb.len
        have HC := Lib.hid (Wire.copied_any (some ⟨g1, 0, none⟩) 256 c1' (R.get k) wr (by omega) (fun e => by cases e) hb)
        clear e hb
        go_wp2_with fail
        refine HC.out.mono ?_
        rintro e w5 ⟨v5, rfl, ho5, hb5⟩
        have O5 := Lib.hid ho5
        have B5 := Lib.hid hb5
        clear ho5 hb5
        go_wp2_with fail
        go_ret2
        exact ⟨v5, by rw [HE.out]; rfl, B5.out, by rw [HB.out, hl]; exact O5.out⟩
theorem rdwrite_has (w : World) (col : Col) (B c p : Nat) (R : RD) (n : Int) (v : Value) (h : RDiskAt w col B c p R) (hn : R.has n = false) :
    Calls Try.prog 74 #[ptr p, .int .i64 n, v] w fun e w' => e = .returned (.int .i64 5) ∧ w = w' := by
  obtain ⟨vl, vp, vs, h1, h2, h3, h4⟩ := h.ex
  obtain ⟨A, cl, rfl, _⟩ := row_len h2
  have c0 : w.cell? ⟨p, 0, none⟩ = some (.slice A R.l.length cl) := h1.blk.cell 0
  have hno : ¬ (0 ≤ n ∧ n < (R.l.length : Int)) := of_decide_eq_false hn
  clear h1 h2 h3 h4 h hn
  unfold ptr at *
  generalize R.l.length = N at *
  by_cases h0 : n < 0
  · go_enter Try.func74, Try.ntmps74
    go_wp2_with fail
    go_ret
    exact ⟨rfl, rfl⟩
  · have h1 : (N : Int) ≤ n := by omega
    have h00 : ¬ n < 0 := h0
    go_enter Try.func74, Try.ntmps74
    go_wp2_with fail
    go_ret
    exact ⟨rfl, rfl⟩
theorem rdwrite_len (w : World) (col : Col) (B c p : Nat) (R : RD) (n : Int) (A' : Option Addr) (len cap : Nat) (h : RDiskAt w col B c p R) (hn : R.has n = true) (hl : len ≠ 256) :
    Calls Try.prog 74 #[ptr p, .int .i64 n, .slice A' len cap] w fun e w' => e = .returned (.int .i64 22) ∧ w = w' := by
  obtain ⟨vl, vp, vs, h1, h2, h3, h4⟩ := h.ex
  obtain ⟨A, cl, rfl, _⟩ := row_len h2
  have c0 : w.cell? ⟨p, 0, none⟩ = some (.slice A R.l.length cl) := h1.blk.cell 0
  have hn2 : 0 ≤ n ∧ n < (R.l.length : Int) := of_decide_eq_true hn
  have h00 : ¬ n < 0 := by omega
  have h01 : ¬ (R.l.length : Int) ≤ n := by omega
  have hlb : ((len : Int) != 256) = true := by simp; omega
  clear h1 h2 h3 h4 h hn
  unfold ptr at *
  generalize R.l.length = N at *
  go_enter Try.func74, Try.ntmps74
  go_wp2_with fail
  go_ret
  exact ⟨rfl, rfl⟩
theorem rdwrite_any (w : World) (col : Col) (B c p : Nat) (R : RD) (n : Int) (A' : Option Addr) (cap : Nat) (bs : Bytes) (h : RDiskAt w col B c p R) (hn : R.has n = true) (hb : BytesAt w A' 256 bs) (hB : B ≤ w.heap.size) (hroom : R.pend.length + R.n + 2 ≤ 1000000000) :
    Calls Try.prog 74 #[ptr p, .int .i64 n, .slice A' 256 cap] w fun e w' => ∃ col', e = .returned (.int .i64 0) ∧ Tch c (c + 3) col col' w w' ∧ RDiskAt w' col' B c p (R.write n bs) := by
  obtain ⟨vl, vp, vs, h1, h2, h3, h4⟩ := h.ex
  obtain ⟨A, cl, rfl, _⟩ := row_len h2
  have c0 : w.cell? ⟨p, 0, none⟩ = some (.slice A R.l.length cl) := h1.blk.cell 0
  have hn2 : 0 ≤ n ∧ n < (R.l.length : Int) := of_decide_eq_true hn
  have h00 : ¬ n < 0 := by omega
  have h01 : ¬ (R.l.length : Int) ≤ n := by omega
  have hlb : (((256 : Nat) : Int) != 256) = false := by decide
  have hlo := h.lo
  have HNN := Lib.hid h.n
  obtain ⟨a', rfl⟩ : ∃ a, A' = some a := by
    obtain ⟨a, _, h1, _⟩ := hb.at_ (k := 0) (by omega)
    exact ⟨a, h1⟩
  obtain ⟨w2, hw2⟩ : ∃ w2, w.drew = w2 := ⟨_, rfl⟩
  have t2 : Tch 16 16 col col w w2 := by rw [← hw2]; exact (Tch.refl _ _ _ _).drew
  have K2 := Lib.hid (h1.keep t2 (by omega))
  have L2 := Lib.hid (h2.keep t2 (by omega))
  have D2 := Lib.hid (h3.keep t2 (by omega))
  have P2 := Lib.hid (h4.keep t2 (by omega) (by omega))
  have T2 := Lib.hid t2
  have hB2 : B ≤ w2.heap.size := Nat.le_trans hB t2.size
  have HC := Lib.hid (Wire.copied_any (some a') 256 cap bs w2 (by omega) (fun e => by cases e) (by rw [← hw2]; exact hb.drew))
  have HW2 := Lib.hid hw2
  have c2 : w2.cell? ⟨p, 1, none⟩ = some vp := K2.out.blk.cell 1
  clear h1 h2 h3 h4 h hn hb hw2 t2 hB
  unfold ptr at *
  obtain ⟨N, hN⟩ : ∃ N, R.l.length = N := ⟨_, rfl⟩
  rw [hN] at c0 h01 L2 hn2
  have HN := Lib.hid hN
  clear hN
  go_enter Try.func74, Try.ntmps74
  go_wp2_with fail
  have hNS : w2.cell? ⟨p, 1, none⟩ = some vp := c2
  refine region_need_at (v := w2) (fun w' => w'.cell? ⟨p, 1, none⟩ = some vp) (fun i => decide (i < 11)) HW2.out (by kernel_rfl) ?_
  refine nw_take (i := 0) (v := ?_) rfl (by kernel_rfl) (by kernel_rfl) (fun _ _ d _ _ h => by cases d <;> exact h) (by exact hNS) (by kernel_rfl) ?_ (fun K hK => ?_); rotate_left; (· (intro w' hSw; (try dsimp only at hSw); go_simp; with_reducible rfl)); simp only [Act.put, List.setIfInBounds_toArray, List.set_cons_zero, List.set_cons_succ]; refine hK _ ?_; clear hK K
  refine nw_take (i := 1) (v := ?_) rfl (by kernel_rfl) (by kernel_rfl) (fun _ _ d _ _ h => by cases d <;> exact h) (by exact hNS) (by kernel_rfl) ?_ (fun K hK => ?_); rotate_left; (· (intro w' hSw; (try dsimp only at hSw); go_simp; with_reducible rfl)); simp only [Act.put, List.setIfInBounds_toArray, List.set_cons_zero, List.set_cons_succ]; refine hK _ ?_; clear hK K
  refine nw_take (i := 2) (v := ?_) rfl (by kernel_rfl) (by kernel_rfl) (fun _ _ d _ _ h => by cases d <;> exact h) (by exact hNS) (by kernel_rfl) ?_ (fun K hK => ?_); rotate_left; (· (intro w' hSw; (try dsimp only at hSw); go_simp; with_reducible rfl)); simp only [Act.put, List.setIfInBounds_toArray, List.set_cons_zero, List.set_cons_succ]; refine hK _ ?_; clear hK K
  refine nw_take (i := 3) (v := ?_) rfl (by kernel_rfl) (by kernel_rfl) (fun _ _ d _ _ h => by cases d <;> exact h) (by exact hNS) (by kernel_rfl) ?_ (fun K hK => ?_); rotate_left; (· (intro w' hSw; (try dsimp only at hSw); go_simp; with_reducible rfl)); simp only [Act.put, List.setIfInBounds_toArray, List.set_cons_zero, List.set_cons_succ]; refine hK _ ?_; clear hK K
  refine nw_take (i := 4) (v := ?_) rfl (by kernel_rfl) (by kernel_rfl) (fun _ _ d _ _ h => by cases d <;> exact h) (by exact hNS) (by kernel_rfl) ?_ (fun K hK => ?_); rotate_left; (· (intro w' hSw; (try dsimp only at hSw); go_simp; with_reducible rfl)); simp only [Act.put, List.setIfInBounds_toArray, List.set_cons_zero, List.set_cons_succ]; refine hK _ ?_; clear hK K
  refine nw_take (i := 5) (v := ?_) rfl (by kernel_rfl) (by kernel_rfl) (fun _ _ d _ _ h => by cases d <;> exact h) (by exact hNS) (by kernel_rfl) ?_ (fun K hK => ?_); rotate_left; (· (intro w' hSw; (try dsimp only at hSw); go_simp; with_reducible rfl)); simp only [Act.put, List.setIfInBounds_toArray, List.set_cons_zero, List.set_cons_succ]; refine hK _ ?_; clear hK K
  refine nw_take (i := 6) (v := ?_) rfl (by kernel_rfl) (by kernel_rfl) (fun _ _ d _ _ h => by cases d <;> exact h) (by exact hNS) (by kernel_rfl) ?_ (fun K hK => ?_); rotate_left; (· (intro w' hSw; (try dsimp only at hSw); go_simp; with_reducible rfl)); simp only [Act.put, List.setIfInBounds_toArray, List.set_cons_zero, List.set_cons_succ]; refine hK _ ?_; clear hK K
  clear hNS
  refine nw_one (i := 7) (E := False) rfl (by kernel_rfl) (fun K hK => ?_) (by kernel_rfl)
  go_simp
  refine HC.out.mono ?_
  rintro e w3 ⟨v3, rfl, ho3, hb3⟩
  obtain ⟨g3, cap3, _, rfl, hg3, _⟩ := own_form ho3 (by omega)
  obtain ⟨col3, hcol3⟩ : ∃ col3, paint col g3 1 = col3 := ⟨_, rfl⟩
  have t3 : Tch 16 16 col col3 w2 w3 := by rw [← hcol3]; exact (Tch.of_below hb3).paint hg3 (ho3.lt _ rfl).2 (by omega)
  have D3 := Lib.hid (show Dat w3 col3 B (.slice (some ⟨g3, 0, none⟩) 256 cap3) bs from Dat.of ho3 hB2 (fun g e => by injection e with e; subst e; rw [← hcol3, paint_self]))
  have K3 := Lib.hid (K2.out.keep t3 (by omega))
  have L3 := Lib.hid (L2.out.keep t3 (by omega))
  have DD3 := Lib.hid (D2.out.keep t3 (by omega))
  have P3 := Lib.hid (P2.out.keep t3 (by omega) (by omega))
  have T3 := Lib.hid (T2.out.trans t3)
  have hB3 : B ≤ w3.heap.size := Nat.le_trans hB2 t3.size
  clear ho3 hb3 hcol3 t3 HC K2 L2 D2 P2 T2
  refine hK.out _ _ ((fun _ => K3.out.blk.cell 1)) ?_
  clear hK K
  try simp only [Act.put, List.setIfInBounds_toArray, List.set_cons_zero, List.set_cons_succ]
  have hNS : w3.cell? ⟨p, 1, none⟩ = some vp := K3.out.blk.cell 1
  refine nw_take (i := 8) (v := ?_) rfl (by kernel_rfl) (by kernel_rfl) (fun _ _ d _ _ h => by cases d <;> exact h) (by exact hNS) (by kernel_rfl) ?_ (fun K hK => ?_); rotate_left; (· (intro w' hSw; (try dsimp only at hSw); go_simp; with_reducible rfl)); simp only [Act.put, List.setIfInBounds_toArray, List.set_cons_zero, List.set_cons_succ]; refine hK _ ?_; clear hK K
  clear hNS
  obtain ⟨w4, hw4⟩ : ∃ w4, w3.alloc (.cells #[.int .i64 n, .slice (some ⟨g3, 0, none⟩) 256 cap3] 51) = w4 := ⟨_, rfl⟩
  have t4 : Tch 16 16 col3 col3 w3 w4 := by rw [← hw4]; exact (Tch.refl _ _ _ _).alloc _
  have X4 := Lib.hid (show RowAt w4 (some ⟨w3.heap.size, 0, none⟩) (1 * 2) [.int .i64 n, .slice (some ⟨g3, 0, none⟩) 256 cap3] by rw [← hw4]; exact lit_rowN w3 51 [.int .i64 n, .slice (some ⟨g3, 0, none⟩) 256 cap3] (1 * 2) w3.heap.size rfl rfl)
  have D4 := Lib.hid (D3.out.keep t4 (by omega))
  have K4 := Lib.hid (K3.out.keep t4 (by omega))
  have L4 := Lib.hid (L3.out.keep t4 (by omega))
  have DD4 := Lib.hid (DD3.out.keep t4 (by omega))
  have P4 := P3.out.keep t4 (by omega) (by omega)
  have T4 := Lib.hid (T3.out.trans t4)
  have hB4 : B ≤ w4.heap.size := Nat.le_trans hB3 t4.size
  have HW4 := Lib.hid hw4
  obtain ⟨ps, hp1, hp2, hp3⟩ := P4.ex
  have HP1 := Lib.hid hp1
  have HP2 := Lib.hid hp2
  have HP3 := Lib.hid hp3
  clear hw4 t4 D3 K3 L3 DD3 P3 T3 P4 hp1 hp2 hp3
  refine nw_one (i := 9) (E := False) rfl (by kernel_rfl) (fun K hK => ?_) (by kernel_rfl)
  go_simp
  rw [HW4.out]
  refine hK.out _ _ ((fun _ => K4.out.blk.cell 1)) ?_
  clear hK K
  try simp only [Act.put, List.setIfInBounds_toArray, List.set_cons_zero, List.set_cons_succ]
  refine nw_one (i := 10) (E := False) rfl (by kernel_rfl) (fun K hK => ?_) (by kernel_rfl)
  refine step_app_row _ 37 51 (.agg #[.int .i64 0, .slice none 0 0]) 2 32 Try.underlying37 infoWrite rfl (by decide) rfl (.tmp 25) (.tmp 30) rfl col3 B (c + 2) (c + 2) (c + 3) vp R.pend.length (wcells ps) rfl HP1.out ⟨by omega, by omega⟩ ⟨w3.heap.size, 0, none⟩ 1 1 [.int .i64 n, .slice (some ⟨g3, 0, none⟩) 256 cap3] rfl X4.out (by intro u hu; simp at hu; rcases hu with rfl | rfl <;> rfl) (by unfold maxLen; omega) (by omega) hB4 ?_
  intro v7 w7 col7 r7 t7
  obtain ⟨g7, cap7, _, rfl, _⟩ := own_formN r7.own (by omega)
  have K7 := Lib.hid (K4.out.keep t7 (by omega))
  have L7 := Lib.hid (L4.out.keep t7 (by omega))
  have DD7 := Lib.hid (DD4.out.keep t7 (by omega))
  have W7 := Lib.hid (Wr.snoc r7 HP2.out (fun i p q hp hq => (HP3.out i p q hp hq).keep t7 (by omega)) (D4.out.keep t7 (by omega)))
  have T7 := Lib.hid ((T4.out.any (lo' := c) (hi' := c + 3) (Nat.le_refl _)).trans (t7.mono (by omega) (by omega)))
  have c7 : w7.cell? ⟨p, 1, none⟩ = some vp := K7.out.blk.cell 1
  have z7 : w7.frozen? ⟨p, 1, none⟩ = false := K7.out.blk.frozen 1
  clear r7 t7 K4 DD4 D4 L4 T4 X4 HP1 HP2 HP3
  refine hK.out _ _ ((fun _ => K7.out.blk.cell 1)) ?_
  clear hK K
  try simp only [Act.put, List.setIfInBounds_toArray, List.set_cons_zero, List.set_cons_succ]
  refine nw_one (i := 11) (E := False) rfl (by kernel_rfl) (fun K hK => ?_) (by kernel_rfl)
  go_simp
  refine hK.out _ _ ((fun h => absurd h (by decide))) ?_
  clear hK K
  try simp only [Act.put, List.setIfInBounds_toArray, List.set_cons_zero, List.set_cons_succ]
  refine nw_one (i := 12) (E := False) rfl (by kernel_rfl) (fun K hK => ?_) (by kernel_rfl)
  go_simp
  refine hK.out _ _ ((fun h => absurd h (by decide))) ?_
  clear hK K
  try simp only [Act.put, List.setIfInBounds_toArray, List.set_cons_zero, List.set_cons_succ]
  refine nw_one (i := 13) (E := False) rfl (by kernel_rfl) (fun K hK => ?_) (by kernel_rfl)
  go_simp
  refine hK.out _ _ ((fun h => absurd h (by decide))) ?_
  clear hK K
  try simp only [Act.put, List.setIfInBounds_toArray, List.set_cons_zero, List.set_cons_succ]
  refine nw_end (by kernel_rfl) ?_
  have t8 : Tch c (c + 1) col7 col7 w7 (w7.setCell ⟨p, 1, none⟩ (.slice (some ⟨g7, 0, none⟩) (R.pend.length + 1) cap7)) := (Tch.refl _ _ _ _).setCell (p := ⟨p, 1, none⟩) (by rw [K7.out.c]; omega) _
  have K8 := Lib.hid (K7.out.set 1 (.slice (some ⟨g7, 0, none⟩) (R.pend.length + 1) cap7))
  have L8 := Lib.hid (L7.out.keep t8 (by omega))
  have DD8 := Lib.hid (DD7.out.keep t8 (by omega))
  have W8 := Lib.hid (W7.out.keep t8 (by omega) (by omega))
  have T8 := Lib.hid (T7.out.trans (t8.mono (by omega) (by omega)))
  obtain ⟨w8, hw8⟩ : ∃ w8, w7.setCell ⟨p, 1, none⟩ (.slice (some ⟨g7, 0, none⟩) (R.pend.length + 1) cap7) = w8 := ⟨_, rfl⟩
  rw [hw8] at K8 L8 DD8 W8 T8 ⊢
  have c82 : w8.cell? ⟨p, 2, none⟩ = some (.int .i64 (R.n : Int)) := K8.out.blk.cell 2
  have z82 : w8.frozen? ⟨p, 2, none⟩ = false := K8.out.blk.frozen 2
  clear t8 c7 z7 hw8 K7 L7 DD7 W7 T7
  have t9 : Tch c (c + 1) col7 col7 w8 (w8.setCell ⟨p, 2, none⟩ (.int .i64 ((R.n : Int) + 1))) := (Tch.refl _ _ _ _).setCell (p := ⟨p, 2, none⟩) (by rw [K8.out.c]; omega) _
  have K9 := Lib.hid (K8.out.set 2 (.int .i64 ((R.n : Int) + 1)))
  have L9 := Lib.hid (L8.out.keep t9 (by omega))
  have DD9 := Lib.hid (DD8.out.keep t9 (by omega))
  have W9 := Lib.hid (W8.out.keep t9 (by omega) (by omega))
  have T9 := Lib.hid (T8.out.trans (t9.mono (by omega) (by omega)))
  have hwr : IntKind.i64.wrap ((R.n : Int) + 1) = (R.n : Int) + 1 := by rw [IntKind.wrap_i64]; omega
  clear t9 K8 L8 DD8 W8 T8
  go_wp2_with fail
  go_ret
  exact ⟨col7, rfl, T9.out, ⟨⟨_, _, vs, K9.out, by rw [← HN.out] at L9; exact L9.out, DD9.out, W9.out⟩, hlo, HNN.out, by simp [RD.write]; omega⟩⟩
end Go.Proofs.Ytomoliickggghaa.Mem

namespace Go.Proofs.Ytomoliickggghaa.Mem
open Go.RowKit Go.Proofs.Ytomoliickggghaa Go.Proofs.Ytomoliickggghaa.Wire
set_option maxHeartbeats 8000000
set_option maxRecDepth 100000
set_option linter.unusedVariables false
set_option linter.unusedSimpArgs false

abbrev RSt := (Int → Option Bytes) × (Int → Bool)
/-- A document's store: its states (the last one is now), what waits, the caches (the one used last first). -/
structure RS where
  n : Nat
  room : Nat
  st : List RSt
  wait : Int → Option Bytes
  ca : List (List Int)
  found : Nat
  asked : Nat
  d : RD
/-- A row (of a colour) of blocks' bytes, some of them nil. -/
structure OptRow (w : World) (col : Col) (B r : Nat) (v : Value) (N : Nat) (f : Int → Option Bytes) : Prop where
  ex : ∃ vs : List Value, Row w col B r 34 1 v N vs ∧ ∀ (i : Nat) (x : Value), vs[i]? = some x → OptDat w col B x (f i)
theorem OptRow.keep {w w' : World} {a b : Col} {B r N lo hi : Nat} {v : Value} {f : Int → Option Bytes} (h : OptRow w a B r v N f) (ht : Tch lo hi a b w w') (hlo : 2 ≤ lo ∨ hi ≤ 1) (hr : ¬ (lo ≤ r ∧ r < hi)) : OptRow w' b B r v N f := by
  obtain ⟨vs, h1, h2⟩ := h.ex
  exact ⟨vs, h1.keep ht hr, fun i x hx => (h2 i x hx).keep ht hlo⟩
theorem OptRow.at_ {w : World} {a : Col} {B r N k : Nat} {v : Value} {f : Int → Option Bytes} (h : OptRow w a B r v N f) (hk : k < N) : ∃ g cap x, v = .slice (some ⟨g, 0, none⟩) N cap ∧ a g = r ∧ w.cell? ⟨g, k, none⟩ = some x ∧ w.frozen? ⟨g, k, none⟩ = false ∧ OptDat w a B x (f k) := by
  obtain ⟨vs, h1, h2⟩ := h.ex
  have hl : vs.length = N := by have := h1.own.1; omega
  obtain ⟨x, hx⟩ : ∃ x, vs[k]? = some x := ⟨_, List.getElem?_eq_getElem (by omega)⟩
  obtain ⟨g, cap, cur, rfl, _⟩ := own_form h1.own (by omega)
  exact ⟨g, cap, x, rfl, h1.c g rfl, by rw [h1.own.cellAt k (by omega)]; exact hx, h1.own.frozenAt k, h2 k x hx⟩
theorem OptRow.put {w : World} {a : Col} {B r N k g cap : Nat} {f : Int → Option Bytes} (h : OptRow w a B r (.slice (some ⟨g, 0, none⟩) N cap) N f) {x : Value} {o : Option Bytes} (hx : OptDat w a B x o) (h2 : r ≠ 1) :
    OptRow (w.setCell ⟨g, k, none⟩ x) a B r (.slice (some ⟨g, 0, none⟩) N cap) N (fun j => if j = (k : Int) then o else f j) ∧ Tch r (r + 1) a a w (w.setCell ⟨g, k, none⟩ x) := by
  obtain ⟨vs, h1, h3⟩ := h.ex
  have ht : Tch r (r + 1) a a w (w.setCell ⟨g, k, none⟩ x) := (Tch.refl _ _ _ _).setCell (p := ⟨g, k, none⟩) (by have := h1.c g rfl; show r ≤ a g ∧ a g < r + 1; omega) x
  refine ⟨⟨vs.set k x, h1.stored k x, fun i u hu => ?_⟩, ht⟩
  rw [List.getElem?_set] at hu
  by_cases e : k = i
  · subst e
    rw [if_pos rfl] at hu ⊢
    split at hu
    · injection hu with hu; subst hu; exact hx.keep ht (by omega)
    · cases hu
  · rw [if_neg e] at hu
    rw [if_neg (by omega)]
    exact (h3 i u hu).keep ht (by omega)
theorem OptRow.ext {w : World} {a : Col} {B r N : Nat} {v : Value} {f f' : Int → Option Bytes} (h : OptRow w a B r v N f) (e : ∀ i : Nat, i < N → f i = f' i) : OptRow w a B r v N f' := by
  obtain ⟨vs, h1, h2⟩ := h.ex
  refine ⟨vs, h1, fun i v hv => ?_⟩
  have hl : vs.length = N := by have := h1.own.1; omega
  rw [← e i (by have := (List.getElem?_eq_some_iff.1 hv).1; omega)]
  exact h2 i v hv
def pcells : List (Value × Value) → List Value
  | [] => []
  | p :: l => p.1 :: p.2 :: pcells l
theorem pcells_length : ∀ l, (pcells l).length = l.length * 2
  | [] => rfl
  | p :: l => by simp only [pcells, List.length_cons, pcells_length l]; omega
theorem pcells_append : ∀ a b, pcells (a ++ b) = pcells a ++ pcells b
  | [], _ => rfl
  | p :: l, b => by simp only [List.cons_append, pcells, pcells_append l b]
theorem pcells_at : ∀ (l : List (Value × Value)) (i : Nat) (x : Value × Value), l[i]? = some x → (pcells l)[i * 2]? = some x.1 ∧ (pcells l)[i * 2 + 1]? = some x.2
  | [], i, x, h => by cases h
  | p :: l, 0, x, h => by injection h with h; subst h; exact ⟨rfl, rfl⟩
  | p :: l, i + 1, x, h => by
    have := pcells_at l i x h
    rw [show (i + 1) * 2 = i * 2 + 1 + 1 by omega]
    exact this
theorem pcells_take : ∀ (l : List (Value × Value)) (k : Nat), (pcells l).take (k * 2) = pcells (l.take k)
  | l, 0 => by simp [pcells]
  | [], k + 1 => by simp [pcells]
  | p :: l, k + 1 => by
    rw [show (k + 1) * 2 = k * 2 + 1 + 1 by omega]
    simp only [pcells, List.take_succ_cons, pcells_take l k]
theorem pcells_set2 : ∀ (l : List (Value × Value)) (i : Nat) (v : Value) (x : Value × Value), l[i]? = some x → (pcells l).set (i * 2 + 1) v = pcells (l.set i (x.1, v))
  | [], i, v, x, h => by cases h
  | p :: l, 0, v, x, h => by injection h with h; subst h; rfl
  | p :: l, i + 1, v, x, h => by
    have := pcells_set2 l i v x h
    rw [show (i + 1) * 2 + 1 = i * 2 + 1 + 1 + 1 by omega]
    simp only [pcells, List.set_cons_succ, this]
/-- A state in memory: never written again. -/
structure RStAt (w : World) (col : Col) (B N : Nat) (x : Value × Value) (y : RSt) : Prop where
  c : OptRow w col B 1 x.1 N y.1
  h : Row w col B 1 4 1 x.2 N (bools (fun i => y.2 i) N)
theorem RStAt.keep {w w' : World} {a b : Col} {B N lo hi : Nat} {x : Value × Value} {y : RSt} (h : RStAt w a B N x y) (ht : Tch lo hi a b w w') (hlo : 2 ≤ lo ∨ hi ≤ 1) : RStAt w' b B N x y := ⟨h.c.keep ht hlo (by omega), h.h.keep ht (by omega)⟩
structure RL where
  vst : Value
  xs : List (Value × Value)
  vw : Value
  vc : Value
  cs : List Value
structure RStoreL (w : World) (col : Col) (B c p dp : Nat) (R : RS) (L : RL) : Prop where
  s : Bk w col B c p 74 #[ptr dp, .int .i64 R.n, .int .i64 R.room, L.vst, L.vw, L.vc, .int .i64 R.found, .int .i64 R.asked]
  st : Row w col B (c + 1) 96 2 L.vst R.st.length (pcells L.xs)
  stl : L.xs.length = R.st.length
  sta : ∀ (i : Nat) (x : Value × Value) (y : RSt), L.xs[i]? = some x → R.st[i]? = some y → RStAt w col B R.n x y
  wait : OptRow w col B (c + 2) L.vw R.n R.wait
  ca : Row w col B (c + 3) 42 1 L.vc R.ca.length L.cs
  cal : ∀ (i : Nat) (v : Value) (l : List Int), L.cs[i]? = some v → R.ca[i]? = some l → Row w col B 1 3 1 v l.length (ints l)
  d : RDiskAt w col B (c + 4) dp R.d
  dn : R.d.l.length = R.n
  lo : 16 ≤ c
  stn : 1 ≤ R.st.length
  can : 1 ≤ R.ca.length ∧ R.ca.length ≤ 16
  calen : ∀ l ∈ R.ca, l.length ≤ 1000
  rm : 1 ≤ R.room ∧ R.room ≤ 256
  few : R.st.length + R.found + R.asked ≤ 1000000000
def RStoreAt (w : World) (col : Col) (B c p dp : Nat) (R : RS) : Prop := ∃ L, RStoreL w col B c p dp R L
section
variable {w w' : World} {a b col : Col} {B c p dp l0 h0 : Nat} {R : RS} {L : RL}
theorem RStoreL.keep (h : RStoreL w a B c p dp R L) (ht : Tch l0 h0 a b w w') (hlo : 2 ≤ l0 ∨ h0 ≤ 1) (hr : c + 7 ≤ l0 ∨ h0 ≤ c) : RStoreL w' b B c p dp R L :=
  ⟨h.s.keep ht (by omega), h.st.keep ht (by omega), h.stl, fun i x y h1 h2 => (h.sta i x y h1 h2).keep ht hlo, h.wait.keep ht hlo (by omega), h.ca.keep ht (by omega), fun i v l h1 h2 => (h.cal i v l h1 h2).keep ht (by omega), h.d.keep ht hlo (by omega),
   h.dn, h.lo, h.stn, h.can, h.calen, h.rm, h.few⟩
theorem RStoreL.below (h : RStoreL w a B c p dp R L) (hb : Below w.heap.size w w') : RStoreL w' a B c p dp R L := h.keep (l0 := 16) (h0 := 16) (Tch.of_below hb) (by omega) (by have := h.lo; omega)
theorem RStoreAt.keep (h : RStoreAt w a B c p dp R) (ht : Tch l0 h0 a b w w') (hlo : 2 ≤ l0 ∨ h0 ≤ 1) (hr : c + 7 ≤ l0 ∨ h0 ≤ c) : RStoreAt w' b B c p dp R := by
  obtain ⟨L, h⟩ := h
  exact ⟨L, h.keep ht hlo hr⟩
theorem RStoreAt.lo (h : RStoreAt w a B c p dp R) : 16 ≤ c := by obtain ⟨L, h⟩ := h; exact h.lo
theorem RStoreL.n1 (h : RStoreL w a B c p dp R L) : R.n ≤ 4096 := by rw [← h.dn]; exact h.d.n
end
def RS.has (R : RS) (n : Int) : Bool := decide (0 ≤ n ∧ n < (R.n : Int))
/-- The state as it is. -/
def RS.now (R : RS) : RSt := (R.st[R.st.length - 1]?).getD ((fun _ => none), (fun _ => false))
theorem rhas_any (w : World) (col : Col) (B c p dp : Nat) (R : RS) (L : RL) (n : Int) (h : RStoreL w col B c p dp R L) :
    Calls Try.prog 62 #[ptr p, .int .i64 n] w fun e w' => e = .returned (.bool (R.has n)) ∧ w = w' := by
  have c1 : w.cell? ⟨p, 1, none⟩ = some (.int .i64 R.n) := h.s.blk.cell 1
  by_cases h0 : 0 ≤ n
  · have HV := Lib.hid (show decide (n < (R.n : Int)) = R.has n from decide_eq_decide.2 ⟨fun h => ⟨h0, h⟩, fun h => h.2⟩)
    clear h
    unfold ptr at *
    generalize R.n = N at *
    go_enter Try.func62, Try.ntmps62
    go_wp2_with fail
    go_ret
    exact ⟨ret_bool HV.out, rfl⟩
  · have HV := Lib.hid (show R.has n = false from decide_eq_false (fun h => h0 h.1))
    clear h
    unfold ptr at *
    have hd : n < 0 := by omega
    go_enter Try.func62, Try.ntmps62
    go_wp2_with fail
    go_ret
    exact ⟨ret_bool HV.out.symm, rfl⟩
theorem RStoreL.last {w : World} {col : Col} {B c p dp : Nat} {R : RS} {L : RL} (h : RStoreL w col B c p dp R L) : ∃ g cap x, L.vst = .slice (some ⟨g, 0, none⟩) R.st.length cap ∧ w.cell? ⟨g, (R.st.length - 1) * 2, none⟩ = some x.1 ∧ w.cell? ⟨g, (R.st.length - 1) * 2 + 1, none⟩ = some x.2 ∧ RStAt w col B R.n x R.now ∧ L.xs[R.st.length - 1]? = some x := by
  have hn := h.stn
  obtain ⟨x, hx⟩ : ∃ x, L.xs[R.st.length - 1]? = some x := ⟨_, List.getElem?_eq_getElem (by rw [h.stl]; omega)⟩
  obtain ⟨y, hy⟩ : ∃ y, R.st[R.st.length - 1]? = some y := ⟨_, List.getElem?_eq_getElem (by omega)⟩
  obtain ⟨g, cap, _, hv, _⟩ := own_formN h.st.own (by omega)
  have hst := h.st
  rw [hv] at hst
  obtain ⟨k0, k1⟩ := pcells_at L.xs _ x hx
  refine ⟨g, cap, x, hv, ?_, ?_, ?_, hx⟩
  · rw [hst.own.cellAt _ (by omega)]; exact k0
  · rw [hst.own.cellAt _ (by omega)]; exact k1
  · have : R.now = y := by rw [RS.now, hy]; rfl
    rw [this]
    exact h.sta _ x y hx hy
theorem rmark_any (w : World) (col : Col) (B c p dp : Nat) (R : RS) (L : RL) (h : RStoreL w col B c p dp R L) :
    Calls Try.prog 35 #[ptr p] w fun e w' => e = .returned (.int .i64 ((R.st.length - 1 : Nat) : Int)) ∧ w = w' := by
  obtain ⟨g, cap, x, hv, _⟩ := h.last
  have c3 : w.cell? ⟨p, 3, none⟩ = some L.vst := h.s.blk.cell 3
  rw [hv] at c3
  have hn := h.stn
  have hf := h.few
  have hw : IntKind.i64.wrap ((R.st.length : Int) - 1) = ((R.st.length - 1 : Nat) : Int) := by rw [IntKind.wrap_i64]; omega
  clear h hv
  generalize R.st.length = K at *
  unfold ptr at *
  go_enter Try.func35, Try.ntmps35
  go_wp2_with fail
  go_ret
  exact ⟨rfl, rfl⟩
/-- now: the last state's two slices. -/
theorem rnow_any (w : World) (col : Col) (B c p dp : Nat) (R : RS) (L : RL) (h : RStoreL w col B c p dp R L) :
    ∃ x : Value × Value, L.xs[R.st.length - 1]? = some x ∧ RStAt w col B R.n x R.now ∧ Calls Try.prog 63 #[ptr p] w fun e w' => e = .returned (.agg #[x.1, x.2]) ∧ Below w.heap.size w w' := by
  obtain ⟨g, cap, x, hv, k0, k1, hx, hxs⟩ := h.last
  refine ⟨x, hxs, hx, ?_⟩
  have hn := h.stn
  have hf := h.few
  have hN := h.n1
  obtain ⟨A0, n0, d0, hx0⟩ : ∃ A n d, x.1 = .slice A n d := by
    obtain ⟨vs, h1, _⟩ := hx.c.ex
    obtain ⟨A, cap, hv, _⟩ := row_len h1
    exact ⟨A, _, cap, hv⟩
  obtain ⟨A1, d1, hx1, _⟩ := row_len hx.h
  obtain ⟨w1, hw1⟩ : ∃ w1, w.alloc (.cells #[.slice none 0 0, .slice none 0 0] 96) = w1 := ⟨_, rfl⟩
  obtain ⟨s1, hs1⟩ : ∃ s1, w.heap.size = s1 := ⟨_, rfl⟩
  have B1 := Lib.hid (show Below w.heap.size w w1 by rw [← hw1]; exact (Below.refl w.heap.size w).alloc (Nat.le_refl _) _)
  have K1 := Lib.hid (show Blk w1 s1 96 #[.slice none 0 0, .slice none 0 0] by rw [← hw1, ← hs1]; exact Blk.new _ _ _)
  have c3 : w.cell? ⟨p, 3, none⟩ = some L.vst := h.s.blk.cell 3
  rw [hv] at c3
  have hlt : ∀ q : Addr, w.cell? q ≠ none → q.block < w.heap.size := fun q hq => by
    cases hc : w.cell? q with
    | none => exact absurd hc hq
    | some u => exact World.block_lt_of_cell? w _ hc
  have PF := Lib.hid (show ∀ wz, Below w.heap.size w wz → wz.cell? ⟨p, 3, none⟩ = some (.slice (some ⟨g, 0, none⟩) R.st.length cap) ∧ wz.cell? ⟨g, (R.st.length - 1) * 2, none⟩ = some (.slice A0 n0 d0) ∧ wz.cell? ⟨g, (R.st.length - 1) * 2 + 1, none⟩ = some (.slice A1 R.n d1) from fun wz hb =>
    ⟨(hb.cell (hlt _ (by rw [c3]; simp))).trans c3, by rw [← hx0]; exact (hb.cell (hlt ⟨g, (R.st.length - 1) * 2, none⟩ (by rw [k0]; simp))).trans k0, by rw [← hx1]; exact (hb.cell (hlt ⟨g, (R.st.length - 1) * 2 + 1, none⟩ (by rw [k1]; simp))).trans k1⟩)
  have e3 : w1.drew.cell? ⟨p, 3, none⟩ = some (.slice (some ⟨g, 0, none⟩) R.st.length cap) := (B1.out.cell (hlt _ (by rw [c3]; simp))).trans c3
  have f0 : w1.drew.cell? ⟨g, (R.st.length - 1) * 2, none⟩ = some (.slice A0 n0 d0) := by rw [← hx0]; exact (B1.out.cell (hlt ⟨g, (R.st.length - 1) * 2, none⟩ (by rw [k0]; simp))).trans k0
  have f1 : w1.drew.cell? ⟨g, (R.st.length - 1) * 2 + 1, none⟩ = some (.slice A1 R.n d1) := by rw [← hx1]; exact (B1.out.cell (hlt ⟨g, (R.st.length - 1) * 2 + 1, none⟩ (by rw [k1]; simp))).trans k1
  have hw : IntKind.i64.wrap ((R.st.length : Int) - 1) = ((R.st.length - 1 : Nat) : Int) := by rw [IntKind.wrap_i64]; omega
  have hi1 : ((R.st.length - 1 : Nat) : Int) < (R.st.length : Int) := by omega
  have hi2 : (0 : Int) ≤ ((R.st.length - 1 : Nat) : Int) := by omega
  have hi3 : ((R.st.length - 1 : Nat) : Int).toNat = R.st.length - 1 := by omega
  have HX0 := Lib.hid hx0
  have HX1 := Lib.hid hx1
  have HW1 := Lib.hid hw1
  have HS1 := Lib.hid hs1
  have x0 : w1.cell? ⟨s1, 0, none⟩ = some (.slice none 0 0) := K1.out.cell 0
  have x1 : w1.cell? ⟨s1, 1, none⟩ = some (.slice none 0 0) := K1.out.cell 1
  have z0 : w1.frozen? ⟨s1, 0, none⟩ = false := K1.out.frozen 0
  have z1 : w1.frozen? ⟨s1, 1, none⟩ = false := K1.out.frozen 1
  clear h hv k0 k1 hx hxs hx0 hx1 c3 hlt hw1 hs1 hf
  generalize R.st.length - 1 = K1' at *
  generalize R.st.length = KK at *
  generalize R.n = N at *
  unfold ptr at *
  go_enter Try.func63, Try.ntmps63
  go_wp2_with (first | rw [HS1.out, HW1.out] | fail)
  refine region_mix [true, true, true, true, true, true, true, true, true, true, true, true, false] (S := fun w' => w'.cell? ⟨p, 3, none⟩ = some (.slice (some ⟨g, 0, none⟩) KK cap) ∧ w'.cell? ⟨g, K1' * 2, none⟩ = some (.slice A0 n0 d0) ∧ w'.cell? ⟨g, K1' * 2 + 1, none⟩ = some (.slice A1 N d1)) (by kernel_rfl) (by kernel_rfl) (fun _ _ d _ _ h => by cases d <;> exact h) ⟨e3, f0, f1⟩ ?_
  iterate 12 (refine mix_take (v := ?_) (by kernel_rfl) ?_ (fun K hK => ?_); rotate_left; (· (intro w' hSw; (try dsimp only at hSw); go_simp; with_reducible rfl)); simp only [Act.put, List.setIfInBounds_toArray, List.set_cons_zero, List.set_cons_succ]; refine hK _ ?_; clear hK K)
  refine mix_do (E := False) (fun K hK => ?_) (by kernel_rfl)
  go_simp
  have hle : w.heap.size ≤ s1 := by have := HS1.out; omega
  obtain ⟨wf, hwf⟩ : ∃ wf, ((w1.setCell ⟨s1, 0, none⟩ (.slice A0 n0 d0)).setCell ⟨s1, 1, none⟩ (.slice A1 N d1)).drew = wf := ⟨_, rfl⟩
  have KF := Lib.hid (show Blk wf s1 96 #[.slice A0 n0 d0, .slice A1 N d1] by rw [← hwf]; exact ((K1.out.set_ 0 (.slice A0 n0 d0)).set_ 1 (.slice A1 N d1)).drew)
  have BF := Lib.hid (show Below w.heap.size w wf by rw [← hwf]; exact below_drewN ((B1.out.setCell (p := ⟨s1, 0, none⟩) hle (.slice A0 n0 d0)).setCell (p := ⟨s1, 1, none⟩) hle (.slice A1 N d1)) 1)
  rw [hwf]
  refine hK.out _ _ ((PF.out _ BF.out)) ?_
  clear hK K
  try simp only [Act.put, List.setIfInBounds_toArray, List.set_cons_zero, List.set_cons_succ]
  refine mix_end ?_
  go_wp2_with fail
  refine bodyPost_ret (results_cell_row (P := Try.prog) (fn := Try.f63) (p := 2) (ty := 96) rfl _ wf s1 96 #[.slice A0 n0 d0, .slice A1 N d1] (0, 0) _ rfl KF.out Try.underlying96 rfl (by kernel_rfl)) rfl ?_
  exact ⟨by rw [HX0.out, HX1.out], BF.out⟩
end Go.Proofs.Ytomoliickggghaa.Mem

namespace Go.Proofs.Ytomoliickggghaa.Mem
open Go.RowKit Go.Proofs.Ytomoliickggghaa Go.Proofs.Ytomoliickggghaa.Wire
set_option maxHeartbeats 8000000
set_option maxRecDepth 100000
set_option linter.unusedVariables false
set_option linter.unusedSimpArgs false

theorem wo_snoc (n z : Int) (l : List Int) : wo n (l ++ [z]) = if z = n then wo n l else wo n l ++ [z] := by
  unfold wo
  rw [List.filter_append]
  by_cases h : z = n
  · rw [if_pos h]; simp [h]
  · rw [if_neg h]; simp [h]
theorem cont_snoc (n z : Int) (l : List Int) : (l ++ [z]).contains n = (l.contains n || (z == n)) := by
  rw [Bool.eq_iff_iff]
  simp only [List.contains_iff_mem, List.mem_append, List.mem_singleton, Bool.or_eq_true, beq_iff_eq]
  constructor
  · rintro (h | h)
    · exact .inl h
    · exact .inr h.symm
  · rintro (h | h)
    · exact .inl h
    · exact .inr h.symm
theorem ints_snoc (l : List Int) (z : Int) : ints l ++ [.int .i64 z] = ints (l ++ [z]) := by simp [ints]
theorem rwithout_any (w : World) (A : Option Addr) (len cap : Nat) (xs : List Int) (n : Int) (h : RowAt w A len (ints xs)) (hl : len ≤ 1000000) :
    Calls Try.prog 70 #[.slice A len cap, .int .i64 n] w fun e w' => ∃ v, e = .returned (.tuple #[v, .bool (xs.contains n)]) ∧ w'.ownsRow w.heap.size 3 1 v (wo n xs).length (ints (wo n xs)) ∧ Below w.heap.size w w' := by
  have hxl : xs.length = len := by have := h.len; simpa [ints] using this
  have HR := Lib.hid h
  have HX := Lib.hid hxl
  clear h hxl
  go_enter Try.func70, Try.ntmps70
  go_wp2_with fail
  go_loopw [6, 7, 8] (fun oo ss ii wr => ∃ (i : Nat) (vo : Value) (is : Bool), vo = oo ∧ ss = .bool is ∧ ii = .int .i64 i ∧ i ≤ len ∧ is = (xs.take i).contains n ∧ wr.ownsRow w.heap.size 3 1 vo (wo n (xs.take i)).length (ints (wo n (xs.take i))) ∧ Below w.heap.size w wr) (fun _ _ ii _ => len - (intOf ii).toNat)
  case atStart => exact ⟨0, _, false, rfl, rfl, rfl, by omega, rfl, World.ownsRow_nil _ _ _ _, Below.refl _ _⟩
  case round =>
    obtain ⟨i, vo, is, rfl, rfl, rfl, hi, his, ho, hb⟩ := hrel
    have HO := Lib.hid ho
    have BB := Lib.hid hb
    have HI := Lib.hid his
    clear ho hb his
    by_cases hlt : i < len
    · obtain ⟨a, z, rfl, hz, hc⟩ := (HR.out.below BB.out).int_at hlt
      have hii : (i : Int) < (len : Int) := by omega
      have hin : ((i : Int)).toNat = i := by omega
      have htk : xs.take (i + 1) = xs.take i ++ [z] := by rw [List.take_add_one, hz]; rfl
      by_cases hzn : z = n
      · have hzb : (z == n) = true := by simpa using hzn
        have HO2 := Lib.hid (show wr.ownsRow w.heap.size 3 1 vo (wo n (xs.take (i + 1))).length (ints (wo n (xs.take (i + 1)))) by rw [htk, wo_snoc, if_pos hzn]; exact HO.out)
        have HI2 := Lib.hid (show true = (xs.take (i + 1)).contains n by rw [htk, cont_snoc, hzb]; simp)
        clear hz htk hzn
        go_wp2_with (first | simp only [hzb] | fail)
        go_roundw
        case rel => exact ⟨i + 1, vo, true, rfl, rfl, by go_num, by omega, HI2.out, HO2.out, BB.out⟩
        case measure => simp [intOf]; omega
      · have hzb : (z == n) = false := by simpa using hzn
        have HI2 := Lib.hid (show is = (xs.take (i + 1)).contains n by rw [htk, cont_snoc, hzb, HI.out]; simp)
        have hw2 : wo n (xs.take (i + 1)) = wo n (xs.take i) ++ [z] := by rw [htk, wo_snoc, if_neg hzn]
        have HW2 := Lib.hid hw2
        have hwl : (wo n (xs.take i)).length ≤ i := by have := List.length_filter_le (fun x => decide (x ≠ n)) (xs.take i); rw [List.length_take] at this; unfold wo; omega
        obtain ⟨w2, hw2'⟩ : ∃ w2, wr.alloc (.cells #[.int .i64 z] 3) = w2 := ⟨_, rfl⟩
        have B2 := Lib.hid (show Below wr.heap.size wr w2 from hw2' ▸ (Below.refl wr.heap.size wr).alloc (Nat.le_refl _) _)
        have O2 := Lib.hid (own_below HO.out B2.out)
        have X2 := Lib.hid (show RowAt w2 (some ⟨wr.heap.size, 0, none⟩) 1 (ints [z]) by rw [← hw2']; exact lit_rowN wr 3 (ints [z]) 1 wr.heap.size rfl rfl)
        have BB2 := Lib.hid (below_all BB.out BB.out.size B2.out)
        have HWW := Lib.hid hw2'
        clear hz htk hzn hw2 hw2'
        generalize hL : wo n (xs.take i) = L at *
        go_wp2_with (first
          | simp only [hzb]
          | (at_builtin
             rw [HWW.out]
             refine app_i64 _ rfl (.tmp 21) (.tmp 26) rfl w.heap.size vo L.length (ints L) rfl O2.out (some ⟨wr.heap.size, 0, none⟩) 1 1 [z] rfl (fun e => by cases e) X2.out (by omega) BB2.out.size ?_
             intro v3 w3 ho3 hg3
             have O3 := Lib.hid (show w3.ownsRow w.heap.size 3 1 v3 (L ++ [z]).length (ints (L ++ [z])) by rw [← ints_snoc, List.length_append]; exact ho3)
             have B3 := Lib.hid (below_own O2.out BB2.out (Nat.le_refl _) hg3)
             clear ho3 hg3)
          | fail)
        go_roundw
        case rel => exact ⟨i + 1, v3, is, rfl, rfl, by go_num, by omega, HI2.out, by rw [HW2.out]; exact O3.out, B3.out⟩
        case measure => simp [intOf]; omega
    · obtain rfl : i = len := by omega
      have he : xs.take i = xs := List.take_of_length_le (by rw [HX.out]; exact Nat.le_refl _)
      rw [he] at HO HI
      go_wp2_with fail
      go_ret2
      exact ⟨vo, by rw [HI.out]; rfl, HO.out, BB.out⟩
/-- A list that is used: the number comes to its head. -/
def useL (room : Nat) (l : List Int) (n : Int) : List Int := (n :: wo n l).take room
def RS.of (R : RS) (n : Int) : Nat := (n % (R.ca.length : Int)).toNat
def RS.cache (R : RS) (k : Nat) : List Int := (R.ca[k]?).getD []
def RS.used (R : RS) (n : Int) : RS := { R with ca := R.ca.set (R.of n) (useL R.room (R.cache (R.of n)) n) }
theorem RS.of_lt {R : RS} (n : Int) (h : 1 ≤ R.ca.length) : R.of n < R.ca.length := by
  unfold RS.of
  have h1 := Int.emod_nonneg n (show (R.ca.length : Int) ≠ 0 by omega)
  have h2 := Int.emod_lt_of_pos n (show (0 : Int) < (R.ca.length : Int) by omega)
  omega
theorem RStoreL.cachev {w : World} {col : Col} {B c p dp k : Nat} {R : RS} {L : RL} (h : RStoreL w col B c p dp R L) (hk : k < R.ca.length) :
    ∃ gc cc v, L.vc = .slice (some ⟨gc, 0, none⟩) R.ca.length cc ∧ L.cs[k]? = some v ∧ w.cell? ⟨gc, k, none⟩ = some v ∧ w.frozen? ⟨gc, k, none⟩ = false ∧ Row w col B 1 3 1 v (R.cache k).length (ints (R.cache k)) ∧ (R.cache k).length ≤ 1000 := by
  obtain ⟨gc, cc, _, hv, _⟩ := own_form h.ca.own (by omega)
  have hca := h.ca
  rw [hv] at hca
  have hl : L.cs.length = R.ca.length := by have := hca.own.1; omega
  obtain ⟨v, hx⟩ : ∃ v, L.cs[k]? = some v := ⟨_, List.getElem?_eq_getElem (by omega)⟩
  obtain ⟨l, hy⟩ : ∃ l, R.ca[k]? = some l := ⟨_, List.getElem?_eq_getElem hk⟩
  have e : R.cache k = l := by rw [RS.cache, hy]; rfl
  rw [e]
  exact ⟨gc, cc, v, hv, hx, by rw [hca.own.cellAt k (by omega)]; exact hx, hca.own.frozenAt k, h.cal k v l hx hy, h.calen l (List.mem_of_getElem? hy)⟩
theorem RStoreL.cacheSet {w : World} {col : Col} {B c p dp k gc cc : Nat} {R : RS} {L : RL} (h : RStoreL w col B c p dp R L) (hv : L.vc = .slice (some ⟨gc, 0, none⟩) R.ca.length cc) (hk : k < R.ca.length) {v : Value} {l : List Int} (hr : Row w col B 1 3 1 v l.length (ints l)) (hl : l.length ≤ 1000) :
    RStoreL (w.setCell ⟨gc, k, none⟩ v) col B c p dp { R with ca := R.ca.set k l } { L with cs := L.cs.set k v } ∧ Tch (c + 3) (c + 4) col col w (w.setCell ⟨gc, k, none⟩ v) := by
  have hlo := h.lo
  have hca := h.ca
  rw [hv] at hca
  have ht : Tch (c + 3) (c + 4) col col w (w.setCell ⟨gc, k, none⟩ v) := (Tch.refl _ _ _ _).setCell (p := ⟨gc, k, none⟩) (by have := hca.c gc rfl; show c + 3 ≤ col gc ∧ col gc < c + 4; omega) v
  refine ⟨⟨h.s.keep ht (by omega), h.st.keep ht (by omega), h.stl, fun i x y h1 h2 => (h.sta i x y h1 h2).keep ht (by omega), h.wait.keep ht (by omega) (by omega), ?_, fun i u m h1 h2 => ?_, h.d.keep ht (by omega) (by omega), h.dn, h.lo, h.stn, by simpa using h.can, fun m hm => ?_, h.rm, h.few⟩, ht⟩
  · show Row _ col B (c + 3) 42 1 L.vc (R.ca.set k l).length (L.cs.set k v)
    rw [hv, List.length_set]
    exact hca.stored k v
  · rw [List.getElem?_set] at h1 h2
    have hcl : L.cs.length = R.ca.length := by have := hca.own.1; omega
    by_cases e : k = i
    · subst e
      rw [if_pos rfl, if_pos (by omega)] at h1 h2
      injection h1 with h1
      injection h2 with h2
      subst h1 h2
      exact hr.keep ht (by omega)
    · rw [if_neg e] at h1 h2
      exact (h.cal i u m h1 h2).keep ht (by omega)
  · rcases List.mem_or_eq_of_mem_set hm with h1 | h1
    · exact h.calen m h1
    · subst h1; exact hl
theorem wo_len (n : Int) (l : List Int) : (wo n l).length ≤ l.length := List.length_filter_le _ _
theorem rused_any (w : World) (col : Col) (B c p dp : Nat) (R : RS) (n : Int) (h : RStoreAt w col B c p dp R) (hn : R.has n = true) (hB : B ≤ w.heap.size) :
    Calls Try.prog 71 #[ptr p, .int .i64 n] w fun e w' => e = .returned (.tuple #[]) ∧ ∃ col', Tch (c + 3) (c + 4) col col' w w' ∧ RStoreAt w' col' B c p dp (R.used n) := by
  obtain ⟨L, h⟩ := h
  have hlo := h.lo
  have hn2 : 0 ≤ n ∧ n < (R.n : Int) := of_decide_eq_true hn
  have hNN := h.n1
  have hcan := h.can
  have hki := RS.of_lt (R := R) n hcan.1
  obtain ⟨gc, cc, v, hvc, hcs, hk0, _, hrow, hlen⟩ := h.cachev hki
  have c5 : w.cell? ⟨p, 5, none⟩ = some (.slice (some ⟨gc, 0, none⟩) R.ca.length cc) := by rw [← hvc]; exact h.s.blk.cell 5
  have c2 : w.cell? ⟨p, 2, none⟩ = some (.int .i64 R.room) := h.s.blk.cell 2
  obtain ⟨A, cv, rfl, _, hcv, hcvm, _⟩ := row_len hrow
  have HRM := Lib.hid h.rm
  have HR := Lib.hid (rwithout_any w A _ cv (R.cache (R.of n)) n (RowAt.of_own hrow.own) (by omega))
  have HOF := Lib.hid (show R.of n = (n % (R.ca.length : Int)).toNat from rfl)
  have H := Lib.hid h
  have HVC := Lib.hid hvc
  have HU := Lib.hid (show R.used n = { R with ca := R.ca.set (R.of n) (useL R.room (R.cache (R.of n)) n) } from rfl)
  have hwl := wo_len n (R.cache (R.of n))
  generalize hl : R.cache (R.of n) = l at *
  generalize hi : R.of n = i at *
  obtain ⟨m, hm⟩ : ∃ m, R.ca.length = m := ⟨_, rfl⟩
  have HM := Lib.hid hm
  rw [hm] at HOF c5 hki hcan
  have hi' := HOF.out
  have i1 : n % (m : Int) = (i : Int) := by have := Int.emod_nonneg n (show (m : Int) ≠ 0 by omega); omega
  have i3 : n.tmod (m : Int) = (i : Int) := by rw [Int.tmod_eq_emod_of_nonneg (by omega)]; exact i1
  have i4 : IntKind.i64.wrap (i : Int) = (i : Int) := by rw [IntKind.wrap_i64]; omega
  have i5 : ((m : Int) == 0) = false := by simp; omega
  have i9 : ¬ m = 0 := by omega
  have i6 : (0 : Int) ≤ (i : Int) := by omega
  have i7 : (i : Int) < (m : Int) := by omega
  have i8 : ((i : Int)).toNat = i := by omega
  clear h hrow hvc hcs hn hi hm HOF hi' hl
  unfold ptr at *
  go_enter Try.func71, Try.ntmps71
  go_wp2_with fail
  refine HR.out.mono ?_
  rintro e w1 ⟨v1, rfl, ho1, hb1⟩
  obtain ⟨A1, d1, rfl, hr1, hd1, hdm1, hA1, _⟩ := own_ints ho1
  obtain ⟨w2, hw2⟩ : ∃ w2, w1.alloc (.cells #[.int .i64 n] 3) = w2 := ⟨_, rfl⟩
  have B12 := Lib.hid (show Below w1.heap.size w1 w2 from hw2 ▸ (Below.refl w1.heap.size w1).alloc (Nat.le_refl _) _)
  have B2 := Lib.hid (below_all hb1 hb1.size B12.out)
  have R2 := Lib.hid (hr1.below B12.out)
  have O2 := Lib.hid (show w2.ownsRow w1.heap.size 3 1 (.slice (some ⟨w1.heap.size, 0, none⟩) 1 1) 1 (ints [n]) by rw [← hw2]; exact lit_ownN w1 3 1 (ints [n]) 1 rfl (by unfold maxLen; omega))
  have HW2 := Lib.hid hw2
  have hws : w.heap.size ≤ w1.heap.size := hb1.size
  have HA1 := Lib.hid hA1
  obtain ⟨wl, hwle⟩ : ∃ wl, (wo n l).length = wl := ⟨_, rfl⟩
  rw [hwle] at hd1 R2 hwl HA1
  rw [hwle]
  have HWL := Lib.hid hwle
  have hd64 : d1 ≤ 9223372036854775807 := by unfold maxLen at hdm1; omega
  clear ho1 hb1 hr1 hw2 HR hA1 hwle hdm1
  go_upto_region 3 with (first
    | (at_builtin
       rw [HW2.out]
       refine app_i64 _ rfl (.tmp 27) (.tmp 28) rfl w1.heap.size (.slice (some ⟨w1.heap.size, 0, none⟩) 1 1) 1 (ints [n]) rfl O2.out A1 wl d1 (wo n l) rfl HA1.out R2.out (by omega) B12.out.size ?_
       intro v3 w3 ho3 hg3
       have ho3' : w3.ownsRow w1.heap.size 3 1 v3 (1 + wl) (ints (n :: wo n l)) := ho3
       obtain ⟨g3, c3', _, rfl, hg3b, _, hc3a, hc3b, _⟩ := own_form ho3' (by omega)
       have O3 := Lib.hid ho3'
       have B3 := Lib.hid (below_own O2.out B2.out (Nat.le_trans hws (Nat.le_refl _)) hg3)
       have hcc1 : c3' ≤ 9223372036854775807 := by unfold maxLen at hc3b; omega
       have hg3c : w.heap.size ≤ g3 := Nat.le_trans hws hg3b
       clear ho3 hg3 ho3' hc3b hg3b)
    | fail)
  obtain ⟨col3, hcol3⟩ : ∃ col3, paint col g3 1 = col3 := ⟨_, rfl⟩
  have t3 : Tch 16 16 col col3 w w3 := by rw [← hcol3]; exact (Tch.of_below B3.out).paint hg3c (O3.out.lt _ rfl).2 (by omega)
  have RW3 := Lib.hid (show Row w3 col3 B 1 3 1 (.slice (some ⟨g3, 0, none⟩) (1 + wl) c3') (1 + wl) (ints (n :: wo n l)) from ⟨own_mono O3.out (Nat.le_trans hB hws), fun g e => by injection e with e; subst e; rw [← hcol3, paint_self]⟩)
  have H3 := Lib.hid (H.out.keep t3 (by omega) (by omega))
  have T3 := Lib.hid t3
  have e5 : w3.cell? ⟨p, 5, none⟩ = some (.slice (some ⟨gc, 0, none⟩) m cc) := by
    have := H3.out.s.blk.cell 5
    rw [HVC.out, HM.out] at this
    exact this
  have e2 : w3.cell? ⟨p, 2, none⟩ = some (.int .i64 R.room) := H3.out.s.blk.cell 2
  obtain ⟨gc', cc', v', hvc', _, hk3, hz3, _⟩ := H3.out.cachev (k := i) (by rw [HM.out]; exact hki)
  obtain ⟨rfl, rfl⟩ : gc = gc' ∧ cc = cc' := by
    have h1 := HVC.out.symm.trans hvc'
    injection h1 with h1 _ h3
    injection h1 with h1
    injection h1 with h1
    exact ⟨h1, h3⟩
  have hn1 : (ints (n :: wo n l)).length = 1 + wl := by simp [ints, HWL.out]; omega
  have hrm := HRM.out
  clear t3 hcol3 O2 R2 O3 HW2 hvc' c5 c2 hk0 B12 B2 B3
  by_cases hgt : R.room < 1 + wl
  · have RF := RW3.out.cut (m := R.room) (by omega)
    have hul : useL R.room l n = (n :: wo n l).take R.room := rfl
    have hul2 : (useL R.room l n).length = R.room := by rw [hul, List.length_take]; simp only [List.length_cons, HWL.out]; omega
    obtain ⟨h4, t4⟩ := H3.out.cacheSet HVC.out (by rw [HM.out]; exact hki) (v := .slice (some ⟨g3, 0, none⟩) R.room c3') (l := useL R.room l n) (by rw [hul2]; rw [hul]; rw [ints, ← List.map_take] at RF; exact RF) (by omega)
    have H4 := Lib.hid h4
    have T4 := Lib.hid ((T3.out.any (lo' := c + 3) (hi' := c + 4) (Nat.le_refl _)).trans t4)
    have q1 : ((R.room : Nat) : Int) < ((1 + wl : Nat) : Int) := by omega
    have q2 : (R.room : Int) ≤ (c3' : Int) := by omega
    have q3 : ((R.room : Nat) : Int).toNat = R.room := by omega
    have q4 : (0 : Int) ≤ (R.room : Int) := by omega
    clear h4 t4 RF hul hul2
    generalize R.room = rm at *
    go_wp2_with fail
    go_end0
    exact ⟨rfl, col3, T4.out, _, by rw [HU.out]; exact H4.out⟩
  · have hul : useL R.room l n = n :: wo n l := List.take_of_length_le (by simp only [List.length_cons, HWL.out]; omega)
    obtain ⟨h4, t4⟩ := H3.out.cacheSet HVC.out (by rw [HM.out]; exact hki) (v := .slice (some ⟨g3, 0, none⟩) (1 + wl) c3') (l := useL R.room l n) (by rw [hul]; simp only [List.length_cons, HWL.out]; rw [Nat.add_comm wl 1]; exact RW3.out) (by rw [hul]; simp only [List.length_cons, HWL.out]; omega)
    have H4 := Lib.hid h4
    have T4 := Lib.hid ((T3.out.any (lo' := c + 3) (hi' := c + 4) (Nat.le_refl _)).trans t4)
    have q1 : ¬ ((R.room : Nat) : Int) < ((1 + wl : Nat) : Int) := by omega
    clear h4 t4 hul
    generalize R.room = rm at *
    go_wp2_with fail
    go_end0
    exact ⟨rfl, col3, T4.out, _, by rw [HU.out]; exact H4.out⟩
end Go.Proofs.Ytomoliickggghaa.Mem

namespace Go.Proofs.Ytomoliickggghaa.Mem
open Go.RowKit Go.Proofs.Ytomoliickggghaa Go.Proofs.Ytomoliickggghaa.Wire
set_option maxHeartbeats 8000000
set_option maxRecDepth 100000
set_option linter.unusedVariables false
set_option linter.unusedSimpArgs false

/-! ### colours of what is new are given later -/
theorem Row.recol1 {w : World} {a b : Col} {B r size n : Nat} {e : TypeId} {v : Value} {xs : List Value} (h : Row w a B r e size v n xs) (hc : ∀ g, a g ≠ 0 → b g = a g) (hr : r ≠ 0) : Row w b B r e size v n xs :=
  ⟨h.own, fun g e => by have := h.c g e; rw [hc g (by omega)]; exact this⟩
theorem Bk.recol1 {w : World} {a b : Col} {B r g : Nat} {t : TypeId} {cs : Array Value} (h : Bk w a B r g t cs) (hc : ∀ g, a g ≠ 0 → b g = a g) (hr : r ≠ 0) : Bk w b B r g t cs :=
  ⟨h.blk, by have := h.c; rw [hc g (by omega)]; exact this, h.b⟩
theorem OptDat.recol1 {w : World} {a b : Col} {B : Nat} {v : Value} {o : Option Bytes} (h : OptDat w a B v o) (hc : ∀ g, a g ≠ 0 → b g = a g) : OptDat w b B v o := by
  cases o with
  | none => exact h
  | some bs => exact Row.recol1 h hc (by omega)
theorem OptRow.recol1 {w : World} {a b : Col} {B r N : Nat} {v : Value} {f : Int → Option Bytes} (h : OptRow w a B r v N f) (hc : ∀ g, a g ≠ 0 → b g = a g) (hr : r ≠ 0) : OptRow w b B r v N f := by
  obtain ⟨vs, h1, h2⟩ := h.ex
  exact ⟨vs, h1.recol1 hc hr, fun i x hx => (h2 i x hx).recol1 hc⟩
/-- A row of no colour is painted. -/
theorem OptRow.paint1 {w : World} {a b : Col} {B r N : Nat} {v : Value} {f : Int → Option Bytes} (h : OptRow w a B 0 v N f) (hc : ∀ g, a g ≠ 0 → b g = a g) (hg : ∀ g, v.ownBlock = some g → b g = r) : OptRow w b B r v N f := by
  obtain ⟨vs, h1, h2⟩ := h.ex
  exact ⟨vs, ⟨h1.own, hg⟩, fun i x hx => (h2 i x hx).recol1 hc⟩
theorem RStAt.recol1 {w : World} {a b : Col} {B N : Nat} {x : Value × Value} {y : RSt} (h : RStAt w a B N x y) (hc : ∀ g, a g ≠ 0 → b g = a g) : RStAt w b B N x y := ⟨h.c.recol1 hc (by omega), h.h.recol1 hc (by omega)⟩
theorem Wr.recol1 {w : World} {a b : Col} {B r : Nat} {v : Value} {l : List (Int × Bytes)} (h : Wr w a B r v l) (hc : ∀ g, a g ≠ 0 → b g = a g) (hr : r ≠ 0) : Wr w b B r v l := by
  obtain ⟨vs, h1, h2, h3⟩ := h.ex
  exact ⟨vs, h1.recol1 hc hr, h2, fun i p q hp hq => Row.recol1 (h3 i p q hp hq) hc (by omega)⟩
theorem RDiskAt.recol1 {w : World} {a b : Col} {B c p : Nat} {R : RD} (h : RDiskAt w a B c p R) (hc : ∀ g, a g ≠ 0 → b g = a g) : RDiskAt w b B c p R := by
  have hl := h.lo
  obtain ⟨vl, vp, vs, h1, h2, h3, h4⟩ := h.ex
  exact ⟨⟨vl, vp, vs, h1.recol1 hc (by omega), h2.recol1 hc (by omega), ⟨h3.1, fun i v x h5 h6 => Row.recol1 (h3.2 i v x h5 h6) hc (by omega)⟩, h4.recol1 hc (by omega)⟩, h.lo, h.n, h.room⟩
theorem RStoreL.recol1 {w : World} {a b : Col} {B c p dp : Nat} {R : RS} {L : RL} (h : RStoreL w a B c p dp R L) (hc : ∀ g, a g ≠ 0 → b g = a g) : RStoreL w b B c p dp R L := by
  have hl := h.lo
  exact ⟨h.s.recol1 hc (by omega), h.st.recol1 hc (by omega), h.stl, fun i x y h1 h2 => (h.sta i x y h1 h2).recol1 hc, h.wait.recol1 hc (by omega), h.ca.recol1 hc (by omega), fun i v l h1 h2 => (h.cal i v l h1 h2).recol1 hc (by omega), h.d.recol1 hc,
    h.dn, h.lo, h.stn, h.can, h.calen, h.rm, h.few⟩
/-- What next hands back: rows of its own, no colour yet. -/
def RNext (w : World) (col : Col) (B : Nat) (R : RS) (e : Ending) (w' : World) : Prop := ∃ gc cc gh ch, e = .returned (.agg #[.slice (some ⟨gc, 0, none⟩) R.n cc, .slice (some ⟨gh, 0, none⟩) R.n ch]) ∧ Below w.heap.size w w' ∧ w.heap.size ≤ gc ∧ w.heap.size ≤ gh ∧ gc ≠ gh ∧
  OptRow w' col B 0 (.slice (some ⟨gc, 0, none⟩) R.n cc) R.n R.now.1 ∧ Row w' col B 0 4 1 (.slice (some ⟨gh, 0, none⟩) R.n ch) R.n (bools (fun i => R.now.2 i) R.n)
theorem rnext_any (w : World) (col : Col) (B c p dp : Nat) (R : RS) (L : RL) (h : RStoreL w col B c p dp R L) (hB : B ≤ w.heap.size) (hN : 1 ≤ R.n) (ht0 : ∀ b, w.heap.size ≤ b → col b = 0) :
    Calls Try.prog 73 #[ptr p] w fun e w' => RNext w col B R e w' := by
  have hNN := h.n1
  obtain ⟨w1, hw1⟩ : ∃ w1, w.alloc (.cells #[.slice none 0 0, .slice none 0 0] 96) = w1 := ⟨_, rfl⟩
  obtain ⟨s1, hs1⟩ : ∃ s1, w.heap.size = s1 := ⟨_, rfl⟩
  have B1 := Lib.hid (show Below w.heap.size w w1 by rw [← hw1]; exact (Below.refl w.heap.size w).alloc (Nat.le_refl _) _)
  have K1 := Lib.hid (show Blk w1 s1 96 #[.slice none 0 0, .slice none 0 0] by rw [← hw1, ← hs1]; exact Blk.new _ _ _)
  have H1 := Lib.hid (h.below B1.out)
  obtain ⟨x, _, hx, hnow⟩ := rnow_any w1 col B c p dp R L H1.out
  obtain ⟨vs, hv1, hv2⟩ := hx.c.ex
  have hvl : vs.length = R.n := by have := hv1.own.1; omega
  obtain ⟨g0, d0, _, hx0, _, _, hd0, hdm0, _⟩ := own_form hv1.own (by omega)
  obtain ⟨g1, d1, _, hx1, _, _, hd1, hdm1, _⟩ := own_form hx.h.own (by omega)
  rw [hx0] at hv1 hnow
  have hxh := hx.h
  rw [hx1] at hxh hnow
  have HN := Lib.hid hnow
  have V1 := Lib.hid hv1
  have V2 := Lib.hid hv2
  have XH := Lib.hid hxh
  have HW1 := Lib.hid hw1
  have HS1 := Lib.hid hs1
  have HT0 := Lib.hid ht0
  have hdd0 : d0 ≤ 9223372036854775807 := by unfold maxLen at hdm0; omega
  have hdd1 : d1 ≤ 9223372036854775807 := by unfold maxLen at hdm1; omega
  have hg1lt : g1 < w1.heap.size := (hxh.own.lt g1 rfl).2
  clear h hx hv1 hv2 hx0 hx1 hxh hnow hw1 hs1 ht0 hdm0 hdm1
  unfold ptr at *
  obtain ⟨N, hNe⟩ : ∃ N, R.n = N := ⟨_, rfl⟩
  obtain ⟨st, hst⟩ : ∃ st, R.now = st := ⟨_, rfl⟩
  have HRN := Lib.hid (show (fun e w' => RNext w col B R e w') = (fun e w' => ∃ gc cc gh ch, e = .returned (.agg #[.slice (some ⟨gc, 0, none⟩) N cc, .slice (some ⟨gh, 0, none⟩) N ch]) ∧ Below w.heap.size w w' ∧ w.heap.size ≤ gc ∧ w.heap.size ≤ gh ∧ gc ≠ gh ∧
    OptRow w' col B 0 (.slice (some ⟨gc, 0, none⟩) N cc) N st.1 ∧ Row w' col B 0 4 1 (.slice (some ⟨gh, 0, none⟩) N ch) N (bools (fun i => st.2 i) N)) by funext e w'; rw [RNext, hNe, hst])
  rw [HRN.out]
  rw [hNe] at HN hd0 hd1 hvl hN hNN V1 XH
  rw [hst] at V2 XH
  clear HRN hNe hst
  go_enter Try.func73, Try.ntmps73
  go_wp2_with (first | rw [HS1.out, HW1.out] | fail)
  refine HN.out.mono ?_
  rintro e w2 ⟨rfl, hb2⟩
  obtain ⟨w3, hw3⟩ : ∃ w3, w2.alloc (.cells #[.slice (some ⟨g0, 0, none⟩) N d0, .slice (some ⟨g1, 0, none⟩) N d1] 96) = w3 := ⟨_, rfl⟩
  obtain ⟨s3, hs3⟩ : ∃ s3, w2.heap.size = s3 := ⟨_, rfl⟩
  obtain ⟨w4, hw4⟩ : ∃ w4, w3.alloc (.cells #[.slice none 0 0, .slice none 0 0] 96) = w4 := ⟨_, rfl⟩
  obtain ⟨s4, hs4⟩ : ∃ s4, w3.heap.size = s4 := ⟨_, rfl⟩
  have b23 : Below w2.heap.size w2 w3 := hw3 ▸ (Below.refl w2.heap.size w2).alloc (Nat.le_refl _) _
  have b34 : Below w3.heap.size w3 w4 := hw4 ▸ (Below.refl w3.heap.size w3).alloc (Nat.le_refl _) _
  have b13 := below_all hb2 hb2.size b23
  have b14 := below_all b13 b13.size b34
  have z12 : w1.heap.size ≤ s3 := by rw [← hs3]; exact hb2.size
  have B1' := Lib.hid (show w.heap.size < s3 by have := B1.out.size; rw [HS1.out] at *; have := K1.out.lt; omega)
  have z34 : s3 < s4 := by rw [← hs3, ← hs4, ← hw3]; simp
  have K34 := Lib.hid (show Blk w4 s3 96 #[.slice (some ⟨g0, 0, none⟩) N d0, .slice (some ⟨g1, 0, none⟩) N d1] from (show Blk w3 s3 96 #[.slice (some ⟨g0, 0, none⟩) N d0, .slice (some ⟨g1, 0, none⟩) N d1] by rw [← hw3, ← hs3]; exact Blk.new _ _ _).belowAll b34)
  have K44 := Lib.hid (show Blk w4 s4 96 #[.slice none 0 0, .slice none 0 0] by rw [← hw4, ← hs4]; exact Blk.new _ _ _)
  have K14 := Lib.hid (K1.out.belowAll b14)
  have k1lt := K1.out.lt
  have B4 := Lib.hid (below_all B1.out B1.out.size b14)
  have V4 := Lib.hid (show RowAt w4 (some ⟨g0, 0, none⟩) (N * 1) vs from rowAt_ownN (own_belowN V1.out.own b14))
  have X4 := Lib.hid (show RowAt w4 (some ⟨g1, 0, none⟩) (N * 1) (bools (fun i => st.2 i) N) from rowAt_ownN (own_belowN XH.out.own b14))
  have E4 := Lib.hid (show ∀ (i : Nat) (x : Value), vs[i]? = some x → OptDat w4 col B x (st.1 i) from fun i x hx => (V2.out i x hx).keep (lo := 16) (hi := 16) (Tch.of_below b14) (by omega))
  have hone : ∀ u ∈ vs, u.oneCell' = true := fun u hu => by
    obtain ⟨i, hi⟩ := List.getElem?_of_mem hu
    obtain ⟨A, n, c, rfl⟩ := (V2.out i u hi).form
    rfl
  have HONE := Lib.hid hone
  have HW3 := Lib.hid hw3
  have HS3 := Lib.hid hs3
  have HW4 := Lib.hid hw4
  have HS4 := Lib.hid hs4
  have a0 : w4.cell? ⟨s3, 0, none⟩ = some (.slice (some ⟨g0, 0, none⟩) N d0) := K34.out.cell 0
  have a1 : w4.cell? ⟨s4, 0, none⟩ = some (.slice none 0 0) := K44.out.cell 0
  have a2 : w4.frozen? ⟨s4, 0, none⟩ = false := K44.out.frozen 0
  clear hb2 hw3 hs3 hw4 hs4 b23 b34 b13 b14 hone V1 V2 XH HN B1 K1 H1
  go_upto_region 4 with (first
    | rw [HS3.out, HW3.out]
    | rw [HS4.out, HW4.out]
    | (at_builtin
       refine app_gen _ 44 34 (.slice none 0 0) 1 24 Try.underlying44 info_rows rfl (by decide) rfl (.tmp 8) (.tmp 10) rfl w4.heap.size (.slice none 0 0) 0 [] rfl (World.ownsRow_nil _ _ _ _) (some ⟨g0, 0, none⟩) N d0 vs rfl (fun e => by cases e) V4.out HONE.out (by unfold maxLen; omega) (by omega) (Nat.le_refl _) ?_
       intro v5 w5 ho5 hg5
       rw [Nat.zero_add, List.nil_append] at ho5
       obtain ⟨gc, cc, _, rfl, hgcb, _, hcc1, hcc2, _⟩ := own_form ho5 (by omega)
       have b5 := below_of_only hg5 (fun g e => by cases e)
       have hl1 := K14.out.lt
       have hl4 := K44.out.lt
       have O5 := Lib.hid ho5
       have K35 := Lib.hid (K34.out.belowAll b5)
       have K45 := Lib.hid (K44.out.belowAll b5)
       have K15 := Lib.hid (K14.out.belowAll b5)
       have B5 := Lib.hid (below_all B4.out B4.out.size b5)
       have X5 := Lib.hid (X4.out.below b5)
       have E5 := Lib.hid (show ∀ (i : Nat) (x : Value), vs[i]? = some x → OptDat w5 col B x (st.1 i) from fun i x hx => (E4.out i x hx).keep (lo := 16) (hi := 16) (Tch.of_below b5) (by omega))
       have c1 : w5.cell? ⟨s4, 0, none⟩ = some (.slice none 0 0) := K45.out.cell 0
       have c2 : w5.frozen? ⟨s4, 0, none⟩ = false := K45.out.frozen 0
       have c3 : cc ≤ 9223372036854775807 := by unfold maxLen at hcc2; omega
       clear ho5 hg5 b5 hcc2)
    | fail)
  obtain ⟨w6, hw6⟩ : ∃ w6, w5.setCell ⟨s4, 0, none⟩ (.slice (some ⟨gc, 0, none⟩) N cc) = w6 := ⟨_, rfl⟩
  have hs14 : w.heap.size < s4 := by have := B1'.out; omega
  have gr6 : w5.grownBy w6 (some s4) := by rw [← hw6]; exact only_setCell (World.grownBy.refl w5 (some s4)) (p := ⟨s4, 0, none⟩) (.inl rfl) _
  have hs1s : s1 = w.heap.size := HS1.out.symm
  have hgc4 : gc ≠ s4 := by omega
  have hgc3 : gc ≠ s3 := by omega
  have hgc1 : gc ≠ s1 := by omega
  have K46 := Lib.hid (show Blk w6 s4 96 #[.slice (some ⟨gc, 0, none⟩) N cc, .slice none 0 0] by rw [← hw6]; exact K45.out.set_ 0 _)
  have K36 := Lib.hid (K35.out.grown gr6 (fun e => by injection e with e; omega))
  have K16 := Lib.hid (K15.out.grown gr6 (fun e => by injection e with e; omega))
  have O6 := Lib.hid (own_grown O5.out gr6 (fun e => by injection e with e; exact hgc4 e))
  have t6 : Tch 0 1 col col w5 w6 := Tch.of_grown gr6 (fun g e _ => by injection e with e; subst e; rw [HT0.out _ (Nat.le_of_lt hs14)]; omega)
  have E6 := Lib.hid (show ∀ (i : Nat) (x : Value), vs[i]? = some x → OptDat w6 col B x (st.1 i) from fun i x hx => (E5.out i x hx).keep t6 (by omega))
  have X6 := Lib.hid (X5.out.grown gr6 (fun a e _ e2 => by
    injection e with e
    subst e
    injection e2 with e2
    have e3 : g1 = s4 := e2
    omega))
  have B6 := Lib.hid (show Below w.heap.size w w6 by rw [← hw6]; exact B5.out.setCell (p := ⟨s4, 0, none⟩) (Nat.le_of_lt hs14) _)
  have a1 : w6.cell? ⟨s4, 1, none⟩ = some (.slice none 0 0) := K46.out.cell 1
  have a2 : w6.cell? ⟨s3, 1, none⟩ = some (.slice (some ⟨g1, 0, none⟩) N d1) := K36.out.cell 1
  have HW6 := Lib.hid hw6
  rw [hw6]
  clear hw6 gr6 t6 a0 K45 K35 K15 O5 E5 X5 B5 K44 K34 K14 E4 X4 V4 B4 c1 c2
  go_upto_region 5 with (first
    | (at_builtin
       refine app_gen _ 45 4 (.bool false) 1 1 Try.underlying45 info_bool rfl (by decide) rfl (.tmp 14) (.tmp 16) rfl w6.heap.size (.slice none 0 0) 0 [] rfl (World.ownsRow_nil _ _ _ _) (some ⟨g1, 0, none⟩) N d1 (bools (fun i => st.2 i) N) rfl (fun e => by cases e) X6.out (fun u hu => by obtain ⟨i, _, rfl⟩ := List.mem_map.1 hu; rfl) (by unfold maxLen; omega) (by omega) (Nat.le_refl _) ?_
       intro v7 w7 ho7 hg7
       rw [Nat.zero_add, List.nil_append] at ho7
       obtain ⟨gh, ch, _, rfl, hghb, _, hch1, hch2, _⟩ := own_form ho7 (by omega)
       have b7 := below_of_only hg7 (fun g e => by cases e)
       have hl1 := K16.out.lt
       have hl4 := K46.out.lt
       have hlc := (O6.out.lt gc rfl).2
       have OH7 := Lib.hid ho7
       have O7 := Lib.hid (own_belowN O6.out b7)
       have K47 := Lib.hid (K46.out.belowAll b7)
       have K17 := Lib.hid (K16.out.belowAll b7)
       have B7 := Lib.hid (below_all B6.out B6.out.size b7)
       have E7 := Lib.hid (show ∀ (i : Nat) (x : Value), vs[i]? = some x → OptDat w7 col B x (st.1 i) from fun i x hx => (E6.out i x hx).keep (lo := 16) (hi := 16) (Tch.of_below b7) (by omega))
       have c1 : w7.cell? ⟨s4, 1, none⟩ = some (.slice none 0 0) := K47.out.cell 1
       have c2 : w7.frozen? ⟨s4, 1, none⟩ = false := K47.out.frozen 1
       have c3' : ch ≤ 9223372036854775807 := by unfold maxLen at hch2; omega
       clear ho7 hg7 b7 hch2)
    | fail)
  obtain ⟨w8, hw8⟩ : ∃ w8, w7.setCell ⟨s4, 1, none⟩ (.slice (some ⟨gh, 0, none⟩) N ch) = w8 := ⟨_, rfl⟩
  have gr8 : w7.grownBy w8 (some s4) := by rw [← hw8]; exact only_setCell (World.grownBy.refl w7 (some s4)) (p := ⟨s4, 1, none⟩) (.inl rfl) _
  have K48 := Lib.hid (show Blk w8 s4 96 #[.slice (some ⟨gc, 0, none⟩) N cc, .slice (some ⟨gh, 0, none⟩) N ch] by rw [← hw8]; exact K47.out.set_ 1 _)
  have K18 := Lib.hid (show Blk w8 w.heap.size 96 #[.slice none 0 0, .slice none 0 0] by rw [← hs1s]; exact K17.out.grown gr8 (fun e => by injection e with e; omega))
  have O8 := Lib.hid (own_grown O7.out gr8 (fun e => by injection e with e; exact hgc4 e))
  have hgh4 : gh ≠ s4 := by omega
  have hgch : gc ≠ gh := by omega
  have OH8 := Lib.hid (own_grown OH7.out gr8 (fun e => by injection e with e; exact hgh4 e))
  have t8 : Tch 0 1 col col w7 w8 := Tch.of_grown gr8 (fun g e _ => by injection e with e; subst e; rw [HT0.out _ (Nat.le_of_lt hs14)]; omega)
  have E8 := Lib.hid (show ∀ (i : Nat) (x : Value), vs[i]? = some x → OptDat w8 col B x (st.1 i) from fun i x hx => (E7.out i x hx).keep t8 (by omega))
  have B8 := Lib.hid (show Below w.heap.size w w8 by rw [← hw8]; exact B7.out.setCell (p := ⟨s4, 1, none⟩) (Nat.le_of_lt hs14) _)
  have q0 : w8.cell? ⟨s4, 0, none⟩ = some (.slice (some ⟨gc, 0, none⟩) N cc) := K48.out.cell 0
  have q1 : w8.cell? ⟨s4, 1, none⟩ = some (.slice (some ⟨gh, 0, none⟩) N ch) := K48.out.cell 1
  have r0 : w8.cell? ⟨w.heap.size, 0, none⟩ = some (.slice none 0 0) := K18.out.cell 0
  have r1 : w8.cell? ⟨w.heap.size, 1, none⟩ = some (.slice none 0 0) := K18.out.cell 1
  have z0 : w8.frozen? ⟨w.heap.size, 0, none⟩ = false := K18.out.frozen 0
  have z1 : w8.frozen? ⟨w.heap.size, 1, none⟩ = false := K18.out.frozen 1
  rw [hw8]
  obtain ⟨wf, hwf⟩ : ∃ wf, (w8.setCell ⟨w.heap.size, 0, none⟩ (.slice (some ⟨gc, 0, none⟩) N cc)).setCell ⟨w.heap.size, 1, none⟩ (.slice (some ⟨gh, 0, none⟩) N ch) = wf := ⟨_, rfl⟩
  have grf : w8.grownBy wf (some w.heap.size) := by rw [← hwf]; exact only_setCell (only_setCell (World.grownBy.refl w8 (some w.heap.size)) (p := ⟨w.heap.size, 0, none⟩) (.inl rfl) _) (p := ⟨w.heap.size, 1, none⟩) (.inl rfl) _
  have KF := Lib.hid (show Blk wf w.heap.size 96 #[.slice (some ⟨gc, 0, none⟩) N cc, .slice (some ⟨gh, 0, none⟩) N ch] by rw [← hwf]; exact (K18.out.set_ 0 _).set_ 1 _)
  have hgcw : w.heap.size < gc := by omega
  have hghw : w.heap.size < gh := by omega
  have OF := Lib.hid (own_grown O8.out grf (fun e => by injection e with e; have e2 : gc = w.heap.size := e; omega))
  have OHF := Lib.hid (own_grown OH8.out grf (fun e => by injection e with e; have e2 : gh = w.heap.size := e; omega))
  have tf : Tch 0 1 col col w8 wf := Tch.of_grown grf (fun g e _ => by injection e with e; subst e; rw [HT0.out _ (Nat.le_refl _)]; omega)
  have EF := Lib.hid (show ∀ (i : Nat) (x : Value), vs[i]? = some x → OptDat wf col B x (st.1 i) from fun i x hx => (E8.out i x hx).keep tf (by omega))
  have BF := Lib.hid (show Below w.heap.size w wf by rw [← hwf]; exact (B8.out.setCell (p := ⟨w.heap.size, 0, none⟩) (Nat.le_refl _) _).setCell (p := ⟨w.heap.size, 1, none⟩) (Nat.le_refl _) _)
  have HWF := Lib.hid hwf
  clear hw8 gr8 t8 hwf grf tf K47 K17 O7 OH7 E7 B7 K46 K36 K16 O6 E6 X6 B6
  go_wp2_with (first | rw [HWF.out] | fail)
  refine bodyPost_ret (results_cell_row (P := Try.prog) (fn := Try.f73) (p := 2) (ty := 96) rfl _ wf w.heap.size 96 #[.slice (some ⟨gc, 0, none⟩) N cc, .slice (some ⟨gh, 0, none⟩) N ch] (0, 0) _ rfl KF.out Try.underlying96 rfl (by kernel_rfl)) rfl ?_
  exact ⟨gc, cc, gh, ch, rfl, BF.out, Nat.le_of_lt hgcw, Nat.le_of_lt hghw, hgch, ⟨vs, ⟨own_mono OF.out (by omega), fun g e => by injection e with e; subst e; exact HT0.out _ (Nat.le_of_lt hgcw)⟩, EF.out⟩, ⟨own_mono OHF.out (by omega), fun g e => by injection e with e; subst e; exact HT0.out _ (Nat.le_of_lt hghw)⟩⟩
end Go.Proofs.Ytomoliickggghaa.Mem

namespace Go.Proofs.Ytomoliickggghaa.Mem
open Go.RowKit Go.Proofs.Ytomoliickggghaa Go.Proofs.Ytomoliickggghaa.Wire
set_option maxHeartbeats 8000000
set_option maxRecDepth 100000
set_option linter.unusedVariables false
set_option linter.unusedSimpArgs false

theorem infoState : (Try.prog.info? 96).map (fun i => (i.zero, i.size, i.bytes)) = some (some (.agg #[.slice none 0 0, .slice none 0 0]), 2, 48) := by kernel_rfl
theorem RStoreL.pushSt {w w' : World} {col col' : Col} {B c p dp : Nat} {R : RS} {L : RL} (h : RStoreL w col B c p dp R L) (ht : Tch (c + 1) (c + 2) col col' w w') {v' : Value} {x : Value × Value} {y : RSt}
    (hr : Row w' col' B (c + 1) 96 2 v' (R.st.length + 1) (pcells L.xs ++ [x.1, x.2])) (hx : RStAt w' col' B R.n x y) (few : R.st.length + 1 + R.found + R.asked ≤ 1000000000) :
    RStoreL (w'.setCell ⟨p, 3, none⟩ v') col' B c p dp { R with st := R.st ++ [y] } { L with vst := v', xs := L.xs ++ [x] } ∧ Tch c (c + 1) col' col' w' (w'.setCell ⟨p, 3, none⟩ v') := by
  have hlo := h.lo
  have hs := h.s.keep ht (by omega)
  have t2 : Tch c (c + 1) col' col' w' (w'.setCell ⟨p, 3, none⟩ v') := (Tch.refl _ _ _ _).setCell (p := ⟨p, 3, none⟩) (by rw [hs.c]; omega) v'
  refine ⟨⟨hs.set 3 v', ?_, by simp [h.stl], fun i u z h1 h2 => ?_, (h.wait.keep ht (by omega) (by omega)).keep t2 (by omega) (by omega), (h.ca.keep ht (by omega)).keep t2 (by omega), fun i v l h1 h2 => ((h.cal i v l h1 h2).keep ht (by omega)).keep t2 (by omega),
    (h.d.keep ht (by omega) (by omega)).keep t2 (by omega) (by omega), h.dn, h.lo, by simp, h.can, h.calen, h.rm, by simp only [List.length_append, List.length_singleton]; omega⟩, t2⟩
  · have := hr.keep t2 (by omega)
    show Row _ col' B (c + 1) 96 2 v' (R.st ++ [y]).length (pcells (L.xs ++ [x]))
    rw [pcells_append, List.length_append]
    exact this
  · rcases Nat.lt_or_ge i L.xs.length with hi | hi
    · rw [List.getElem?_append_left hi] at h1
      rw [List.getElem?_append_left (by rw [← h.stl]; exact hi)] at h2
      exact ((h.sta i u z h1 h2).keep ht (by omega)).keep t2 (by omega)
    · rw [List.getElem?_append_right hi] at h1
      rw [List.getElem?_append_right (by rw [← h.stl]; exact hi)] at h2
      have h0 : i - L.xs.length = 0 := by
        have := (List.getElem?_eq_some_iff.1 h1).1
        simp at this; omega
      rw [h0] at h1
      rw [show i - R.st.length = 0 by rw [← h.stl]; exact h0] at h2
      injection h1 with h1
      injection h2 with h2
      subst h1 h2
      exact hx.keep t2 (by omega)
def RS.write (R : RS) (n : Int) (bs : Bytes) : RS := { R with st := R.st ++ [((fun j => if j = n then some bs else R.now.1 j), R.now.2)], ca := R.ca.set (R.of n) (wo n (R.cache (R.of n))) }
def RS.hold (R : RS) (n : Int) : RS := { R with st := R.st ++ [(R.now.1, (fun j => if j = n then true else R.now.2 j))] }
theorem rwrite_has (w : World) (col : Col) (B c p dp : Nat) (R : RS) (L : RL) (n : Int) (v : Value) (h : RStoreL w col B c p dp R L) (hn : R.has n = false) :
    Calls Try.prog 54 #[ptr p, .int .i64 n, v] w fun e w' => e = .returned (.int .i64 5) ∧ w = w' := by
  have HH := Lib.hid (rhas_any w col B c p dp R L n h)
  rw [hn] at HH
  clear h hn
  unfold ptr at *
  go_enter Try.func54, Try.ntmps54
  go_wp2_with fail
  refine HH.out.mono ?_
  rintro e w' ⟨rfl, rfl⟩
  go_wp2_with fail
  go_ret
  exact ⟨rfl, rfl⟩
theorem rwrite_len (w : World) (col : Col) (B c p dp : Nat) (R : RS) (L : RL) (n : Int) (A : Option Addr) (len cap : Nat) (h : RStoreL w col B c p dp R L) (hn : R.has n = true) (hl : len ≠ 256) :
    Calls Try.prog 54 #[ptr p, .int .i64 n, .slice A len cap] w fun e w' => e = .returned (.int .i64 22) ∧ w = w' := by
  have HH := Lib.hid (rhas_any w col B c p dp R L n h)
  rw [hn] at HH
  have hlb : ((len : Int) != 256) = true := by simp; omega
  clear h hn
  unfold ptr at *
  go_enter Try.func54, Try.ntmps54
  go_wp2_with fail
  refine HH.out.mono ?_
  rintro e w' ⟨rfl, rfl⟩
  go_wp2_with fail
  go_ret
  exact ⟨rfl, rfl⟩
end Go.Proofs.Ytomoliickggghaa.Mem

namespace Go.Proofs.Ytomoliickggghaa.Mem
open Go.RowKit Go.Proofs.Ytomoliickggghaa Go.Proofs.Ytomoliickggghaa.Wire
set_option maxHeartbeats 8000000
set_option maxRecDepth 100000
set_option linter.unusedVariables false
set_option linter.unusedSimpArgs false

def RS.backE (R : RS) (m : Int) : Int := if m < 0 ∨ ((R.st.length - 1 : Nat) : Int) < m then 22 else 0
def RS.back (R : RS) (m : Int) : RS := if m < 0 ∨ ((R.st.length - 1 : Nat) : Int) < m then R else { R with st := R.st.take (m.toNat + 1) }
theorem Row.cut2 {w : World} {col : Col} {B r g cap n : Nat} {e : TypeId} {xs : List Value} (h : Row w col B r e 2 (.slice (some ⟨g, 0, none⟩) n cap) n xs) {m : Nat} (hm : m ≤ n) : Row w col B r e 2 (.slice (some ⟨g, 0, none⟩) m cap) m (xs.take (m * 2)) := by
  obtain ⟨⟨h1, h2⟩, hc⟩ := h
  rcases h2 with ⟨h2, _⟩ | ⟨g', cap', cur, he, hB, hg, hnc, hcm, hcs, htk⟩
  · cases h2
  · injection he with he1 he2 he3
    injection he1 with he1
    injection he1 with he1
    subst he1 he3
    refine ⟨⟨by rw [List.length_take, h1]; omega, .inr ⟨g, cap, cur, rfl, hB, hg, by omega, hcm, hcs, ?_⟩⟩, hc⟩
    rw [← htk, List.take_take, Nat.min_eq_left (by omega)]
theorem rback_any (w : World) (col : Col) (B c p dp : Nat) (R : RS) (m : Int) (h : RStoreAt w col B c p dp R) :
    Calls Try.prog 56 #[ptr p, .int .i64 m] w fun e w' => e = .returned (.int .i64 (R.backE m)) ∧ Tch c (c + 1) col col w w' ∧ RStoreAt w' col B c p dp (R.back m) := by
  obtain ⟨L, h⟩ := h
  have HM := Lib.hid (rmark_any w col B c p dp R L h)
  have hn := h.stn
  have hf := h.few
  by_cases hm : m < 0 ∨ ((R.st.length - 1 : Nat) : Int) < m
  · have HE := Lib.hid (show R.backE m = 22 by rw [RS.backE, if_pos hm])
    have HB := Lib.hid (show R.back m = R by rw [RS.back, if_pos hm])
    have H := Lib.hid h
    clear h hn hf
    unfold ptr at *
    generalize R.st.length - 1 = K at *
    rcases hm with hm | hm
    · go_enter Try.func56, Try.ntmps56
      go_wp2_with fail
      go_ret
      exact ⟨by rw [HE.out]; rfl, Tch.refl _ _ _ _, L, by rw [HB.out]; exact H.out⟩
    · have hm0 : ¬ m < 0 := by omega
      go_enter Try.func56, Try.ntmps56
      go_wp2_with fail
      refine HM.out.mono ?_
      rintro e w' ⟨rfl, rfl⟩
      go_wp2_with fail
      go_ret
      exact ⟨by rw [HE.out]; rfl, Tch.refl _ _ _ _, L, by rw [HB.out]; exact H.out⟩
  · have HE := Lib.hid (show R.backE m = 0 by rw [RS.backE, if_neg hm])
    obtain ⟨k, rfl⟩ := Int.eq_ofNat_of_zero_le (show 0 ≤ m by omega)
    have HB := Lib.hid (show R.back (k : Int) = { R with st := R.st.take (k + 1) } by rw [RS.back, if_neg hm]; rfl)
    have hk : k + 1 ≤ R.st.length := by omega
    obtain ⟨g, cap, x, hv, _⟩ := h.last
    have c3 : w.cell? ⟨p, 3, none⟩ = some L.vst := h.s.blk.cell 3
    have z3 : w.frozen? ⟨p, 3, none⟩ = false := h.s.blk.frozen 3
    have hst := h.st
    rw [hv] at c3 hst
    have hcut := hst.cut2 (m := k + 1) hk
    have hlo := h.lo
    have t1 : Tch c (c + 1) col col w (w.setCell ⟨p, 3, none⟩ (.slice (some ⟨g, 0, none⟩) (k + 1) cap)) := (Tch.refl _ _ _ _).setCell (p := ⟨p, 3, none⟩) (by rw [h.s.c]; omega) _
    have hcap : R.st.length ≤ cap ∧ cap ≤ 9223372036854775807 := by
      obtain ⟨A, cp, hv2, _, h1, h2, _⟩ := row_len hst
      injection hv2 with _ _ h3
      subst h3
      exact ⟨h1, h2⟩
    have FIN := Lib.hid (show RStoreL (w.setCell ⟨p, 3, none⟩ (.slice (some ⟨g, 0, none⟩) (k + 1) cap)) col B c p dp { R with st := R.st.take (k + 1) } { L with vst := .slice (some ⟨g, 0, none⟩) (k + 1) cap, xs := L.xs.take (k + 1) } from by
      have hl : (R.st.take (k + 1)).length = k + 1 := by rw [List.length_take]; omega
      refine ⟨h.s.set 3 _, ?_, by simp [h.stl], fun i u z h1 h2 => ?_, h.wait.keep t1 (by omega) (by omega), h.ca.keep t1 (by omega), fun i v l h1 h2 => (h.cal i v l h1 h2).keep t1 (by omega), h.d.keep t1 (by omega) (by omega), h.dn, h.lo, by show 1 ≤ (R.st.take (k + 1)).length; omega, h.can, h.calen, h.rm, by show (R.st.take (k + 1)).length + R.found + R.asked ≤ _; omega⟩
      · have := hcut.keep t1 (by omega)
        rw [pcells_take] at this
        show Row _ col B (c + 1) 96 2 _ (R.st.take (k + 1)).length _
        rw [hl]; exact this
      · have h1' : (L.xs.take (k + 1))[i]? = some u := h1
        have h2' : (R.st.take (k + 1))[i]? = some z := h2
        rw [List.getElem?_take] at h1' h2'
        split at h1'
        · rename_i hi
          rw [if_pos hi] at h2'
          exact (h.sta i u z h1' h2').keep t1 (by omega)
        · cases h1')
    have T1 := Lib.hid t1
    have i1 : ¬ ((R.st.length - 1 : Nat) : Int) < (k : Int) := by omega
    have i2 : ¬ (k : Int) < 0 := by omega
    have i3 : IntKind.i64.wrap ((k : Int) + 1) = (k : Int) + 1 := by rw [IntKind.wrap_i64]; omega
    have i4 : ((k : Int) + 1).toNat = k + 1 := by omega
    have i5 : (k : Int) + 1 ≤ (cap : Int) := by omega
    have i6 : (0 : Int) ≤ (k : Int) + 1 := by omega
    clear h hv hst hcut t1 hm
    unfold ptr at *
    generalize hK : R.st.length = KK at *
    go_enter Try.func56, Try.ntmps56
    go_wp2_with fail
    refine HM.out.mono ?_
    rintro e w' ⟨rfl, rfl⟩
    go_wp2_with fail
    go_ret
    exact ⟨by rw [HE.out]; rfl, T1.out, _, by rw [HB.out]; exact FIN.out⟩
end Go.Proofs.Ytomoliickggghaa.Mem
