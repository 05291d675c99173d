
/-
  layer 2's document: SameWrites upon two lists that read alike.
  layer 6's laws: two stores beside one another that differ in their caches alone.
-/
import Derived.Test.YtomoliickggghaaKR6N9
namespace Go.Proofs.Ytomoliickggghaa.Mem
open Go.RowKit Go.Proofs.Ytomoliickggghaa Go.Proofs.Ytomoliickggghaa.Wire
set_option maxHeartbeats 8000000
set_option maxRecDepth 100000
set_option linter.unusedVariables false
set_option linter.unusedSimpArgs false

/-- What lies there reads as these writes. -/
def WsAt (w : World) (A : Option Addr) (l : List (Int × Bytes)) : Prop := ∀ (i : Nat) (n : Int) (bs : Bytes), l[i]? = some (n, bs) →
  ∃ a A2 n2 c2, A = some a ∧ w.cell? (a.add (i * 2)) = some (.int .i64 n) ∧ w.cell? ⟨(a.add (i * 2)).block, (a.add (i * 2)).off + 1, none⟩ = some (.slice A2 n2 c2) ∧ BytesAt w A2 n2 bs ∧ n2 ≤ 1048576
theorem WsAt.drewN {w : World} {A : Option Addr} {l : List (Int × Bytes)} (h : WsAt w A l) (k : Nat) : WsAt (w.drewN k) A l := h
theorem WrO.reads {w : World} {col : Col} {B cap : Nat} {A : Option Addr} {l : List (Int × Bytes)} (h : WrO w col B (.slice A l.length cap) l) : WsAt w A l := fun i n bs hi => by
  obtain ⟨g, g2, c2, rfl, _, h0, h1, hr⟩ := h.at_ hi
  refine ⟨⟨g, 0, none⟩, some ⟨g2, 0, none⟩, 256, c2, rfl, ?_, ?_, BytesAt.of_own hr.own, by omega⟩
  · rw [add_plain, Nat.zero_add]; exact h0
  · rw [add_plain]
    show w.cell? ⟨g, 0 + i * 2 + 1, none⟩ = _
    rw [Nat.zero_add]; exact h1
theorem sameWrites_any (A B : Option Addr) (n ca cb : Nat) (l : List (Int × Bytes)) (w : World) (hn : n ≤ 1125899906842624000) (hl : l.length = n) (ha : WsAt w A l) (hb : WsAt w B l) :
    Calls Try.prog 24 #[.slice A n ca, .slice B n cb] w fun e w' => e = .returned (.bool true) ∧ ∃ k, w' = w.drewN k := by
  have HA := Lib.hid ha
  have HB := Lib.hid hb
  have HL := Lib.hid hl
  have hnn : ((n : Int) != (n : Int)) = false := by simp
  clear ha hb hl
  go_enter Try.func24, Try.ntmps24
  go_wp2_with fail
  go_loopw [5] (fun ii wr => ∃ k : Nat, k ≤ n ∧ ii = .int .i64 k ∧ ∃ q, wr = w.drewN q) (fun ii _ => n - (intOf ii).toNat)
  case atStart => exact ⟨0, by omega, rfl, 0, rfl⟩
  case round =>
    obtain ⟨k, hk, rfl, q, rfl⟩ := hrel
    by_cases hlt : k < n
    · obtain ⟨⟨m, bs⟩, hm⟩ : ∃ x, l[k]? = some x := ⟨_, List.getElem?_eq_getElem (by rw [HL.out]; exact hlt)⟩
      obtain ⟨a, A2, n2, c2, rfl, h0, h1, h2, h3⟩ := HA.out k m bs hm
      obtain ⟨b, B2, m2, d2, rfl, k0, k1, k2, k3⟩ := HB.out k m bs hm
      have hki : (k : Int) < (n : Int) := by omega
      have hmm : (m != m) = false := by simp
      have hkn : ((k : Int)).toNat = k := by omega
      have Y1 := Lib.hid (h2.drewN (q + 1))
      have Y2 := Lib.hid (k2.drewN (q + 1))
      have S0 : ((w.drewN q).drew.cell? (a.add (k * 2)) = some (.int .i64 m) ∧ (w.drewN q).drew.cell? ⟨(a.add (k * 2)).block, (a.add (k * 2)).off + 1, none⟩ = some (.slice A2 n2 c2)) ∧ ((w.drewN q).drew.cell? (b.add (k * 2)) = some (.int .i64 m) ∧ (w.drewN q).drew.cell? ⟨(b.add (k * 2)).block, (b.add (k * 2)).off + 1, none⟩ = some (.slice B2 m2 d2)) := ⟨⟨h0, h1⟩, k0, k1⟩
      clear hm h0 h1 h2 k0 k1 k2
      go_wp2_with fail
      refine region_mix [true, true, true, true, true, true, true, true, true, true, true, true, true, true, true, true, true, true, true, true, true, true, false] (S := fun w' => (w'.cell? (a.add (k * 2)) = some (.int .i64 m) ∧ w'.cell? ⟨(a.add (k * 2)).block, (a.add (k * 2)).off + 1, none⟩ = some (.slice A2 n2 c2)) ∧ (w'.cell? (b.add (k * 2)) = some (.int .i64 m) ∧ w'.cell? ⟨(b.add (k * 2)).block, (b.add (k * 2)).off + 1, none⟩ = some (.slice B2 m2 d2))) (by kernel_rfl) (by kernel_rfl) (fun _ _ d _ _ h => by cases d <;> exact h) S0 ?_
      iterate 22 (refine mix_take (v := ?_) (by kernel_rfl) ?_ (fun K hK => ?_); rotate_left; (· (intro w' hSw; (try dsimp only at hSw); go_simp; with_reducible rfl)); simp only [Act.put, List.setIfInBounds_toArray, List.set_cons_zero, List.set_cons_succ]; refine hK _ ?_; clear hK K)
      refine mix_do (E := False) (fun K hK => ?_) (by kernel_rfl)
      go_simp
      refine (same_any A2 B2 n2 m2 c2 d2 bs bs _ (by omega) Y1.out Y2.out).mono ?_
      rintro e wd ⟨rfl, kd, rfl⟩
      rw [show (bs == bs) = true by simp]
      refine hK.out _ _ (S0) ?_
      clear hK K
      try simp only [Act.put, List.setIfInBounds_toArray, List.set_cons_zero, List.set_cons_succ]
      refine mix_still ?_
      iterate 2 (refine still_take (v := ?_) (by kernel_rfl) ?_ (fun K hK => ?_); rotate_left; (· (go_simp; with_reducible rfl)); simp only [Act.put, List.setIfInBounds_toArray, List.set_cons_zero, List.set_cons_succ]; refine hK _ ?_; clear hK K)
      refine still_end ?_
      go_wp2_with fail
      go_roundw
      case rel => exact ⟨k + 1, by omega, by go_num, _, by first | rfl | rw [World.drewN_drewN]⟩
      case measure => simp [intOf]; omega
    · obtain rfl : k = n := by omega
      go_wp2_with fail
      go_ret
      exact ⟨rfl, _, by first | rfl | rw [World.drewN_drewN]⟩
end Go.Proofs.Ytomoliickggghaa.Mem

namespace Go.Proofs.Ytomoliickggghaa.Mem
open Go.RowKit Go.Proofs.Ytomoliickggghaa Go.Proofs.Ytomoliickggghaa.Wire
set_option maxHeartbeats 8000000
set_option maxRecDepth 100000
set_option linter.unusedVariables false
set_option linter.unusedSimpArgs false

/-- No block has this colour. -/
def NoCol (r : Nat) (col : Col) : Prop := ∀ b, col b ≠ r
theorem NoCol.zero {r : Nat} (h : 16 ≤ r) : NoCol r (fun _ => 0) := fun b => by show 0 ≠ r; omega
theorem NoCol.keep {r lo hi : Nat} {a b : Col} {u v : World} (h : NoCol r a) (ht : Tch lo hi a b u v) (hr : 16 ≤ r) (hn : ¬ (lo ≤ r ∧ r < hi)) : NoCol r b := fun g e => by
  rcases Nat.lt_or_ge g u.heap.size with hg | hg
  · by_cases h1 : lo ≤ a g ∧ a g < hi
    · have := ht.stay g hg h1
      rw [e] at this; exact hn this
    · rw [ht.hue g hg h1] at e; exact h g e
  · rcases ht.neu g hg with h1 | h1 | h1
    · omega
    · rw [e] at h1; exact hn h1
    · rw [h1] at e; exact h g e
theorem Liv.other {w0 w w' : World} {col col' : Col} {B c p lo hi : Nat} {S : SS} (h : Liv w0 w col B c p S) (ht : Tch lo hi col col' w w') (h2 : 2 ≤ lo) (h3 : hi ≤ 300) (hr : c + 64 ≤ lo ∨ hi ≤ c) : Liv w0 w' col' B c p S :=
  ⟨h.t.trans (ht.mono (by omega) (by omega)), h.s.keep ht (by omega) hr, Nat.le_trans h.b ht.size, h.c, h.b0⟩

/-- Two states that differ in their caches (and where they lie) alone. -/
structure Sim (S T : SS) : Prop where
  chg : S.chg = T.chg
  wait : S.wait = T.wait
  undo : S.undo = T.undo
  n : S.d.N = T.d.N
  done : S.d.done = T.d.done
  new : S.d.new = T.d.new
  pend : S.d.pend = T.d.pend
  ops : S.d.ops = T.d.ops
theorem Sim.has {S T : SS} (h : Sim S T) (n : Int) : S.has n = T.has n := by unfold SS.has; rw [h.n]
theorem Sim.dget {S T : SS} (h : Sim S T) (n : Int) : S.d.get n = T.d.get n := by unfold DS.get; rw [h.new, h.done]
theorem Sim.val {S T : SS} (h : Sim S T) (n : Int) : S.val n = T.val n := by unfold SS.val; rw [h.chg, h.wait, h.dget]
theorem Sim.readB {S T : SS} (h : Sim S T) (hs : CI S) (ht : CI T) (n : Int) : S.readB n = T.readB n ∧ S.readE n = T.readE n := by
  rw [hs.readB, ht.readB, h.has, h.val]
  exact ⟨rfl, by unfold SS.readE; rw [h.has]⟩
theorem Sim.readS {S T : SS} (h : Sim S T) (n : Int) : Sim (S.readS n) (T.readS n) := by
  have a := read_parts S n
  have b := read_parts T n
  exact ⟨by rw [a.2.1, b.2.1, h.chg], by rw [a.2.2.1, b.2.2.1, h.wait], by rw [a.2.2.2.2.1, b.2.2.2.2.1, h.undo], by rw [a.1, b.1, h.n], by rw [a.1, b.1, h.done], by rw [a.1, b.1, h.new], by rw [a.1, b.1, h.pend], by rw [a.1, b.1, h.ops]⟩
theorem Sim.writeS {S T : SS} (h : Sim S T) (n : Int) (bs : Bytes) : Sim (S.writeS n bs) (T.writeS n bs) := by
  unfold SS.writeS
  rw [h.has]
  split
  · have a := write_parts S n bs
    have b := write_parts T n bs
    exact ⟨by rw [a.2.1, b.2.1, h.chg], by rw [a.2.2.1, b.2.2.1, h.wait], by rw [a.2.2.2.2.1, b.2.2.2.2.1, h.undo, h.chg], by rw [a.1, b.1, h.n], by rw [a.1, b.1, h.done], by rw [a.1, b.1, h.new], by rw [a.1, b.1, h.pend], by rw [a.1, b.1, h.ops]⟩
  · exact h
theorem Sim.commit {S T : SS} (h : Sim S T) : Sim S.commit T.commit :=
  ⟨rfl, by show over S.chg S.wait = over T.chg T.wait; rw [h.chg, h.wait], rfl, h.n, h.done, h.new, h.pend, h.ops⟩
theorem Sim.pop {S T : SS} (h : Sim S T) : Sim S.pop T.pop := by
  unfold SS.pop
  rw [h.undo]
  cases hu : T.undo[T.undo.length - 1]? with
  | none => exact h
  | some u =>
    cases u with
    | w n old => exact ⟨by show (fun j => if j = n then old else S.chg j) = (fun j => if j = n then old else T.chg j); rw [h.chg], h.wait, rfl, h.n, h.done, h.new, h.pend, h.ops⟩
    | h n cur was =>
      unfold Und.back
      simp only
      split
      · exact ⟨h.chg, h.wait, rfl, h.n, h.done, h.new, h.pend, h.ops⟩
      · exact ⟨h.chg, h.wait, rfl, h.n, h.done, h.new, h.pend, h.ops⟩
theorem Sim.backN : ∀ (k : Nat) {S T : SS}, Sim S T → Sim (S.backN k) (T.backN k)
  | 0, _, _, h => h
  | k + 1, _, _, h => Sim.backN k h.pop
theorem Sim.back {S T : SS} (h : Sim S T) (m : Int) : Sim (S.back m) (T.back m) := by
  unfold SS.back
  rw [h.undo]
  split
  · exact h
  · exact h.backN _
theorem Sim.home {S T : SS} (h : Sim S T) (n : Int) : Sim (S.home n) (T.home n) := by
  unfold SS.home
  rw [h.has, h.wait, h.chg]
  split
  · cases hw : T.wait n with
    | none => exact h
    | some b =>
      have hs : Sim (S.sent n b) (T.sent n b) := ⟨h.chg, by show (fun j => if j = n then none else S.wait j) = (fun j => if j = n then none else T.wait j); rw [h.wait], h.undo, h.n, h.done,
        by show (fun j => if j = n then some b else S.d.new j) = (fun j => if j = n then some b else T.d.new j); rw [h.new], by show S.d.pend ++ [(n, b)] = T.d.pend ++ [(n, b)]; rw [h.pend], by show S.d.ops + 1 = T.d.ops + 1; rw [h.ops]⟩
      cases hc : T.chg n with
      | some c => exact hs
      | none => exact ⟨hs.chg, hs.wait, hs.undo, hs.n, hs.done, hs.new, hs.pend, hs.ops⟩
  · exact h
/-- What is read has a block's length, or none. -/
theorem readB_len {w : World} {col : Col} {B c p : Nat} {S : SS} (h : StoreAt w col B c p S) (n : Int) : (S.readB n).length ≤ 256 := by
  unfold SS.readB
  split
  · rw [h.len]; omega
  · simp
theorem and15 {x : Int} (h : -9223372036854775808 ≤ x ∧ x ≤ 9223372036854775807) : ∃ k : Nat, bits .and .i64 x 15 = (k : Int) ∧ k < 16 := by
  have hx : (BitVec.ofInt 64 x &&& 15#64).toNat < 16 := by
    rw [BitVec.toNat_and]
    exact Nat.lt_of_le_of_lt Nat.and_le_right (by decide)
  refine ⟨(BitVec.ofInt 64 x &&& 15#64).toNat, ?_, hx⟩
  show IntKind.i64.wrap ((BitVec.ofInt 64 x &&& BitVec.ofInt 64 15).toNat : Int) = _
  rw [show BitVec.ofInt 64 15 = 15#64 from rfl, IntKind.wrap_i64]
  omega
theorem and255 {x : Int} (h : -9223372036854775808 ≤ x ∧ x ≤ 9223372036854775807) : ∃ k : Nat, bits .and .i64 x 255 = (k : Int) ∧ k < 256 := by
  have hx : (BitVec.ofInt 64 x &&& 255#64).toNat < 256 := by
    rw [BitVec.toNat_and]
    exact Nat.lt_of_le_of_lt Nat.and_le_right (by decide)
  refine ⟨(BitVec.ofInt 64 x &&& 255#64).toNat, ?_, hx⟩
  show IntKind.i64.wrap ((BitVec.ofInt 64 x &&& BitVec.ofInt 64 255).toNat : Int) = _
  rw [show BitVec.ofInt 64 255 = 255#64 from rfl, IntKind.wrap_i64]
  omega
end Go.Proofs.Ytomoliickggghaa.Mem
