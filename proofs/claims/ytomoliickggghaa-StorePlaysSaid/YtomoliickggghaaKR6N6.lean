
/-
  layer 6 (store): maps.Copy.
  layer 6 (store): Commit.
  layer 6's law: filled.
  layer 6's law: sameInts.
  layer 6 (store): the calls, each whatever the block is; what stays beside a store.
  layer 6's examples (awake), plain: the states that they go through.
  layer 6's examples (awake): the walk.
  WHAT A FRAME HANDS OVER, more: structs by value.
-/
import Derived.Test.YtomoliickggghaaKR6N5
import Derived.Test.YtomoliickggghaaKR6N2
import Derived.Test.YtomoliickggghaaProg
import Derived.Test.YtomoliickggghaaKR6N3
import Derived.ProofKit
import Derived.OpenShut
import Derived.Lib.SmallJoins
namespace Go.Proofs.Ytomoliickggghaa.Mem
open Go.RowKit Go.Proofs.Ytomoliickggghaa Go.Proofs.Ytomoliickggghaa.Wire
set_option maxHeartbeats 8000000
set_option maxRecDepth 100000
set_option linter.unusedVariables false
set_option linter.unusedSimpArgs false

theorem map_put_by (w : World) {ops : Array Oper} {rest : List Oper} {o : Oper} {a : Act} {Q : Exit → Act → World → Prop} (hg : o.guard = none) (m x v : Operand) (t : TypeId) (hop : o.op = Op.mapUpdate t m x v) (e : TypeId) (ht : Try.prog.underlying t = some (.map 3 e)) (col : Col) (B r b N : Nat) (f : Int → Option Value)
    (hm : a.eval m = .map (some b)) (h : MapR w col B r b N f) (k : Int) (hx : a.eval x = .int .i64 k) (hk : 0 ≤ k ∧ k < (N : Int)) (val : Value) (hv : a.eval v = val)
    (hK : ∀ w', MapR w' col B r b N (fun j => if j = k then some val else f j) → w.grownBy w' (some b) → wpList Try.prog ops Q rest (a.put o.dst undef) w') : wpList Try.prog ops Q (o :: rest) a w := by
  refine wpList_plain hg fun K' hK' => ?_
  obtain ⟨w', hrun, r1, r2⟩ := h.update ht hk val
  unfold Oper.wp
  simp [execOp, hop, hm, hx, hv, hrun, Result.andThen]
  exact hK' _ _ (hK w' r1 r2)
theorem Tch.new {lo hi : Nat} {a b : Col} {u v v' : World} (h : Tch lo hi a b u v) {r : Nat} (hg : v.grownBy v' (some r)) (hr : u.heap.size ≤ r) : Tch lo hi a b u v' :=
  ⟨hg.os.trans h.os, hg.tape.trans h.tape, hg.output.trans h.output, Nat.le_trans h.size hg.size, h.hue, h.stay, fun i hi hn => (hg.block i (Nat.lt_of_lt_of_le hi h.size) (fun e => by injection e with e; omega)).trans (h.block i hi hn), fun ht b hb => h.tidy ht b (Nat.le_trans hg.size hb), h.neu⟩
/-- One map over another. -/
def over {α : Type} (f g : Int → Option α) (k : Int) : Option α := match f k with
  | some v => some v
  | none => g k
def part (f g : Int → Option Value) (left : Lit → Bool) (k : Int) : Option Value := if (f k).isSome = true ∧ left (.int .i64 k) = false then f k else g k
theorem part_next {f g : Int → Option Value} {left : Lit → Bool} {x : Int} {v : Value} (hx : f x = some v) (j : Int) :
    (if j = x then some v else part f g left j) = part f g (fun z => left z && !z.sameKey (.int .i64 x)) j := by
  by_cases e : j = x
  · subst e
    rw [if_pos rfl, part, if_pos ⟨by rw [hx]; rfl, by simp [Lit.sameKey]⟩, hx]
  · rw [if_neg e, part, part]
    have : (Lit.int IntKind.i64 j).sameKey (.int .i64 x) = false := by simp [Lit.sameKey, e]
    rw [this, Bool.not_false, Bool.and_true]
theorem copy_any (w : World) (col : Col) (B rd rs bd bs N : Nat) (fd fs : Int → Option Value) (hd : MapR w col B rd bd N fd) (hs : MapR w col B rs bs N fs) (hne : rd ≠ rs) (h16 : 16 ≤ rd) (ht0 : ∀ b, w.heap.size ≤ b → col b = 0) :
    Calls Try.prog 45 #[.map (some bd), .map (some bs)] w fun e w' => e = .returned (.tuple #[]) ∧ Tch rd (rd + 1) col col w w' ∧ MapR w' col B rd bd N (over fs fd) := by
  obtain ⟨n, D, hown, hh, ha⟩ := hs.own
  have hbb : bd ≠ bs := fun e => hne (by rw [← hd.c, ← hs.c, e])
  have hbd := hd.lt
  have hbs := hs.lt
  have HD := Lib.hid hd
  have HSS := Lib.hid hs
  have HOWN := Lib.hid hown
  have HH := Lib.hid hh
  have HA := Lib.hid ha
  obtain ⟨r, hr⟩ : ∃ r, w.heap.size = r := ⟨_, rfl⟩
  have KV := Lib.hid (show ∀ x : Int, KB x → Maps.has D (.int .i64 x) = true → ∀ v, (∀ zd, D.atKey (.int .i64 x) zd = .held v) → fs x = some v from fun x hx h1 v h2 => by
    rw [HH.out x hx] at h1
    obtain ⟨u, hu⟩ := Option.isSome_iff_exists.1 h1
    have := ha x hx u hu (.held v)
    rw [h2] at this
    injection this with this
    rw [hu, this])
  have SUP := Lib.hid hs.sup
  clear hd hs hown hh ha
  go_enter Try.func45, Try.ntmps45
  go_wp2_with (first
    | (at_range
       refine wpList_range_own _ rfl (.tmp 6) 55 rfl 3 34 int_key Try.underlying55 RV bs n D rfl HOWN.out ?_
       intro w0 hrg0 hg0 hs0
       have RG := Lib.hid hrg0
       have G0 := Lib.hid hg0
       clear hrg0 hg0)
    | fail)
  go_frame
  rw [hr]
  rw [hr] at RG
  go_loopw [4, 5] (fun _ _ wr => ∃ (left : Lit → Bool) (cnt : Nat), wr.ranges Try.prog 3 RV bs r n D left cnt ∧ (∀ z, left z = true → Maps.has D z = true) ∧ Tch rd (rd + 1) col col w wr ∧ MapR wr col B rd bd N (part fs fd left)) (fun _ _ wr => wr.rangeLeft bs r)
  case atStart =>
    refine ⟨_, _, RG.out, fun z h => h, Tch.of_grown G0.out (fun g e => by cases e), (HD.out.move (G0.out.block bd hbd (by simp)) HD.out.c).ext fun k => ?_⟩
    rw [part]
    by_cases hk : KB k
    · rw [if_neg (fun ⟨h1, h2⟩ => by rw [HH.out k hk, h1] at h2; cases h2)]
    · have : fs k = none := by
        cases hf : fs k with
        | none => rfl
        | some v => have := SUP.out k v hf; have := HD.out.small; exact absurd ⟨by omega, by omega⟩ hk
      rw [if_neg (fun ⟨h1, _⟩ => by rw [this] at h1; cases h1)]
  case round =>
    obtain ⟨left, cnt, h1, h2, h3, h4⟩ := hrel
    have R1 := Lib.hid h1
    have R2 := Lib.hid h2
    have R3 := Lib.hid h3
    have R4 := Lib.hid h4
    clear h1 h2 h3 h4
    go_wp2_with (first
      | (at_next
         refine wpList_next_ranges wr rfl (.tmp 7) rfl 3 int_key RV (Value.int .i64) (fun v : Value => v) (fun key kl hkey => by obtain ⟨x, rfl, _⟩ := Maps.keyOf_int_inv Try.underlying3 hkey; exact ⟨x, rfl⟩) (fun v y hv => ⟨v, rfl⟩) bs r n D left cnt rfl R1.out ?_ ?_)
      | fail)
    · intro hc0 hl0
      have DONE := Lib.hid hl0
      clear hl0
      go_wp2
      go_end0
      refine ⟨rfl, R3.out, R4.out.ext fun k => ?_⟩
      rw [part, over, DONE.out]
      cases hf : fs k with
      | none => rw [if_neg (by simp)]
      | some v => rw [if_pos (by simp)]
    · intro x c kl yd yp w2 cnt2 hkey hleft hR hat hrg2 hlt2 hg2 hs2 hen
      obtain ⟨x', ex, rfl, hwf⟩ := Maps.keyOf_int_inv Try.underlying3 hkey
      injection ex with _ ex
      subst ex
      have hkb := key_wf hwf
      rw [RV_mk] at hR
      injection hR with hR
      injection hR with hR1 hR2
      subst hR1 hR2
      have hfx := KV.out x hkb (R2.out _ hleft) c hat
      have hx2 := SUP.out x c hfx
      have RG2 := Lib.hid hrg2
      have G2 := Lib.hid hg2
      have hrw : w.heap.size ≤ r := by omega
      have T2 := Lib.hid (R3.out.new hg2 hrw)
      have M2 := Lib.hid (R4.out.move (hg2.block bd (Nat.lt_of_lt_of_le hbd R3.out.size) (fun e => by injection e with e; omega)) R4.out.c)
      have LE := Lib.hid R1.out.left_eq
      have HFX := Lib.hid hfx
      have L2 := Lib.hid (show ∀ z, (left z && !z.sameKey (.int .i64 x)) = true → Maps.has D z = true from fun z hz => R2.out z (by rw [Bool.and_eq_true] at hz; exact hz.1))
      clear hkey hleft hat hrg2 hg2 hfx hwf R1 R2 R3 R4
      go_wp2_with (first
        | (at_mapUpdate
           refine map_put_by _ rfl (.tmp 13) (.tmp 14) (.tmp 15) 55 rfl 34 Try.underlying55 col B rd bd N (part fs fd left) rfl M2.out x rfl hx2 c rfl ?_
           intro w3 m3 g3
           have RG3 := Lib.hid (RG2.out.kept g3 (by intro e; injection e with e; exact hbb e.symm) (by intro e; injection e with e; omega))
           have T3 := Lib.hid (T2.out.trans (Tch.of_grown g3 (fun g e _ => by injection e with e; subst e; rw [m3.c]; omega)))
           have M3 := Lib.hid (m3.ext (part_next HFX.out))
           clear m3 g3)
        | fail)
      exact ⟨⟨_, ⟨_, RG3.out⟩, L2.out, T3.out, M3.out⟩, by rw [RG3.out.left_eq, LE.out]; exact hlt2⟩
end Go.Proofs.Ytomoliickggghaa.Mem

namespace Go.Proofs.Ytomoliickggghaa.Mem
open Go.RowKit Go.Proofs.Ytomoliickggghaa Go.Proofs.Ytomoliickggghaa.Wire
set_option maxHeartbeats 8000000
set_option maxRecDepth 100000
set_option linter.unusedVariables false
set_option linter.unusedSimpArgs false

def SS.commit (S : SS) : SS := { S with wait := over S.chg S.wait, chg := fun _ => none, undo := [] }
theorem Pair.over {w : World} {col : Col} {B : Nat} {f g : Int → Option Value} {m k : Int → Option Bytes} (h : Pair w col B f m) (h2 : Pair w col B g k) : Pair w col B (Mem.over f g) (Mem.over m k) := fun j => by
  rcases h j with ⟨e1, e2⟩ | ⟨v, bs, e1, e2, hd⟩
  · unfold Mem.over
    rw [e1, e2]; exact h2 j
  · unfold Mem.over
    rw [e1, e2]; exact .inr ⟨v, bs, rfl, rfl, hd⟩
theorem StoreL.noUndo {w : World} {col : Col} {B c p : Nat} {S : SS} {L : SL} (h : StoreL w col B c p S L) :
    StoreL (w.setCell ⟨p, 5, none⟩ (.slice none 0 0)) col B c p { S with undo := [] } { L with vu := .slice none 0 0, us := [] } ∧ Tch c (c + 1) col col w (w.setCell ⟨p, 5, none⟩ (.slice none 0 0)) := by
  have hn := h.shn
  have hcl := h.lo
  have hf := h.few
  have ht : Tch c (c + 1) col col w (w.setCell ⟨p, 5, none⟩ (.slice none 0 0)) := (Tch.refl _ _ _ _).setCell (p := ⟨p, 5, none⟩) (by rw [h.s.c]; omega) _
  refine ⟨⟨h.s.set 5 _, h.chg.keep ht (by omega) (by omega), h.wait.keep ht (by omega) (by omega), h.held.keep ht (by omega), Row.nil _ _ _ _ _ _, fun i u v h1 h2 => (by cases h1), h.shs.keep ht (by omega), h.shl, fun i x y h1 h2 => ?_,
    h.d.keep ht (by omega) (by omega), old_keep h.old h.tidy h.lo ht (by omega), h.lo, h.shn, h.rm, (by show 0 + S.found + S.asked ≤ _; omega), ht.tidy h.tidy⟩, ht⟩
  have hi := (List.getElem?_eq_some_iff.1 h2).1
  exact (h.sh i x y h1 h2).keep ht (by omega) (by omega) (by omega)
theorem scommit_any (w : World) (col : Col) (B c p : Nat) (S : SS) (h : StoreAt w col B c p S) :
    Calls Try.prog 15 #[ptr p] w fun e w' => SWaits w col B c p S.commit (wsOf S.d.N S.chg) c (c + 64) e w' := by
  obtain ⟨L, h⟩ := h
  have hcl := h.lo
  have HB := Lib.hid (sblocks_any w col B c p S L h)
  have hN : (((S.d.N : Nat) : Int) == 0) = false := by have := h.d.n; simp; omega
  have HS := Lib.hid (writes_any w col B (c + 1) L.bc S.d.N S.chg h.chg (by omega) h.d.n.1 h.tidy)
  have c2 : w.cell? ⟨p, 2, none⟩ = some (.map (some L.bc)) := h.s.blk.cell 2
  have H0 := Lib.hid h
  clear h
  obtain ⟨N, hNe⟩ : ∃ N, S.d.N = N := ⟨_, rfl⟩
  have HN := Lib.hid hNe
  rw [hNe] at HB hN
  clear hNe
  unfold ptr at *
  go_enter Try.func15, Try.ntmps15
  go_wp2_with fail
  refine HB.out.mono ?_
  rintro e w' ⟨rfl, rfl⟩
  go_wp2_with fail
  refine HS.out.mono ?_
  rintro e w2 ⟨v, col2, rfl, ht2, hw2⟩
  have W2 := Lib.hid (hw2.keep ((Tch.refl 16 16 col2 w2).drew) (by omega))
  have t2 := ht2.drew
  have T2 := Lib.hid t2
  have h2 := H0.out.keep t2 (by omega) (by omega)
  have H2 := Lib.hid h2
  obtain ⟨fc, hfc, hpc⟩ := h2.chg.ex
  obtain ⟨fw, hfw, hpw⟩ := h2.wait.ex
  have CP := Lib.hid (copy_any w2.drew col2 B (c + 2) (c + 1) L.bw L.bc S.d.N fw fc hfw hfc (by omega) (by omega) h2.tidy)
  have PO := Lib.hid (hpc.over hpw)
  have d3 : w2.drew.cell? ⟨p, 3, none⟩ = some (.map (some L.bw)) := h2.s.blk.cell 3
  have d2 : w2.drew.cell? ⟨p, 2, none⟩ = some (.map (some L.bc)) := h2.s.blk.cell 2
  have hws : w.heap.size ≤ w2.drew.heap.size := t2.size
  clear ht2 hw2 t2 h2 hfc hfw hpc hpw HB HS H0 c2
  go_wp2_with fail
  refine region_mix [true, true, true, true, true, true, true, true, false] (S := fun w' => w'.cell? ⟨p, 3, none⟩ = some (.map (some L.bw)) ∧ w'.cell? ⟨p, 2, none⟩ = some (.map (some L.bc))) (by kernel_rfl) (by kernel_rfl) (fun _ _ d _ _ h => by cases d <;> exact h) ⟨d3, d2⟩ ?_
  iterate 8 (refine mix_take (v := ?_) (by kernel_rfl) ?_ (fun K hK => ?_); rotate_left; (· (intro w' hSw; (try dsimp only at hSw); go_simp; with_reducible rfl)); simp only [Act.put, List.setIfInBounds_toArray, List.set_cons_zero, List.set_cons_succ]; refine hK _ ?_; clear hK K)
  refine mix_do (E := False) (fun K hK => ?_) (by kernel_rfl)
  go_simp
  refine CP.out.mono ?_
  rintro e w3 ⟨rfl, t3, m3⟩
  have h3 := H2.out.waitSet t3 (g := over S.chg S.wait) ⟨_, m3, PO.out.keep t3 (by omega)⟩
  have H3 := Lib.hid h3
  have T3 := Lib.hid ((T2.out.any (lo' := c) (hi' := c + 64) (Nat.le_refl _)).trans (t3.mono (by omega) (by omega)))
  have W3 := Lib.hid (W2.out.keep t3 (by omega))
  have e3 : w3.cell? ⟨p, 3, none⟩ = some (.map (some L.bw)) := h3.s.blk.cell 3
  have e2 : w3.cell? ⟨p, 2, none⟩ = some (.map (some L.bc)) := h3.s.blk.cell 2
  obtain ⟨f3, hf3, _⟩ := h3.chg.ex
  have F3 := Lib.hid hf3
  clear t3 m3 h3 hf3 d3 d2
  refine hK.out _ _ (⟨e3, e2⟩) ?_
  clear hK K
  try simp only [Act.put, List.setIfInBounds_toArray, List.set_cons_zero, List.set_cons_succ]
  refine mix_end ?_
  go_wp2_with (first
    | (refine map_clear _ rfl (.tmp 24) 55 rfl 34 Try.underlying55 col2 B (c + 1) L.bc S.d.N f3 rfl F3.out ?_
       intro w4 m4 t4
       have h4 := H3.out.chgSet t4 (g := fun _ => none) ⟨_, m4, Pair.empty _ _ _⟩
       obtain ⟨h5, t5⟩ := h4.noUndo
       have H5 := Lib.hid h5
       have T5 := Lib.hid ((T3.out.trans (t4.mono (by omega) (by omega))).trans (t5.mono (by omega) (by omega)))
       have W5 := Lib.hid ((W3.out.keep t4 (by omega)).keep t5 (by omega))
       have c5 : w4.cell? ⟨p, 5, none⟩ = some L.vu := h4.s.blk.cell 5
       have z5 : w4.frozen? ⟨p, 5, none⟩ = false := h4.s.blk.frozen 5
       clear m4 t4 h4 h5 t5)
    | fail)
  go_ret
  exact ⟨v, col2, rfl, T5.out, ⟨_, H5.out⟩, W5.out⟩
end Go.Proofs.Ytomoliickggghaa.Mem

namespace Go.Proofs.Ytomoliickggghaa.Mem
open Go.RowKit Go.Proofs.Ytomoliickggghaa Go.Proofs.Ytomoliickggghaa.Wire
set_option maxHeartbeats 8000000
set_option maxRecDepth 100000
set_option linter.unusedVariables false
set_option linter.unusedSimpArgs false

/-- A number's last byte. -/
def byteI (x : Int) : UInt8 := UInt8.ofNat (x % 256).toNat
theorem byteI_mod (x : Int) : x % 256 = ((byteI x).toNat : Int) := by
  rw [byteI, UInt8.toNat_ofNat']
  have h1 := Int.emod_nonneg x (show (256 : Int) ≠ 0 by decide)
  have h2 := Int.emod_lt_of_pos x (show (0 : Int) < 256 by decide)
  omega
def fillB (x : Int) : Bytes := List.replicate 256 (byteI x)
def fillJ (x : Int) (j : Nat) : Bytes := List.replicate j (byteI x) ++ List.replicate (256 - j) 0
theorem fillJ_next (x : Int) (j : Nat) (h : j < 256) : (fillJ x j).set j (byteI x) = fillJ x (j + 1) := by
  apply List.ext_getElem?
  intro i
  rw [List.getElem?_set]
  by_cases e : j = i
  · subst e
    rw [if_pos rfl, if_pos (by simp [fillJ]; omega)]
    simp only [fillJ]
    rw [List.getElem?_append_left (by simp)]
    simp
  · rw [if_neg e]
    simp only [fillJ]
    rcases Nat.lt_or_ge i j with h1 | h1
    · rw [List.getElem?_append_left (by simpa using h1), List.getElem?_append_left (by simp; omega)]
      rw [List.getElem?_replicate, List.getElem?_replicate, if_pos h1, if_pos (by omega)]
    · rw [List.getElem?_append_right (by simpa using h1), List.getElem?_append_right (by simp; omega)]
      simp only [List.length_replicate, List.getElem?_replicate]
      by_cases h3 : i < 256
      · rw [if_pos (by omega), if_pos (by omega)]
      · rw [if_neg (by omega), if_neg (by omega)]
theorem filled_any (x : Int) (w : World) :
    Calls Try.prog 13 #[.int .i64 x] w fun e w' => e = .returned (.slice (some ⟨w.heap.size, 0, none⟩) 256 256) ∧ Below w.heap.size w w' ∧ w'.ownsRow w.heap.size 5 1 (.slice (some ⟨w.heap.size, 0, none⟩) 256 256) 256 (bvl (fillB x)) := by
  have hmk := make_bytes 256 (by omega)
  rw [show ((256 : Nat) : Int) = 256 from rfl] at hmk
  have O1 := Lib.hid (show (w.alloc (.cells (roomOf [] 256) 5)).ownsRow w.heap.size 5 1 (.slice (some ⟨w.heap.size, 0, none⟩) 256 256) 256 (bvl (fillJ x 0)) from by
    have := World.ownsRow_lit (base := w.heap.size) (e := 5) (size := 1) w (roomOf [] 256) 256 (Nat.le_refl _) (by unfold maxLen; omega) (by rw [roomOf_size (by simp)])
    exact this)
  have B1 := Lib.hid ((Below.refl w.heap.size w).alloc (Nat.le_refl _) (.cells (roomOf [] 256) 5))
  generalize roomOf [] 256 = cells at *
  have HV := Lib.hid (byteI_mod x)
  go_enter Try.func13, Try.ntmps13
  go_wp2_with fail
  clear hmk
  go_loopw [4] (fun ii wr => ∃ j : Nat, j ≤ 256 ∧ ii = .int .i64 j ∧ wr.ownsRow w.heap.size 5 1 (.slice (some ⟨w.heap.size, 0, none⟩) 256 256) 256 (bvl (fillJ x j)) ∧ Below w.heap.size w wr) (fun ii _ => 256 - (intOf ii).toNat)
  case atStart => exact ⟨0, by omega, rfl, O1.out, B1.out⟩
  case round =>
    obtain ⟨j, hj, rfl, ho, hb⟩ := hrel
    have O := Lib.hid ho
    have BB := Lib.hid hb
    clear ho hb
    by_cases hlt : j < 256
    · obtain ⟨u, hu⟩ : ∃ u, wr.cell? ⟨w.heap.size, j, none⟩ = some u := ⟨_, by rw [O.out.cellAt j (by omega), bvl_get, List.getElem?_eq_getElem (by simp [fillJ]; omega)]; rfl⟩
      have hfr : wr.frozen? ⟨w.heap.size, j, none⟩ = false := O.out.frozenAt j
      have O2 := Lib.hid (O.out.stored j (bval (byteI x))).1
      have e3 : (bvl (fillJ x j)).set j (bval (byteI x)) = bvl (fillJ x (j + 1)) := by rw [← fillJ_next x j hlt, bvl, bvl, List.map_set]
      rw [e3] at O2
      have B2 := Lib.hid (BB.out.setCell (p := ⟨w.heap.size, j, none⟩) (Nat.le_refl _) (bval (byteI x)))
      clear e3
      unfold bval at O2 B2
      go_wp2_with fail
      go_roundw
      case rel => exact ⟨j + 1, by omega, by go_num, by rw [HV.out]; exact O2.out, by rw [HV.out]; exact B2.out⟩
      case measure => simp [intOf]; omega
    · obtain rfl : j = 256 := by omega
      have E := Lib.hid (show fillJ x 256 = fillB x by simp [fillJ, fillB])
      go_wp2_with fail
      go_ret
      exact ⟨rfl, BB.out, by rw [← E.out]; exact O.out⟩
end Go.Proofs.Ytomoliickggghaa.Mem

namespace Go.Proofs.Ytomoliickggghaa.Mem
open Go.RowKit Go.Proofs.Ytomoliickggghaa Go.Proofs.Ytomoliickggghaa.Wire
set_option maxHeartbeats 8000000
set_option maxRecDepth 100000
set_option linter.unusedVariables false
set_option linter.unusedSimpArgs false

theorem sameInts_any (A B : Option Addr) (n m ca cb : Nat) (x y : List Int) (w : World) (hn : n ≤ 1125899906842624000) (ha : RowAt w A n (ints x)) (hb : RowAt w B m (ints y)) :
    Calls Try.prog 23 #[.slice A n ca, .slice B m cb] w fun e w' => e = .returned (.bool (x == y)) ∧ ∃ k, w' = w.drewN k := by
  have lx : x.length = n := by have := ha.len; simpa [ints] using this
  have ly : y.length = m := by have := hb.len; simpa [ints] using this
  by_cases hnm : n = m
  · subst hnm
    have HA := Lib.hid ha
    have HB := Lib.hid hb
    have HL := Lib.hid (And.intro lx ly)
    clear ha hb lx ly
    go_enter Try.func23, Try.ntmps23
    go_wp2_with fail
    go_loopw [5] (fun i wr => ∃ k : Nat, k ≤ n ∧ i = .int .i64 k ∧ x.take k = y.take k ∧ ∃ q, wr = w.drewN q) (fun i _ => n - (intOf i).toNat)
    case atStart => exact ⟨0, by omega, rfl, by simp, 0, rfl⟩
    case round =>
      obtain ⟨k, hk, rfl, htk, q, rfl⟩ := hrel
      have HT := Lib.hid htk
      clear htk
      by_cases hlt : k < n
      · obtain ⟨a, c, rfl, hx, hc⟩ := HA.out.int_at hlt
        obtain ⟨b, d, rfl, hy, hd⟩ := HB.out.int_at hlt
        have HX := Lib.hid hx
        have HY := Lib.hid hy
        clear hx hy
        by_cases hcd : c = d
        · subst hcd
          have hq : (c != c) = false := by simp
          go_wp2_with fail
          go_quiet (fail)
          go_wp2_with fail
          go_roundw
          case rel => exact ⟨k + 1, by omega, by go_num, take_eq HX.out HY.out HT.out, _, by first | rfl | rw [World.drewN_drewN]⟩
          case measure => simp [intOf]; omega
        · have hq : (c != d) = true := by simpa using hcd
          have hxy := take_ne HX.out HY.out hcd
          go_wp2_with fail
          go_quiet (fail)
          go_wp2_with fail
          go_ret
          exact ⟨ret_bool (by simpa using hxy), _, by first | rfl | rw [World.drewN_drewN]⟩
      · obtain rfl : k = n := by omega
        have hxy := take_all HL.out.1 HL.out.2 HT.out
        go_wp2_with fail
        go_ret
        exact ⟨ret_bool (by simpa using hxy), _, by first | rfl | rw [World.drewN_drewN]⟩
  · have hd : ((n : Int) != (m : Int)) = true := by simp; omega
    have hxy : x ≠ y := by rintro rfl; omega
    have HXY := Lib.hid hxy
    clear hxy hnm ha hb
    go_enter Try.func23, Try.ntmps23
    go_wp2_with fail
    go_ret
    exact ⟨ret_bool (by simpa using HXY.out), 0, rfl⟩

end Go.Proofs.Ytomoliickggghaa.Mem

namespace Go.Proofs.Ytomoliickggghaa.Mem
open Go.RowKit Go.Proofs.Ytomoliickggghaa Go.Proofs.Ytomoliickggghaa.Wire
set_option maxHeartbeats 8000000
set_option maxRecDepth 100000
set_option linter.unusedVariables false
set_option linter.unusedSimpArgs false

/-! ### what stays -/
theorem bytes_tch {w w' : World} {a b : Col} {g n lo hi : Nat} {bs : Bytes} (h : BytesAt w (some ⟨g, 0, none⟩) n bs) (ht : Tch lo hi a b w w') (hg : ¬ (lo ≤ a g ∧ a g < hi)) : BytesAt w' (some ⟨g, 0, none⟩) n bs :=
  h.keep fun a' e hn i u hu => by
    obtain rfl : (⟨g, 0, none⟩ : Addr) = a' := by simpa using e
    rw [← hu]
    refine World.cell?_of_block ?_
    rw [block_of_add]
    exact ht.block g (h.lt hn) hg
theorem row_tch {w w' : World} {a b : Col} {n lo hi : Nat} {A : Option Addr} {vs : List Value} (h : RowAt w A n vs) (ht : Tch lo hi a b w w') (hg : ∀ x, A = some x → 0 < n → ¬ (lo ≤ a x.block ∧ a x.block < hi)) : RowAt w' A n vs :=
  h.keep fun x e hn i u hu => by
    subst e
    rw [← hu]
    refine World.cell?_of_block ?_
    rw [block_of_add]
    exact ht.block _ (h.lt hn) (hg x rfl hn)
/-- The maps that were held ahead of a Release are let go. -/
def junk (col : Col) (c : Nat) : Col := fun b => if col b = c + 6 then 4 else col b
theorem junk_tch {w : World} {col : Col} {c : Nat} (hc : 16 ≤ c) : Tch 4 (c + 7) col (junk col c) w w := by
  refine ⟨rfl, rfl, rfl, Nat.le_refl _, fun b hb hn => ?_, fun b hb h => ?_, fun _ _ _ => rfl, fun h b hb => ?_, fun b hb => ?_⟩
  · unfold junk; rw [if_neg (by omega)]
  · unfold junk; split <;> omega
  · unfold junk; rw [if_neg (by rw [h b hb]; omega)]; exact h b hb
  · unfold junk
    split
    · left; omega
    · right; right; rfl
theorem junk_no {col : Col} {c : Nat} (hc : 16 ≤ c) (b : Nat) : junk col c b ≠ c + 6 := by unfold junk; split <;> omega
theorem StoreAt.disk {w : World} {col : Col} {B c p : Nat} {S : SS} (h : StoreAt w col B c p S) : DiskAt w col B (c + 8) S.d.at_ S.d := by
  obtain ⟨L, h⟩ := h
  have := h.d
  rw [h.d.here] at this
  exact this

/-! ### the calls -/
theorem sread_all (w : World) (col : Col) (B c p : Nat) (S : SS) (n : Int) (h : StoreAt w col B c p S) (hB : B ≤ w.heap.size) (few : S.undo.length + S.found + S.asked + 1 ≤ 1000000000) :
    Calls Try.prog 17 #[ptr p, .int .i64 n] w fun e w' => SRead w col B c p (S.readS n) (S.readB n) (S.readE n) e w' := by
  cases hn : S.has n with
  | false => exact sread_no w col B c p S n h hn
  | true => exact sread_yes w col B c p S n h hn hB few
def SS.writeS (S : SS) (n : Int) (bs : Bytes) : SS := if S.has n = true then S.write n bs else S
def SS.writeE (S : SS) (n : Int) : Int := if S.has n = true then 0 else 5
theorem swrite_all (w : World) (col : Col) (B c p g cap : Nat) (S : SS) (n : Int) (bs : Bytes) (h : StoreAt w col B c p S) (hB : B ≤ w.heap.size) (few : S.undo.length + S.found + S.asked + 1 ≤ 1000000000)
    (hb : BytesAt w (some ⟨g, 0, none⟩) 256 bs) (hg : col g < 16) :
    Calls Try.prog 12 #[ptr p, .int .i64 n, .slice (some ⟨g, 0, none⟩) 256 cap] w fun e w' => SWrote w col B c p (S.writeS n bs) (S.writeE n) e w' := by
  have hlo := h.lo
  cases hn : S.has n with
  | false =>
    unfold SS.writeS SS.writeE
    rw [hn]
    exact swrite_has w col B c p S n _ h hn hB
  | true =>
    unfold SS.writeS SS.writeE
    rw [hn]
    exact swrite_any w col B c p S n _ cap bs h hn hB few ⟨_, rfl⟩ fun w' col' ht => bytes_tch hb ht (by omega)
def SS.holdS (S : SS) (n : Int) : SS := if S.has n = true then S.hold n else S
def SS.holdE (S : SS) (n : Int) : Int := if S.has n = true then 0 else 22
theorem shold_all (w : World) (col : Col) (B c p : Nat) (S : SS) (n : Int) (h : StoreAt w col B c p S) (hB : B ≤ w.heap.size) (few : S.undo.length + S.found + S.asked + 1 ≤ 1000000000) :
    Calls Try.prog 14 #[ptr p, .int .i64 n] w fun e w' => SWrote w col B c p (S.holdS n) (S.holdE n) e w' := by
  unfold SS.holdS SS.holdE
  cases hn : S.has n with
  | false => exact shold_no w col B c p S n h hn hB
  | true => exact shold_yes w col B c p S n h hn hB few
theorem sback_all (w : World) (col : Col) (B c p : Nat) (S : SS) (m : Int) (h : StoreAt w col B c p S) :
    Calls Try.prog 21 #[ptr p, .int .i64 m] w fun e w' => SWrote w col B c p (S.back m) (S.backE m) e w' := by
  unfold SS.back SS.backE
  by_cases hm : m < 0 ∨ (S.undo.length : Int) < m
  · rw [if_pos hm, if_pos hm]
    obtain ⟨L, hL⟩ := h
    refine (sback_no w col B c p S L m hL hm).mono ?_
    rintro e w' ⟨rfl, rfl⟩
    exact ⟨col, rfl, Tch.refl _ _ _ _, L, hL⟩
  · rw [if_neg hm, if_neg hm]
    obtain ⟨k, rfl⟩ := Int.eq_ofNat_of_zero_le (show 0 ≤ m by omega)
    refine (sback_yes w col B c p k S h (by omega)).mono ?_
    rintro e w' ⟨rfl, ht, hs⟩
    exact ⟨col, rfl, ht, hs⟩
theorem shome_all (w : World) (col : Col) (B c p : Nat) (S : SS) (n : Int) (h : StoreAt w col B c p S) (hB : B ≤ w.heap.size) (hroom : S.d.pend.length + S.d.ops + 2 ≤ 1000000000) :
    Calls Try.prog 16 #[ptr p, .int .i64 n] w fun e w' => SWrote w col B c p (S.home n) (S.homeE n) e w' := by
  unfold SS.homeE
  by_cases hn : S.has n = true ∧ (S.wait n).isSome = true
  · rw [if_pos hn]
    obtain ⟨bs, hbs⟩ := Option.isSome_iff_exists.1 hn.2
    exact shome_yes w col B c p S n bs h hn.1 hbs hB hroom
  · rw [if_neg hn]
    have e : S.home n = S := by
      unfold SS.home
      split
      · rename_i h1
        cases hw : S.wait n with
        | none => rfl
        | some b => exact absurd ⟨h1, by rw [hw]; rfl⟩ hn
      · rfl
    rw [e]
    obtain ⟨L, hL⟩ := h
    refine (shome_no w col B c p S L n hL hn).mono ?_
    rintro e w' ⟨rfl, rfl⟩
    exact ⟨col, rfl, Tch.refl _ _ _ _, L, hL⟩
theorem sheld_all (w : World) (col : Col) (B c p : Nat) (S : SS) (n : Int) (h : StoreAt w col B c p S) : Calls Try.prog 20 #[ptr p, .int .i64 n] w fun e w' => e = .returned (.bool (S.isHeld n)) ∧ w = w' := by
  obtain ⟨L, h⟩ := h
  exact sheld_any w col B c p S L n h
theorem smark_all (w : World) (col : Col) (B c p : Nat) (S : SS) (h : StoreAt w col B c p S) : Calls Try.prog 18 #[ptr p] w fun e w' => e = .returned (.int .i64 S.undo.length) ∧ w = w' := by
  obtain ⟨L, h⟩ := h
  exact smark_any w col B c p S L h
theorem sblocks_all (w : World) (col : Col) (B c p : Nat) (S : SS) (h : StoreAt w col B c p S) : Calls Try.prog 29 #[ptr p] w fun e w' => e = .returned (.int .i64 S.d.N) ∧ w = w' := by
  obtain ⟨L, h⟩ := h
  exact sblocks_any w col B c p S L h
theorem scounts_all (w : World) (col : Col) (B c p : Nat) (S : SS) (h : StoreAt w col B c p S) : Calls Try.prog 27 #[ptr p] w fun e w' => e = .returned (.tuple #[.int .i64 S.found, .int .i64 S.asked]) ∧ ∃ k, w' = w.drewN k := by
  obtain ⟨L, h⟩ := h
  exact scounts_any w col B c p S L h
def SChanged (w : World) (col : Col) (B c p : Nat) (S : SS) (e : Ending) (w' : World) : Prop := ∃ v, e = .returned v ∧ Tch 16 16 col col w w' ∧ StoreAt w' col B c p S ∧ Row w' col w.heap.size 0 3 1 v S.changed.length (ints S.changed)
theorem schanged_all (w : World) (col : Col) (B c p : Nat) (S : SS) (h : StoreAt w col B c p S) : Calls Try.prog 19 #[ptr p] w fun e w' => SChanged w col B c p S e w' := by
  obtain ⟨L, h⟩ := h
  refine (schanged_any w col B c p S L h).mono ?_
  rintro e w' ⟨v, rfl, hb, hr⟩
  exact ⟨v, rfl, Tch.of_below hb, ⟨L, h.below hb⟩, hr⟩
/-- A list of a block's bytes, new. -/
def SFilled (w : World) (col : Col) (x : Int) (e : Ending) (w' : World) : Prop := ∃ g, e = .returned (.slice (some ⟨g, 0, none⟩) 256 256) ∧ Below w.heap.size w w' ∧ BytesAt w' (some ⟨g, 0, none⟩) 256 (fillB x) ∧ Row w' col w.heap.size 0 5 1 (.slice (some ⟨g, 0, none⟩) 256 256) 256 (bvl (fillB x)) ∧ col g = 0 ∧ w.heap.size ≤ g
theorem filled_all (x : Int) (w : World) (col : Col) (ht : ∀ b, w.heap.size ≤ b → col b = 0) : Calls Try.prog 13 #[.int .i64 x] w fun e w' => SFilled w col x e w' := by
  refine (filled_any x w).mono ?_
  rintro e w' ⟨rfl, hb, ho⟩
  exact ⟨w.heap.size, rfl, hb, BytesAt.of_own ho, ⟨ho, fun g hg => by injection hg with hg; subst hg; exact ht _ (Nat.le_refl _)⟩, ht _ (Nat.le_refl _), Nat.le_refl _⟩
end Go.Proofs.Ytomoliickggghaa.Mem

namespace Go.Proofs.Ytomoliickggghaa.Mem
open Go.RowKit Go.Proofs.Ytomoliickggghaa Go.Proofs.Ytomoliickggghaa.Wire
set_option maxHeartbeats 8000000
set_option maxRecDepth 100000
set_option linter.unusedVariables false
set_option linter.unusedSimpArgs false

namespace Aw
def A0 (q : Nat) : SS := SS.fresh (DS.fresh 128 q) 1 2
def A1 (q : Nat) : SS := (A0 q).writeS 5 (fillB 7)
def A2 (q : Nat) : SS := (A1 q).writeS 5 (fillB 8)
def A3 (q : Nat) : SS := (A2 q).holdS 9
def A4 (q : Nat) : SS := (A3 q).back 1
def A5 (q : Nat) : SS := (A4 q).readS 5
def A6 (q : Nat) : SS := (A5 q).commit
def A7 (q : Nat) : SS := (A6 q).home 5
def A8 (q : Nat) : SS := (A7 q).home 5
def T0 (q : Nat) : SS := SS.fresh (A8 q).d 1 2
def ks : List Int := [1, 2, 1, 3, 1, 2]
def T (q : Nat) : Nat → SS
  | 0 => T0 q
  | k + 1 => (T q k).readS (ks.getD k 0)
def cnt (S : SS) : Nat := S.undo.length + S.found + S.asked
theorem c0 (q : Nat) : cnt (A0 q) = 0 := by kernel_rfl
theorem c1 (q : Nat) : cnt (A1 q) = 1 ∧ (A1 q).undo.length = 1 ∧ (A0 q).writeE 5 = 0 := ⟨by kernel_rfl, by kernel_rfl, by kernel_rfl⟩
theorem c2 (q : Nat) : cnt (A2 q) = 2 := by kernel_rfl
theorem c3 (q : Nat) : cnt (A3 q) = 3 ∧ (A3 q).backE 1 = 0 := ⟨by kernel_rfl, by kernel_rfl⟩
theorem c4 (q : Nat) : cnt (A4 q) = 1 ∧ (A4 q).readB 5 = fillB 7 := ⟨by kernel_rfl, by kernel_rfl⟩
theorem c5 (q : Nat) : cnt (A5 q) = 2 ∧ (A5 q).isHeld 9 = false ∧ wsOf (A5 q).d.N (A5 q).chg = [(5, fillB 7)] := ⟨by kernel_rfl, by kernel_rfl, by kernel_rfl⟩
theorem c6 (q : Nat) : (A6 q).d.pend.length + (A6 q).d.ops = 0 ∧ (A6 q).homeE 5 = 0 := ⟨by kernel_rfl, by kernel_rfl⟩
theorem c7 (q : Nat) : (A7 q).d.pend.length + (A7 q).d.ops = 2 ∧ (A7 q).homeE 5 = 22 := ⟨by kernel_rfl, by kernel_rfl⟩
theorem t_few (q : Nat) : ∀ k, k < 7 → cnt (T q k) = k ∧ (k = 6 → (T q k).found = 2 ∧ (T q k).asked = 4) := fun k hk => by
  rcases k with _ | _ | _ | _ | _ | _ | _ | k
  · exact ⟨by kernel_rfl, fun h => by cases h⟩
  · exact ⟨by kernel_rfl, fun h => by cases h⟩
  · exact ⟨by kernel_rfl, fun h => by cases h⟩
  · exact ⟨by kernel_rfl, fun h => by cases h⟩
  · exact ⟨by kernel_rfl, fun h => by cases h⟩
  · exact ⟨by kernel_rfl, fun h => by cases h⟩
  · exact ⟨by kernel_rfl, fun _ => ⟨by kernel_rfl, by kernel_rfl⟩⟩
  · omega
end Aw
end Go.Proofs.Ytomoliickggghaa.Mem

namespace Go.Proofs.Ytomoliickggghaa.Mem
open Go.RowKit Go.Proofs.Ytomoliickggghaa Go.Proofs.Ytomoliickggghaa.Wire
set_option maxHeartbeats 16000000
set_option maxRecDepth 100000
set_option linter.unusedVariables false
set_option linter.unusedSimpArgs false

def SNew2 (w : World) (col : Col) (B c : Nat) (d : DS) (shards room : Nat) (e : Ending) (w' : World) : Prop := ∃ p col', e = .returned (.tuple #[ptr p, .int .i64 0]) ∧ Tch 4 (c + 64) col col' w w' ∧ StoreAt w' col' B c p (SS.fresh d shards room) ∧ w.heap.size ≤ p
theorem snew_all (w : World) (col : Col) (B c dp shards room : Nat) (d : DS) (h : DiskAt w col B (c + 8) dp d) (hc : 16 ≤ c) (hB : B ≤ w.heap.size) (ht : ∀ b, w.heap.size ≤ b → col b = 0) (hs1 : 1 ≤ shards) (hs2 : shards ≤ 16) (hr1 : 1 ≤ room) (hr2 : room ≤ 256) :
    Calls Try.prog 11 #[ptr dp, .int .i64 shards, .int .i64 room] w fun e w' => SNew2 w col B c d shards room e w' := by
  have hj := junk_tch (w := w) (col := col) hc
  refine (snew_any w (junk col c) B c dp shards room d (h.keep hj (by omega) (by omega)) hc hB (hj.tidy ht) (fun b _ => junk_no hc b) hs1 hs2 hr1 hr2).mono ?_
  rintro e w' ⟨p, col', rfl, h1, h2, h3⟩
  exact ⟨p, col', rfl, (hj.mono (by omega) (by omega)).trans (h1.mono (by omega) (by omega)), h2, h3⟩
/-- The world behind a law's beginning: what was touched since, and a store. -/
structure Liv (w0 w : World) (col : Col) (B c p : Nat) (S : SS) : Prop where
  t : Tch 2 300 (fun _ => 0) col w0 w
  s : StoreAt w col B c p S
  b : B ≤ w.heap.size
  c : c + 64 ≤ 300
  b0 : B = w0.heap.size
theorem Liv.next {w0 w w' : World} {col col' : Col} {B c p : Nat} {S S' : SS} (h : Liv w0 w col B c p S) (ht : Tch c (c + 64) col col' w w') (hs : StoreAt w' col' B c p S') : Liv w0 w' col' B c p S' := by
  have := h.c
  have := h.s.lo
  exact ⟨h.t.trans (ht.mono (by omega) (by omega)), hs, Nat.le_trans h.b ht.size, h.c, h.b0⟩
theorem Liv.below {w0 w w' : World} {col : Col} {B c p : Nat} {S : SS} (h : Liv w0 w col B c p S) (hb : Below w.heap.size w w') : Liv w0 w' col B c p S := by
  have := h.s.lo
  have ht : Tch c (c + 64) col col w w' := Tch.of_below hb
  exact h.next ht (h.s.keep (lo := 16) (hi := 16) (Tch.of_below hb) (by omega) (by omega))
theorem Liv.same {w0 w w' : World} {col col' : Col} {B c p : Nat} {S : SS} (h : Liv w0 w col B c p S) (ht : Tch 16 16 col col' w w') : Liv w0 w' col' B c p S := by
  have := h.s.lo
  exact h.next (ht.any (Nat.le_refl _)) (h.s.keep ht (by omega) (by omega))
theorem Liv.end {w0 w : World} {col : Col} {B c p : Nat} {S : SS} (h : Liv w0 w col B c p S) : Below w0.heap.size w0 w := h.t.below (Nat.le_refl _) (fun i _ => by omega)
theorem Liv.tidy {w0 w : World} {col : Col} {B c p : Nat} {S : SS} (h : Liv w0 w col B c p S) : ∀ b, w.heap.size ≤ b → col b = 0 := h.s.tidy
theorem awake_any (w : World) : Calls Try.prog 9 #[] w fun e w' => e = .returned (.bool true) ∧ Below w.heap.size w w' := by
  have HD := Lib.hid (dnew_any w (fun _ => 0) w.heap.size 24 2 300 128 (by omega) (by omega) (Nat.le_refl _) (by omega) (by omega) (by omega))
  rw [show ((128 : Nat) : Int) = 128 from rfl] at HD
  have few : ∀ (S : SS) (k : Nat), Aw.cnt S = k → k < 100 → S.undo.length + S.found + S.asked + 1 ≤ 1000000000 := fun S k h h2 => by unfold Aw.cnt at h; omega
  have FEW := Lib.hid few
  clear few
  go_enter Try.func9, Try.ntmps9
  go_wp2_with fail
  refine HD.out.mono ?_
  rintro e w1 ⟨q, col1, rfl, ht1, hd1, _⟩
  have T1 := Lib.hid ht1
  have D1 := Lib.hid hd1
  have HS := Lib.hid (snew_all w1 col1 w.heap.size 16 q 1 2 _ hd1 (by omega) ht1.size (ht1.tidy (fun _ _ => rfl)) (by omega) (by omega) (by omega) (by omega))
  rw [show ((1 : Nat) : Int) = 1 from rfl, show ((2 : Nat) : Int) = 2 from rfl] at HS
  clear HD ht1 hd1
  unfold ptr at HS ⊢
  go_wp2_with fail
  refine HS.out.mono ?_
  rintro e w2 ⟨p, col2, rfl, ht2, hs2, _⟩
  have L2 := Lib.hid (show Liv w w2 col2 w.heap.size 16 p (Aw.A0 q) from ⟨T1.out.trans (ht2.mono (by omega) (by omega)), hs2, Nat.le_trans T1.out.size ht2.size, by omega, rfl⟩)
  have HN := Lib.hid (snew_no w2 col2 w.heap.size 24 q (DS.fresh 128 q) 17 2 (by
    have := hs2.disk
    exact this) (by omega))
  clear T1 D1 HS ht2 hs2
  unfold ptr at HN ⊢
  go_wp2_with fail
  refine HN.out.mono ?_
  rintro e w' ⟨rfl, rfl⟩
  clear HN
  go_wp2_with fail
  refine (filled_all 7 w2 col2 L2.out.tidy).mono ?_
  rintro e w3 ⟨g3, rfl, hb3, hy3, _, hc3, _⟩
  have L3 := Lib.hid (L2.out.below hb3)
  have HW := Lib.hid (swrite_all w3 col2 w.heap.size 16 p g3 256 (Aw.A0 q) 5 (fillB 7) L3.out.s L3.out.b (FEW.out _ _ (Aw.c0 q) (by omega)) hy3 (by omega))
  rw [(Aw.c1 q).2.2, show (Aw.A0 q).writeS 5 (fillB 7) = Aw.A1 q from rfl] at HW
  clear L2 hb3 hy3
  unfold ptr at HW
  go_wp2_with fail
  refine HW.out.mono ?_
  rintro e w4 ⟨col4, rfl, ht4, hs4⟩
  have L4 := Lib.hid (L3.out.next ht4 hs4)
  have HM := Lib.hid (smark_all w4 col4 w.heap.size 16 p (Aw.A1 q) hs4)
  rw [(Aw.c1 q).2.1] at HM
  clear L3 HW ht4 hs4
  unfold ptr at HM
  go_wp2_with fail
  refine HM.out.mono ?_
  rintro e w' ⟨rfl, rfl⟩
  clear HM
  go_wp2_with fail
  refine (filled_all 8 w4 col4 L4.out.tidy).mono ?_
  rintro e w5 ⟨g5, rfl, hb5, hy5, _, hc5, _⟩
  have L5 := Lib.hid (L4.out.below hb5)
  have HW := Lib.hid (swrite_all w5 col4 w.heap.size 16 p g5 256 (Aw.A1 q) 5 (fillB 8) L5.out.s L5.out.b (FEW.out _ _ (Aw.c1 q).1 (by omega)) hy5 (by omega))
  rw [show (Aw.A1 q).writeS 5 (fillB 8) = Aw.A2 q from rfl] at HW
  clear L4 hb5 hy5
  unfold ptr at HW
  go_wp2_with fail
  refine HW.out.mono ?_
  rintro e w6 ⟨col6, rfl, ht6, hs6⟩
  have L6 := Lib.hid (L5.out.next ht6 hs6)
  have HH := Lib.hid (shold_all w6 col6 w.heap.size 16 p (Aw.A2 q) 9 L6.out.s L6.out.b (FEW.out _ _ (Aw.c2 q) (by omega)))
  rw [show (Aw.A2 q).holdS 9 = Aw.A3 q from rfl] at HH
  clear L5 HW ht6 hs6
  unfold ptr at HH
  go_wp2_with fail
  refine HH.out.mono ?_
  rintro e w7 ⟨col7, rfl, ht7, hs7⟩
  have L7 := Lib.hid (L6.out.next ht7 hs7)
  have HB := Lib.hid (sback_all w7 col7 w.heap.size 16 p (Aw.A3 q) 1 L7.out.s)
  rw [(Aw.c3 q).2, show (Aw.A3 q).back 1 = Aw.A4 q from rfl] at HB
  clear L6 HH ht7 hs7
  unfold ptr at HB
  go_wp2_with fail
  refine HB.out.mono ?_
  rintro e w8 ⟨col8, rfl, ht8, hs8⟩
  have L8 := Lib.hid (L7.out.next ht8 hs8)
  have HR := Lib.hid (sread_all w8 col8 w.heap.size 16 p (Aw.A4 q) 5 L8.out.s L8.out.b (FEW.out _ _ (Aw.c4 q).1 (by omega)))
  rw [(Aw.c4 q).2, show (Aw.A4 q).readS 5 = Aw.A5 q from rfl] at HR
  clear L7 HB ht8 hs8
  unfold ptr at HR
  go_wp2_with fail
  refine HR.out.mono ?_
  rintro e w9 ⟨v9, col9, rfl, ht9, hs9, hr9⟩
  have L9 := Lib.hid (L8.out.next ht9 hs9)
  have R9 := Lib.hid hr9
  have HE := Lib.hid (sheld_all w9 col9 w.heap.size 16 p (Aw.A5 q) 9 hs9)
  rw [(Aw.c5 q).2.1] at HE
  clear L8 HR ht9 hs9 hr9
  unfold ptr at HE
  go_wp2_with fail
  refine HE.out.mono ?_
  rintro e w' ⟨rfl, rfl⟩
  clear HE
  have HC := Lib.hid (scommit_any w9 col9 w.heap.size 16 p (Aw.A5 q) L9.out.s)
  rw [(Aw.c5 q).2.2, show (Aw.A5 q).commit = Aw.A6 q from rfl] at HC
  unfold ptr at HC
  go_wp2_with fail
  refine HC.out.mono ?_
  rintro e w10 ⟨v10, col10, rfl, ht10, hs10, ho10⟩
  have L10 := Lib.hid (L9.out.next ht10 hs10)
  have R10 := Lib.hid (R9.out.keep ht10 (by omega))
  have O10 := Lib.hid ho10
  have HH := Lib.hid (shome_all w10 col10 w.heap.size 16 p (Aw.A6 q) 5 L10.out.s L10.out.b (by have := (Aw.c6 q).1; omega))
  rw [(Aw.c6 q).2, show (Aw.A6 q).home 5 = Aw.A7 q from rfl] at HH
  clear L9 HC ht10 hs10 ho10 R9
  unfold ptr at HH
  go_wp2_with fail
  refine HH.out.mono ?_
  rintro e w11 ⟨col11, rfl, ht11, hs11⟩
  have L11 := Lib.hid (L10.out.next ht11 hs11)
  have R11 := Lib.hid (R10.out.keep ht11 (by omega))
  have O11 := Lib.hid (O10.out.keep ht11 (by omega))
  have HH := Lib.hid (shome_all w11 col11 w.heap.size 16 p (Aw.A7 q) 5 L11.out.s L11.out.b (by have := (Aw.c7 q).1; omega))
  rw [(Aw.c7 q).2, show (Aw.A7 q).home 5 = Aw.A8 q from rfl] at HH
  clear L10 ht11 hs11 R10 O10
  unfold ptr at HH
  go_wp2_with fail
  refine HH.out.mono ?_
  rintro e w12 ⟨col12, rfl, ht12, hs12⟩
  have L12 := Lib.hid (L11.out.next ht12 hs12)
  have R12 := Lib.hid (R11.out.keep ht12 (by omega))
  have O12 := Lib.hid (O11.out.keep ht12 (by omega))
  have hq : (Aw.A8 q).d.at_ = q := by kernel_rfl
  have hd12 := hs12.disk
  rw [hq] at hd12
  have HS := Lib.hid (snew_all w12 col12 w.heap.size 16 q 1 2 _ hd12 (by omega) L12.out.b L12.out.tidy (by omega) (by omega) (by omega) (by omega))
  rw [show ((1 : Nat) : Int) = 1 from rfl, show ((2 : Nat) : Int) = 2 from rfl, show SNew2 w12 col12 w.heap.size 16 (Aw.A8 q).d 1 2 = fun e w' => ∃ p col', e = .returned (.tuple #[ptr p, .int .i64 0]) ∧ Tch 4 80 col12 col' w12 w' ∧ StoreAt w' col' w.heap.size 16 p (Aw.T q 0) ∧ w12.heap.size ≤ p from rfl] at HS
  clear L11 ht12 hs12 R11 O11 hd12 hq
  unfold ptr at HS
  go_wp2_with fail
  refine HS.out.mono ?_
  rintro e w13 ⟨p2, col13, rfl, ht13, hs13, _⟩
  have L13 := Lib.hid (show Liv w w13 col13 w.heap.size 16 p2 (Aw.T q 0) from ⟨L12.out.t.trans (ht13.mono (by omega) (by omega)), hs13, Nat.le_trans L12.out.b ht13.size, by omega, rfl⟩)
  have R13 := Lib.hid (R12.out.keep ht13 (by omega))
  have O13 := Lib.hid (O12.out.keep ht13 (by omega))
  clear L12 HS ht13 hs13 R12 O12
  obtain ⟨g9, cap9, _, rfl, _⟩ := own_form R13.out.own (by simp [fillB])
  have LL := Lib.hid (show Row (w13.alloc (.cells #[.int .i64 1, .int .i64 2, .int .i64 1, .int .i64 3, .int .i64 1, .int .i64 2] 3)) col13 w13.heap.size 0 3 1 (.slice (some ⟨w13.heap.size, 0, none⟩) 6 6) 6 (ints Aw.ks) from
    ⟨by
      have := World.ownsRow_lit (base := w13.heap.size) (e := 3) (size := 1) w13 #[.int .i64 1, .int .i64 2, .int .i64 1, .int .i64 3, .int .i64 1, .int .i64 2] 6 (Nat.le_refl _) (by unfold maxLen; omega) rfl
      exact this, fun g hg => by injection hg with hg; subst hg; exact L13.out.tidy _ (Nat.le_refl _)⟩)
  obtain ⟨w14, hw14⟩ : ∃ w14, w13.alloc (.cells #[.int .i64 1, .int .i64 2, .int .i64 1, .int .i64 3, .int .i64 1, .int .i64 2] 3) = w14 := ⟨_, rfl⟩
  obtain ⟨g14, hg14⟩ : ∃ g14, w13.heap.size = g14 := ⟨_, rfl⟩
  have B14 := Lib.hid (show Below w13.heap.size w13 w14 from hw14 ▸ (Below.refl w13.heap.size w13).alloc (Nat.le_refl _) _)
  rw [hw14, hg14] at LL
  have HW14 := Lib.hid hw14
  have HG14 := Lib.hid hg14
  have L14 := Lib.hid (L13.out.below B14.out)
  have R14 := Lib.hid (R13.out.keep (lo := 16) (hi := 16) (Tch.of_below B14.out) (by omega))
  have O14 := Lib.hid (O13.out.keep (lo := 16) (hi := 16) (Tch.of_below B14.out) (by omega))
  clear hw14 hg14 B14 L13 R13 O13
  go_wp2_with (first | rw [HG14.out, HW14.out] | fail)
  go_loopw [18, 81] (fun _ kk wr => ∃ (k : Nat) (col : Col), k ≤ 6 ∧ kk = .int .i64 k ∧ Liv w wr col w.heap.size 16 p2 (Aw.T q k) ∧ Row wr col w8.heap.size 0 5 1 (.slice (some ⟨g9, 0, none⟩) 256 cap9) (fillB 7).length (bvl (fillB 7)) ∧ WrO wr col w9.heap.size v10 [(5, fillB 7)] ∧ Row wr col g14 0 3 1 (.slice (some ⟨g14, 0, none⟩) 6 6) 6 (ints Aw.ks)) (fun _ kk _ => 6 - (intOf kk).toNat)
  case atStart => exact ⟨0, col13, by omega, rfl, L14.out, R14.out, O14.out, LL.out⟩
  case round =>
    obtain ⟨k, col, hk, rfl, hl, hr, ho, hll⟩ := hrel
    have LK := Lib.hid hl
    have RK := Lib.hid hr
    have OK := Lib.hid ho
    have LLK := Lib.hid hll
    clear hl hr ho hll
    by_cases hlt : k < 6
    · obtain ⟨z, hz⟩ : ∃ z, Aw.ks.getD k 0 = z := ⟨_, rfl⟩
      have hcl : wr.cell? ⟨g14, k, none⟩ = some (.int .i64 z) := by
        rw [LLK.out.own.cellAt k (by omega)]
        rw [ints, List.getElem?_map, List.getElem?_eq_getElem (by exact hlt)]
        rw [← hz, List.getD_eq_getElem?_getD, List.getElem?_eq_getElem (by exact hlt)]
        rfl
      have HR := Lib.hid (sread_all wr col w.heap.size 16 p2 (Aw.T q k) z LK.out.s LK.out.b (FEW.out _ _ ((Aw.t_few q k (by omega)).1) (by omega)))
      have HZ := Lib.hid (show (Aw.T q k).readS z = Aw.T q (k + 1) by rw [← hz]; rfl)
      rw [HZ.out] at HR
      clear hz HZ
      unfold ptr at HR
      generalize (Aw.T q k).readB z = bz at *
      generalize (Aw.T q k).readE z = ez at *
      go_wp2_with fail
      refine HR.out.mono ?_
      rintro e w15 ⟨v15, col15, rfl, ht15, hs15, _⟩
      go_wp2_with fail
      go_roundw
      case rel => exact ⟨k + 1, col15, by omega, by go_num, LK.out.next ht15 hs15, RK.out.keep ht15 (by omega), OK.out.keep ht15 (by omega), LLK.out.keep ht15 (by omega)⟩
      case measure => simp [intOf]; omega
    · obtain rfl : k = 6 := by omega
      obtain ⟨vs, hrow, h1, h2⟩ := OK.out.ex
      obtain ⟨⟨n5, v5⟩, rfl⟩ : ∃ x, vs = [x] := by
        have hl : vs.length = 1 := by simpa using congrArg List.length h1
        match vs, hl with
        | [x], _ => exact ⟨x, rfl⟩
      obtain rfl : n5 = 5 := by simpa using h1
      obtain ⟨g10, cap10, cur, rfl, _⟩ := own_formN hrow.own (by simp)
      have c5 : wr.cell? ⟨g10, 0, none⟩ = some (.int .i64 5) := hrow.own.cells (g := g10) rfl 0 _ rfl
      have HC := Lib.hid (scounts_all wr col w.heap.size 16 p2 (Aw.T q 6) LK.out.s)
      rw [((Aw.t_few q 6 (by omega)).2 rfl).1, ((Aw.t_few q 6 (by omega)).2 rfl).2] at HC
      clear hrow h1 h2
      unfold ptr at HC
      go_wp2_with fail
      refine HC.out.mono ?_
      rintro e w15 ⟨rfl, kd, rfl⟩
      have LD := Lib.hid (LK.out.below (below_drewN (Below.refl _ _) kd))
      have RD := Lib.hid (RK.out.keep (lo := 16) (hi := 16) ((Tch.refl _ _ _ _).drewN kd) (by omega))
      have c6 : (wr.drewN kd).cell? ⟨g10, 0, none⟩ = some (.int .i64 5) := c5
      obtain ⟨wd, hwd⟩ : ∃ wd, wr.drewN kd = wd := ⟨_, rfl⟩
      rw [hwd] at LD RD c6 ⊢
      clear hwd c5 RK LLK LK OK O14 HC
      go_wp2_with fail
      refine (filled_all 7 wd col LD.out.tidy).mono ?_
      rintro e w16 ⟨g16, rfl, hb16, hy16, _, _, _⟩
      have L16 := Lib.hid (LD.out.below hb16)
      have R16 := Lib.hid (RD.out.keep (lo := 16) (hi := 16) (Tch.of_below hb16) (by omega))
      have Y16 := Lib.hid hy16
      have c7 : w16.cell? ⟨g10, 0, none⟩ = some (.int .i64 5) := (hb16.cell (World.block_lt_of_cell? _ _ c6)).trans c6
      clear hb16 hy16
      go_wp2_with fail
      refine (same_any (some ⟨g9, 0, none⟩) (some ⟨g16, 0, none⟩) 256 256 cap9 256 (fillB 7) (fillB 7) w16 (by omega) (BytesAt.of_own R16.out.own) Y16.out).mono ?_
      rintro e w17 ⟨rfl, kf, rfl⟩
      rw [show (fillB 7 == fillB 7) = true by simp]
      have c8 : (w16.drewN kf).cell? ⟨g10, 0, none⟩ = some (.int .i64 5) := c7
      go_wp2_with fail
      go_ret
      exact ⟨rfl, below_drewN L16.out.end kf⟩
end Go.Proofs.Ytomoliickggghaa.Mem

namespace Go.Proofs.Ytomoliickggghaa
open Go.ChangeShapes Go.WideShapes Go.ChangeAt Go.RowKit Go.Joins
set_option maxRecDepth 100000
set_option linter.unusedVariables false
set_option linter.unusedSimpArgs false
section
variable {H : Type} {enc : TypeId × Value → H} {w : World} {base : Nat} {spare : Nat → Bool} {held : Bool}
theorem some_at {α : Type} {xs : List α} {n : Nat} (h : xs.length = n) (i : Nat) (hi : i < n) : ∃ y, xs[i]? = some y := ⟨_, List.getElem?_eq_getElem (by omega)⟩
theorem one_int {n : Nat} {c : Value} {y : DataW H × List MemPlace} (h : DataW.trod enc Try.prog w base spare held n 3 [c] = some y) : ∃ k : Int, c = .int .i64 k ∧ (Lit.int .i64 k).wf = true := by
  obtain ⟨k, hk, _, hw⟩ := DataW.trod_int Try.underlying3 h
  simp at hk
  exact ⟨k, hk, hw⟩
theorem one_bool {n : Nat} {c : Value} {y : DataW H × List MemPlace} (h : DataW.trod enc Try.prog w base spare held n 4 [c] = some y) : ∃ k : Bool, c = .bool k := by
  obtain ⟨k, hk, _⟩ := DataW.trod_bool Try.underlying4 h
  simp at hk
  exact ⟨k, hk⟩
theorem cells_int : Try.prog.cellsOf 3 = 1 := by kernel_rfl
theorem cells_bool : Try.prog.cellsOf 4 = 1 := by kernel_rfl
end
end Go.Proofs.Ytomoliickggghaa
