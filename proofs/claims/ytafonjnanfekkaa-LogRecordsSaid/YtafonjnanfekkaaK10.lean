
/-
  WHAT A FRAME HANDS OVER, more: structs by value.
  WHAT A FRAME HANDS OVER, more: rows of structs.
  THE WALKS of layer 7's law: mine, theirs.
  THE WALK of the document's Same of records, where they are the same.
  RECORDS, plain: there and back; a bit that is turned.
  RECORDS, plain: a byte that is turned breaks a record, its seed being among its bytes.
  WHAT A FRAME HANDS OVER, more: a record of layer 7's.
-/
import Derived.Test.YtafonjnanfekkaaProg
import Derived.Test.YtafonjnanfekkaaK3
import Derived.ProofKit
import Derived.OpenShut
import Derived.Lib.SmallJoins
import Derived.Test.YtafonjnanfekkaaK6
import Derived.Deep.Slices
import Derived.Test.YtafonjnanfekkaaK9
import Derived.Test.YtafonjnanfekkaaK8
import Derived.SizedLaws
namespace Go.Proofs.Ytafonjnanfekkaa
open Go.ChangeShapes Go.WideShapes Go.ChangeAt Go.RowKit Go.Joins
set_option maxRecDepth 100000
set_option linter.unusedVariables false
set_option linter.unusedSimpArgs false
section
variable {H : Type} {enc : TypeId × Value → H} {w : World} {base : Nat} {spare : Nat → Bool} {held : Bool}
theorem some_at {α : Type} {xs : List α} {n : Nat} (h : xs.length = n) (i : Nat) (hi : i < n) : ∃ y, xs[i]? = some y := ⟨_, List.getElem?_eq_getElem (by omega)⟩
theorem one_int {n : Nat} {c : Value} {y : DataW H × List MemPlace} (h : DataW.trod enc Try.prog w base spare held n 3 [c] = some y) : ∃ k : Int, c = .int .i64 k ∧ (Lit.int .i64 k).wf = true := by
  obtain ⟨k, hk, _, hw⟩ := DataW.trod_int Try.underlying3 h
  simp at hk
  exact ⟨k, hk, hw⟩
theorem one_bool {n : Nat} {c : Value} {y : DataW H × List MemPlace} (h : DataW.trod enc Try.prog w base spare held n 4 [c] = some y) : ∃ k : Bool, c = .bool k := by
  obtain ⟨k, hk, _⟩ := DataW.trod_bool Try.underlying4 h
  simp at hk
  exact ⟨k, hk⟩
theorem cells_super : Try.prog.cellsOf 39 = 9 := by kernel_rfl
theorem cells_geo : Try.prog.cellsOf 37 = 4 := by kernel_rfl
theorem cells_int : Try.prog.cellsOf 3 = 1 := by kernel_rfl
theorem cells_bool : Try.prog.cellsOf 4 = 1 := by kernel_rfl
theorem open_super {r : Reach} {b0 : Nat} {v : Value} {d : DataW H} {p : List MemPlace} (hv : Value.okWide Try.prog w r b0 39 v) (h : DataW.Trod enc Try.prog w base spare held 39 v d p) :
    ∃ (B P I J fb fi o m : Int) (cl : Bool), v = .agg #[.int .i64 B, .int .i64 P, .int .i64 I, .int .i64 J, .int .i64 fb, .int .i64 fi, .int .i64 o, .int .i64 m, .bool cl] := by
  obtain ⟨cs, rfl, hsz⟩ := okWide_struct Try.underlying39 hv
  rw [cells_super] at hsz
  obtain ⟨l⟩ := cs
  match l, hsz with
  | [c0, c1, c2, c3, c4, c5, c6, c7, c8], _ =>
    obtain ⟨fuel, hf⟩ := h
    obtain ⟨xs, n, _, hx, _, hlen, hg⟩ := DataW.trod_struct Try.underlying39 hf
    have hl : xs.length = 6 := hlen
    obtain ⟨y0, e0⟩ := some_at hl 0 (by omega)
    obtain ⟨y1, e1⟩ := some_at hl 1 (by omega)
    obtain ⟨y2, e2⟩ := some_at hl 2 (by omega)
    obtain ⟨y3, e3⟩ := some_at hl 3 (by omega)
    obtain ⟨y4, e4⟩ := some_at hl 4 (by omega)
    obtain ⟨y5, e5⟩ := some_at hl 5 (by omega)
    have g0 := hg 0 _ rfl
    have g1 := hg 1 _ rfl
    have g2 := hg 2 _ rfl
    have g3 := hg 3 _ rfl
    have g4 := hg 4 _ rfl
    have g5 := hg 5 _ rfl
    simp only [cells_geo, cells_int, cells_bool, e0, e1, e2, e3, e4, e5, Value.cells, List.drop_succ_cons, List.drop_zero, List.take_succ_cons, List.take_zero] at g0 g1 g2 g3 g4 g5
    obtain ⟨ys, n', _, hy, _, hlen', hg'⟩ := DataW.trod_struct Try.underlying37 g0
    have hl' : ys.length = 4 := hlen'
    obtain ⟨z0, f0⟩ := some_at hl' 0 (by omega)
    obtain ⟨z1, f1⟩ := some_at hl' 1 (by omega)
    obtain ⟨z2, f2⟩ := some_at hl' 2 (by omega)
    obtain ⟨z3, f3⟩ := some_at hl' 3 (by omega)
    have k0 := hg' 0 _ rfl
    have k1 := hg' 1 _ rfl
    have k2 := hg' 2 _ rfl
    have k3 := hg' 3 _ rfl
    simp only [cells_int, f0, f1, f2, f3, List.drop_succ_cons, List.drop_zero, List.take_succ_cons, List.take_zero] at k0 k1 k2 k3
    obtain ⟨B, rfl, _⟩ := one_int k0
    obtain ⟨P, rfl, _⟩ := one_int k1
    obtain ⟨I, rfl, _⟩ := one_int k2
    obtain ⟨J, rfl, _⟩ := one_int k3
    obtain ⟨fb, rfl, _⟩ := one_int g1
    obtain ⟨fi, rfl, _⟩ := one_int g2
    obtain ⟨o, rfl, _⟩ := one_int g3
    obtain ⟨m, rfl, _⟩ := one_int g4
    obtain ⟨cl, rfl⟩ := one_bool g5
    exact ⟨B, P, I, J, fb, fi, o, m, cl, rfl⟩
end
end Go.Proofs.Ytafonjnanfekkaa

namespace Go.Proofs.Ytafonjnanfekkaa
open Go.ChangeShapes Go.WideShapes Go.ChangeAt Go.RowKit Go.Joins
set_option maxRecDepth 100000
set_option linter.unusedVariables false
set_option linter.unusedSimpArgs false
/-- A list out of what there is at each place. -/
theorem list_of {α : Type} {R : Nat → α → Prop} : ∀ (n : Nat), (∀ i, i < n → ∃ g, R i g) → ∃ gs : List α, gs.length = n ∧ ∀ i g, gs[i]? = some g → R i g
  | 0, _ => ⟨[], rfl, fun i g h => by simp at h⟩
  | n + 1, h => by
    obtain ⟨gs, hl, hg⟩ := list_of n (fun i hi => h i (by omega))
    obtain ⟨g, hr⟩ := h n (by omega)
    refine ⟨gs ++ [g], by simp [hl], fun i x hx => ?_⟩
    by_cases hi : i < n
    · rw [List.getElem?_append_left (by omega)] at hx
      exact hg i x hx
    · rw [List.getElem?_append_right (by omega)] at hx
      have hin : i - gs.length = 0 := by
        have := (List.getElem?_eq_some_iff.1 hx).1
        simp at this; omega
      have : i = n := by omega
      subst this
      rw [hin] at hx
      simp at hx
      subst hx
      exact hr
section
variable {H : Type} {enc : TypeId × Value → H} {w : World} {base : Nat} {spare : Nat → Bool} {held : Bool}
theorem cells_group : Try.prog.cellsOf 108 = 3 := by kernel_rfl
theorem group_ints {n : Nat} {cs : List Value} {y : DataW H × List MemPlace} (h : DataW.trod enc Try.prog w base spare held n 108 cs = some y) : ∃ x y z : Int, cs = [.int .i64 x, .int .i64 y, .int .i64 z] := by
  obtain ⟨xs, n', _, hx, hlc, hlen, hg⟩ := DataW.trod_struct Try.underlying108 h
  rw [cells_group] at hlc
  match cs, hlc with
  | [c0, c1, c2], _ =>
    have hl : xs.length = 3 := hlen
    obtain ⟨z0, f0⟩ := some_at hl 0 (by omega)
    obtain ⟨z1, f1⟩ := some_at hl 1 (by omega)
    obtain ⟨z2, f2⟩ := some_at hl 2 (by omega)
    have k0 := hg 0 _ rfl
    have k1 := hg 1 _ rfl
    have k2 := hg 2 _ rfl
    simp only [cells_int, f0, f1, f2, List.drop_succ_cons, List.drop_zero, List.take_succ_cons, List.take_zero] at k0 k1 k2
    obtain ⟨x, rfl, _⟩ := one_int k0
    obtain ⟨y, rfl, _⟩ := one_int k1
    obtain ⟨z, rfl, _⟩ := one_int k2
    exact ⟨x, y, z, rfl⟩
theorem open_groups {r : Reach} {b0 : Nat} {v : Value} {d : DataW H} {p : List MemPlace} (hv : Value.okWide Try.prog w r b0 45 v) (h : DataW.Trod enc Try.prog w base spare held 45 v d p) :
    ∃ (A : Option Addr) (len cap : Nat) (gs : List Lay.Grp), v = .slice A len cap ∧ RowAt w A (len * 3) (Lay.gcells gs) ∧ len ≤ cap ∧ cap ≤ maxLen := by
  obtain ⟨a, len, cap, rfl⟩ := okWide_slice Try.underlying45 hv
  obtain ⟨fuel, hf⟩ := h
  rcases Go.Deep.open_slice Try.underlying45 hf with ⟨hcs, _⟩ | ⟨a', len', cap', m, n, D, Pl, hcs, _, hl, hm, hmm, _, hi⟩
  · simp [Value.cells] at hcs
    obtain ⟨rfl, rfl, rfl⟩ := hcs
    exact ⟨none, 0, 0, [], rfl, RowAt.nil_ _ _, Nat.le_refl _, by unfold maxLen; omega⟩
  · simp [Value.cells] at hcs
    obtain ⟨rfl, rfl, rfl⟩ := hcs
    have hml : len ≤ m := by rw [hmm]; split <;> omega
    obtain ⟨gs, hgl, hg⟩ := list_of (R := fun i (g : Lay.Grp) => w.cell? (a'.add (i * 3)) = some (.int .i64 g.1) ∧ w.cell? (a'.add (i * 3 + 1)) = some (.int .i64 g.2.1) ∧ w.cell? (a'.add (i * 3 + 2)) = some (.int .i64 g.2.2)) len (fun i hil => by
      obtain ⟨cs', hc, ht⟩ := hi i (by omega)
      rw [cells_group] at hc
      obtain ⟨x, y, z, rfl⟩ := group_ints ht
      obtain ⟨_, _, hat⟩ := World.cells?_some hc
      have e0 := hat 0 (by omega)
      have e1 := hat 1 (by omega)
      have e2 := hat 2 (by omega)
      rw [add_of_add] at e0 e1 e2
      exact ⟨(x, y, z), e0, e1, e2⟩)
    refine ⟨some a', len, cap, gs, rfl, ⟨by rw [Lay.gcells_length, hgl], fun hn => ⟨a', rfl, fun j u hu => ?_⟩⟩, hl, hm⟩
    have hj : j < gs.length * 3 := by
      have := (List.getElem?_eq_some_iff.1 hu).1
      rwa [Lay.gcells_length] at this
    obtain ⟨g, hgk⟩ : ∃ g, gs[j / 3]? = some g := ⟨_, List.getElem?_eq_getElem (by omega)⟩
    obtain ⟨c0, c1, c2⟩ := Lay.gcells_at hgk
    obtain ⟨e0, e1, e2⟩ := hg _ _ hgk
    have hcase : j = j / 3 * 3 ∨ j = j / 3 * 3 + 1 ∨ j = j / 3 * 3 + 2 := by omega
    rcases hcase with h | h | h <;> rw [h] at hu ⊢
    · rw [c0] at hu; rw [e0]; exact hu
    · rw [c1] at hu; rw [e1]; exact hu
    · rw [c2] at hu; rw [e2]; exact hu
end
end Go.Proofs.Ytafonjnanfekkaa

namespace Go.Proofs.Ytafonjnanfekkaa.Log
open Go.RowKit Go.Proofs.Ytafonjnanfekkaa.Wire Go.Proofs.Ytafonjnanfekkaa.Lay
set_option maxHeartbeats 8000000
set_option maxRecDepth 100000
set_option linter.unusedVariables false
set_option linter.unusedSimpArgs false

theorem infoEntR : (Try.prog.info? 116).map (fun i => (i.zero, i.size, i.bytes)) = some (some (.agg #[.int .i64 0, .bool false]), 2, 16) := by kernel_rfl
theorem rec_end {w wz : World} {g b n : Nat} {v : Value} {xs : List Value} {T E : TypeId} {cs : Array Value} (hg : w.heap.size ≤ g) (res : Blk wz g T cs) (bel : Below w.heap.size w wz) (own : wz.ownsRow b E 2 v n xs) (ht : E ≠ T) (c0 c1 c2 c3 c4 : Value) :
    Below w.heap.size w (((((wz.setCell ⟨g, 0, none⟩ c0).setCell ⟨g, 1, none⟩ c1).setCell ⟨g, 2, none⟩ c2).setCell ⟨g, 3, none⟩ c3).setCell ⟨g, 4, none⟩ c4) ∧
    (((((wz.setCell ⟨g, 0, none⟩ c0).setCell ⟨g, 1, none⟩ c1).setCell ⟨g, 2, none⟩ c2).setCell ⟨g, 3, none⟩ c3).setCell ⟨g, 4, none⟩ c4).ownsRow b E 2 v n xs := by
  have r1 := res.set_ 0 c0
  have r2 := r1.set_ 1 c1
  have r3 := r2.set_ 2 c2
  have r4 := r3.set_ 3 c3
  refine ⟨((((bel.setCell (p := ⟨g, 0, none⟩) hg c0).setCell (p := ⟨g, 1, none⟩) hg c1).setCell (p := ⟨g, 2, none⟩) hg c2).setCell (p := ⟨g, 3, none⟩) hg c3).setCell (p := ⟨g, 4, none⟩) hg c4, ?_⟩
  exact own_set_far (own_set_far (own_set_far (own_set_far (own_set_far own res ht c0) r1 ht c1) r2 ht c2) r3 ht c3) r4 ht c4
/-- The record that came in, the result's place, the record that grows. -/
structure MAt (w : World) (TI TO : TypeId) (ri ro : Array Value) (wr : World) : Prop where
  inn : Blk wr w.heap.size TI ri
  res : Blk wr (w.heap.size + 1) TO #[.int .i64 0, .int .i64 0, .slice none 0 0, .int .u32 0, .int .i64 0]
  out : Blk wr (w.heap.size + 2) TO ro
  bel : Below w.heap.size w wr
theorem MAt.alloc {w wr : World} {TI TO : TypeId} {ri ro : Array Value} (h : MAt w TI TO ri ro wr) (o : Obj) : MAt w TI TO ri ro (wr.alloc o) :=
  ⟨h.inn.alloc o, h.res.alloc o, h.out.alloc o, h.bel.alloc h.bel.size o⟩
theorem MAt.drew {w wr : World} {TI TO : TypeId} {ri ro : Array Value} (h : MAt w TI TO ri ro wr) : MAt w TI TO ri ro wr.drew :=
  ⟨h.inn.drew, h.res.drew, h.out.drew, h.bel.drew⟩
theorem MAt.row {w wr w' : World} {TI TO E : TypeId} {base s n : Nat} {ri ro : Array Value} {v : Value} {xs : List Value} (h : MAt w TI TO ri ro wr) (hr : wr.ownsRow base E s v n xs) (h1 : E ≠ TI) (h2 : E ≠ TO) (hbase : w.heap.size ≤ base) (hg : wr.grownBy w' v.ownBlock) : MAt w TI TO ri ro w' :=
  ⟨h.inn.grown hg (own_blk_ne hr h.inn h1), h.res.grown hg (own_blk_ne hr h.res h2), h.out.grown hg (own_blk_ne hr h.out h2), below_row h.bel hg (fun g e => Nat.le_trans hbase (hr.lt g e).1) h.bel.size⟩
theorem MAt.set_ {w wr : World} {TI TO : TypeId} {ri ro : Array Value} (h : MAt w TI TO ri ro wr) (i : Nat) (u : Value) : MAt w TI TO ri (ro.setIfInBounds i u) (wr.setCell ⟨w.heap.size + 2, i, none⟩ u) :=
  ⟨h.inn.far (p := ⟨w.heap.size + 2, i, none⟩) (by simp) u, h.res.far (p := ⟨w.heap.size + 2, i, none⟩) (by simp) u, h.out.set_ i u, h.bel.setCell (p := ⟨w.heap.size + 2, i, none⟩) (by simp only; omega) u⟩
theorem MAt.start {w W : World} {TI TO : TypeId} {ri ro : Array Value} (h : ((w.alloc (.cells ri TI)).alloc (.cells #[.int .i64 0, .int .i64 0, .slice none 0 0, .int .u32 0, .int .i64 0] TO)).alloc (.cells ro TO) = W) : MAt w TI TO ri ro W := by
  subst h
  obtain ⟨b0, b1, hbel, hsz⟩ := boxes2 w _ _ _ _ _ rfl
  exact ⟨b0.alloc _, b1.alloc _, by rw [show w.heap.size + 2 = _ from hsz.symm]; exact Blk.new _ _ _, hbel.alloc (by omega) _⟩


theorem mine_any (k s : Int) (A : Option Addr) (n c sum : Nat) (st : Int) (es : List Ent) (w : World) (hn : n ≤ 8796093021952) (hr : RowAt w A (n * 2) (ecells es)) :
    Calls Try.prog 34 #[.agg #[.int .i64 k, .int .i64 s, .slice A n c, .int .u32 (sum : Int), .int .i64 st]] w fun e w' => ∃ v, e = .returned (.agg #[.int .i64 k, .int .i64 s, v, .int .u32 (sum : Int), .int .i64 st]) ∧ Below w.heap.size w w' ∧ w'.ownsRow w.heap.size 111 2 v n (ecells es) := by
  have hlen : es.length = n := by have := hr.len; rw [ecells_length] at this; omega
  obtain ⟨W, hW⟩ : ∃ W, ((w.alloc (.cells #[.int .i64 k, .int .i64 s, .slice A n c, .int .u32 (sum : Int), .int .i64 st] 53)).alloc (.cells #[.int .i64 0, .int .i64 0, .slice none 0 0, .int .u32 0, .int .i64 0] 57)).alloc (.cells #[.int .i64 k, .int .i64 s, .slice none 0 0, .int .u32 (sum : Int), .int .i64 st] 57) = W := ⟨_, rfl⟩
  have HS := Lib.hid (MAt.start hW)
  have HW := Lib.hid hW
  have HR := Lib.hid hr
  have HLEN := Lib.hid hlen
  clear hW hr hlen
  go_enter Try.func34, Try.ntmps34
  go_wp2_with fail
  rw [HW.out]
  go_loopw [4] (fun i wr => ∃ (j : Nat) (v : Value), j ≤ n ∧ i = .int .i64 j ∧ MAt w 53 57 #[.int .i64 k, .int .i64 s, .slice A n c, .int .u32 (sum : Int), .int .i64 st] #[.int .i64 k, .int .i64 s, v, .int .u32 (sum : Int), .int .i64 st] wr ∧ wr.ownsRow w.heap.size 111 2 v j (ecells (es.take j))) (fun i _ => n - (intOf i).toNat)
  case atStart => exact ⟨0, _, by omega, rfl, HS.out, World.ownsRow_nil _ _ _ _⟩
  case round =>
    obtain ⟨j, v, hj, rfl, hm, ho⟩ := hrel
    have X1 := Lib.hid hm
    have X2 := Lib.hid ho
    have i2 := hm.inn.cell 2
    clear hm ho
    by_cases hlt : j < n
    · obtain ⟨e, he⟩ : ∃ e, es[j]? = some e := ⟨_, List.getElem?_eq_getElem (by have := HLEN.out; omega)⟩
      obtain ⟨a, rfl, hab, hpb, hea⟩ := ent_cells HR.out he
      have htk : es.take (j + 1) = es.take j ++ [e] := by rw [List.take_add_one, he]; rfl
      obtain ⟨b, x⟩ := e
      have HTK := Lib.hid htk
      have hsk : ∀ (W' : World) , MAt w 53 57 #[.int .i64 k, .int .i64 s, .slice (some a) n c, .int .u32 (sum : Int), .int .i64 st] #[.int .i64 k, .int .i64 s, v, .int .u32 (sum : Int), .int .i64 st] W' → (fun w' => w'.cell? ⟨w.heap.size, 2, none⟩ = some (.slice (some a) n c) ∧ w'.cell? ⟨w.heap.size + 2, 2, none⟩ = some v ∧ w'.cell? (a.add (j * 2)) = some (.int .i64 b) ∧ w'.cell? ⟨(a.add (j * 2)).block, (a.add (j * 2)).off + 1, none⟩ = some (.bool x)) W' := fun W' h => ⟨h.inn.cell 2, h.out.cell 2, (hea.below h.bel hpb).1, (hea.below h.bel hpb).2⟩
      have SK := Lib.hid hsk
      obtain ⟨v0, hv0⟩ : ∃ v0, wr.drew = v0 := ⟨_, rfl⟩
      have K0 := Lib.hid (show MAt w 53 57 #[.int .i64 k, .int .i64 s, .slice (some a) n c, .int .u32 (sum : Int), .int .i64 st] #[.int .i64 k, .int .i64 s, v, .int .u32 (sum : Int), .int .i64 st] v0 from hv0 ▸ X1.out.drew)
      have O0 := Lib.hid (show v0.ownsRow w.heap.size 111 2 v j (ecells (es.take j)) from hv0 ▸ X2.out)
      have HV0 := Lib.hid hv0
      clear hv0 X1 X2 hea he htk hsk
      go_wp2_with fail
      have hNS := SK.out v0 K0.out
      have hj0 : (0 : Int) ≤ (j : Int) := by omega
      have hjn : (j : Int) < (n : Int) := by omega
      refine region_need_at (v := v0) (fun w' => w'.cell? ⟨w.heap.size, 2, none⟩ = some (.slice (some a) n c) ∧ w'.cell? ⟨w.heap.size + 2, 2, none⟩ = some v ∧ w'.cell? (a.add (j * 2)) = some (.int .i64 b) ∧ w'.cell? ⟨(a.add (j * 2)).block, (a.add (j * 2)).off + 1, none⟩ = some (.bool x)) (fun i => i == 1 || (i == 3 || (i == 5 || (i == 6 || (i == 7 || (i == 9 || (i == 11 || (i == 12 || (i == 13 || (i == 14 || i == 15)))))))))) HV0.out (by kernel_rfl) ?_
      clear i2
      refine nw_free (i := 0) (v := ?_) rfl (by kernel_rfl) (fun _ _ d _ _ h => by cases d <;> exact h) (by kernel_rfl) ?_ (fun K hK => ?_); rotate_left; (· (intro w'; go_simp; with_reducible rfl)); simp only [Act.put, List.setIfInBounds_toArray, List.set_cons_zero, List.set_cons_succ]; refine hK _ ?_; clear hK K
      refine nw_free (i := 2) (v := ?_) rfl (by kernel_rfl) (fun _ _ d _ _ h => by cases d <;> exact h) (by kernel_rfl) ?_ (fun K hK => ?_); rotate_left; (· (intro w'; go_simp; with_reducible rfl)); simp only [Act.put, List.setIfInBounds_toArray, List.set_cons_zero, List.set_cons_succ]; refine hK _ ?_; clear hK K
      refine nw_free (i := 4) (v := ?_) rfl (by kernel_rfl) (fun _ _ d _ _ h => by cases d <;> exact h) (by kernel_rfl) ?_ (fun K hK => ?_); rotate_left; (· (intro w'; go_simp; with_reducible rfl)); simp only [Act.put, List.setIfInBounds_toArray, List.set_cons_zero, List.set_cons_succ]; refine hK _ ?_; clear hK K
      refine nw_free (i := 8) (v := ?_) rfl (by kernel_rfl) (fun _ _ d _ _ h => by cases d <;> exact h) (by kernel_rfl) ?_ (fun K hK => ?_); rotate_left; (· (intro w'; go_simp; with_reducible rfl)); simp only [Act.put, List.setIfInBounds_toArray, List.set_cons_zero, List.set_cons_succ]; refine hK _ ?_; clear hK K
      refine nw_free (i := 10) (v := ?_) rfl (by kernel_rfl) (fun _ _ d _ _ h => by cases d <;> exact h) (by kernel_rfl) ?_ (fun K hK => ?_); rotate_left; (· (intro w'; go_simp; with_reducible rfl)); simp only [Act.put, List.setIfInBounds_toArray, List.set_cons_zero, List.set_cons_succ]; refine hK _ ?_; clear hK K
      refine nw_take (i := 1) (v := ?_) rfl (by kernel_rfl) (by kernel_rfl) (fun _ _ d _ _ h => by cases d <;> exact h) (by exact hNS) (by kernel_rfl) ?_ (fun K hK => ?_); rotate_left; (· (intro w' hSw; (try dsimp only at hSw); go_simp; with_reducible rfl)); simp only [Act.put, List.setIfInBounds_toArray, List.set_cons_zero, List.set_cons_succ]; refine hK _ ?_; clear hK K
      refine nw_take (i := 3) (v := ?_) rfl (by kernel_rfl) (by kernel_rfl) (fun _ _ d _ _ h => by cases d <;> exact h) (by exact hNS) (by kernel_rfl) ?_ (fun K hK => ?_); rotate_left; (· (intro w' hSw; (try dsimp only at hSw); go_simp; with_reducible rfl)); simp only [Act.put, List.setIfInBounds_toArray, List.set_cons_zero, List.set_cons_succ]; refine hK _ ?_; clear hK K
      refine nw_take (i := 9) (v := ?_) rfl (by kernel_rfl) (by kernel_rfl) (fun _ _ d _ _ h => by cases d <;> exact h) (by exact hNS) (by kernel_rfl) ?_ (fun K hK => ?_); rotate_left; (· (intro w' hSw; (try dsimp only at hSw); go_simp; with_reducible rfl)); simp only [Act.put, List.setIfInBounds_toArray, List.set_cons_zero, List.set_cons_succ]; refine hK _ ?_; clear hK K
      refine nw_take (i := 5) (v := ?_) rfl (by kernel_rfl) (by kernel_rfl) (fun _ _ d _ _ h => by cases d <;> exact h) (by exact hNS) (by kernel_rfl) ?_ (fun K hK => ?_); rotate_left; (· (intro w' hSw; (try dsimp only at hSw); go_simp; with_reducible rfl)); simp only [Act.put, List.setIfInBounds_toArray, List.set_cons_zero, List.set_cons_succ]; refine hK _ ?_; clear hK K
      refine nw_take (i := 11) (v := ?_) rfl (by kernel_rfl) (by kernel_rfl) (fun _ _ d _ _ h => by cases d <;> exact h) (by exact hNS) (by kernel_rfl) ?_ (fun K hK => ?_); rotate_left; (· (intro w' hSw; (try dsimp only at hSw); go_simp; with_reducible rfl)); simp only [Act.put, List.setIfInBounds_toArray, List.set_cons_zero, List.set_cons_succ]; refine hK _ ?_; clear hK K
      refine nw_take (i := 6) (v := ?_) rfl (by kernel_rfl) (by kernel_rfl) (fun _ _ d _ _ h => by cases d <;> exact h) (by exact hNS) (by kernel_rfl) ?_ (fun K hK => ?_); rotate_left; (· (intro w' hSw; (try dsimp only at hSw); go_simp; with_reducible rfl)); simp only [Act.put, List.setIfInBounds_toArray, List.set_cons_zero, List.set_cons_succ]; refine hK _ ?_; clear hK K
      refine nw_take (i := 12) (v := ?_) rfl (by kernel_rfl) (by kernel_rfl) (fun _ _ d _ _ h => by cases d <;> exact h) (by exact hNS) (by kernel_rfl) ?_ (fun K hK => ?_); rotate_left; (· (intro w' hSw; (try dsimp only at hSw); go_simp; with_reducible rfl)); simp only [Act.put, List.setIfInBounds_toArray, List.set_cons_zero, List.set_cons_succ]; refine hK _ ?_; clear hK K
      refine nw_take (i := 7) (v := ?_) rfl (by kernel_rfl) (by kernel_rfl) (fun _ _ d _ _ h => by cases d <;> exact h) (by exact hNS) (by kernel_rfl) ?_ (fun K hK => ?_); rotate_left; (· (intro w' hSw; (try dsimp only at hSw); go_simp; with_reducible rfl)); simp only [Act.put, List.setIfInBounds_toArray, List.set_cons_zero, List.set_cons_succ]; refine hK _ ?_; clear hK K
      refine nw_take (i := 13) (v := ?_) rfl (by kernel_rfl) (by kernel_rfl) (fun _ _ d _ _ h => by cases d <;> exact h) (by exact hNS) (by kernel_rfl) ?_ (fun K hK => ?_); rotate_left; (· (intro w' hSw; (try dsimp only at hSw); go_simp; with_reducible rfl)); simp only [Act.put, List.setIfInBounds_toArray, List.set_cons_zero, List.set_cons_succ]; refine hK _ ?_; clear hK K
      refine nw_take (i := 14) (v := ?_) rfl (by kernel_rfl) (by kernel_rfl) (fun _ _ d _ _ h => by cases d <;> exact h) (by exact hNS) (by kernel_rfl) ?_ (fun K hK => ?_); rotate_left; (· (intro w' hSw; (try dsimp only at hSw); go_simp; with_reducible rfl)); simp only [Act.put, List.setIfInBounds_toArray, List.set_cons_zero, List.set_cons_succ]; refine hK _ ?_; clear hK K
      clear hNS
      refine nw_one (i := 15) (E := False) rfl (by kernel_rfl) (fun K hK => ?_) (by kernel_rfl)
      go_simp
      have L1 := Lib.hid (lit_rowN v0 111 (ecells [(b, x)]) 2 v0.heap.size rfl rfl)
      have O1 := Lib.hid (O0.out.alloc (.cells (ecells [(b, x)]).toArray 111))
      have K1 := Lib.hid (K0.out.alloc (.cells (ecells [(b, x)]).toArray 111))
      refine hK.out _ _ (fun _ => SK.out _ K1.out) ?_
      clear hK K
      try simp only [Act.put, List.setIfInBounds_toArray, List.set_cons_zero, List.set_cons_succ]
      refine nw_one (i := 16) (E := False) rfl (by kernel_rfl) (fun K hK => ?_) (by kernel_rfl)
      refine step_app_gen _ 55 111 (.agg #[.int .i64 0, .bool false]) 2 16 Try.underlying55 infoEnt rfl (by decide) rfl (.tmp 22) (.tmp 36) rfl w.heap.size v j (ecells (es.take j)) rfl O1.out ⟨v0.heap.size, 0, none⟩ 1 1 (ecells [(b, x)]) rfl L1.out (one_ecells _) (by unfold maxLen; omega) (by omega) K1.out.bel.size ?_
      intro y v2 hown hg
      obtain ⟨g2, c2, cs2, rfl, _, _, _, _, _⟩ := own_formN hown (by omega)
      have K2 := Lib.hid (K1.out.row O1.out (by decide) (by decide) (Nat.le_refl _) hg)
      have O2 := Lib.hid hown
      clear hown hg
      refine hK.out _ _ ((fun h => absurd h (by decide))) ?_
      clear hK K
      try simp only [Act.put, List.setIfInBounds_toArray, List.set_cons_zero, List.set_cons_succ]
      have c2' := K2.out.out.cell 2
      have z2' := K2.out.out.frozen 2
      refine nw_one (i := 17) (E := False) rfl (by kernel_rfl) (fun K hK => ?_) (by kernel_rfl)
      go_simp
      refine hK.out _ _ ((fun h => absurd h (by decide))) ?_
      clear hK K
      try simp only [Act.put, List.setIfInBounds_toArray, List.set_cons_zero, List.set_cons_succ]
      refine nw_one (i := 18) (E := False) rfl (by kernel_rfl) (fun K hK => ?_) (by kernel_rfl)
      go_simp
      refine hK.out _ _ ((fun h => absurd h (by decide))) ?_
      clear hK K
      try simp only [Act.put, List.setIfInBounds_toArray, List.set_cons_zero, List.set_cons_succ]
      refine nw_end (by kernel_rfl) ?_
      clear c2' z2'
      go_wp2
      go_roundw
      case rel => exact ⟨j + 1, _, by omega, by go_num, K2.out.set_ 2 _, by
        rw [HTK.out, ecells_snoc]
        exact own_set_far O2.out K2.out.out (by decide) _⟩
      case measure => simp [intOf]; omega
    · obtain rfl : j = n := by omega
      have ht : es.take j = es := List.take_of_length_le (by rw [HLEN.out]; exact Nat.le_refl _)
      have ho := X2.out
      rw [ht] at ho
      obtain ⟨Av, cv, rfl, _, _, _, _, _⟩ := own_sliceN ho
      have O3 := Lib.hid ho
      have f0 := X1.out.out.cell 0
      have f1 := X1.out.out.cell 1
      have f2 := X1.out.out.cell 2
      have f3 := X1.out.out.cell 3
      have f4 := X1.out.out.cell 4
      have q0 := X1.out.res.cell 0
      have q1 := X1.out.res.cell 1
      have q2 := X1.out.res.cell 2
      have q3 := X1.out.res.cell 3
      have q4 := X1.out.res.cell 4
      have z0 := X1.out.res.frozen 0
      have z1 := X1.out.res.frozen 1
      have z2 := X1.out.res.frozen 2
      have z3 := X1.out.res.frozen 3
      have z4 := X1.out.res.frozen 4
      clear ht ho X2
      go_wp2_with fail
      refine bodyPost_ret (v := .agg #[.int .i64 k, .int .i64 s, .slice Av j cv, .int .u32 (sum : Int), .int .i64 st]) (by simp [results, Try.results34, go_sem, q0, q1, q2, q3, q4, z0, z1, z2, z3, z4]) rfl ⟨.slice Av j cv, rfl, ?_⟩
      exact rec_end (by omega) X1.out.res X1.out.bel O3.out (by decide) _ _ _ _ _


theorem theirs_any (k s : Int) (A : Option Addr) (n c sum : Nat) (st : Int) (es : List Ent) (w : World) (hn : n ≤ 8796093021952) (hr : RowAt w A (n * 2) (ecells es)) :
    Calls Try.prog 39 #[.agg #[.int .i64 k, .int .i64 s, .slice A n c, .int .u32 (sum : Int), .int .i64 st]] w fun e w' => ∃ v, e = .returned (.agg #[.int .i64 k, .int .i64 s, v, .int .u32 (sum : Int), .int .i64 st]) ∧ Below w.heap.size w w' ∧ w'.ownsRow w.heap.size 116 2 v n (ecells es) := by
  have hlen : es.length = n := by have := hr.len; rw [ecells_length] at this; omega
  obtain ⟨W, hW⟩ : ∃ W, ((w.alloc (.cells #[.int .i64 k, .int .i64 s, .slice A n c, .int .u32 (sum : Int), .int .i64 st] 57)).alloc (.cells #[.int .i64 0, .int .i64 0, .slice none 0 0, .int .u32 0, .int .i64 0] 53)).alloc (.cells #[.int .i64 k, .int .i64 s, .slice none 0 0, .int .u32 (sum : Int), .int .i64 st] 53) = W := ⟨_, rfl⟩
  have HS := Lib.hid (MAt.start hW)
  have HW := Lib.hid hW
  have HR := Lib.hid hr
  have HLEN := Lib.hid hlen
  clear hW hr hlen
  go_enter Try.func39, Try.ntmps39
  go_wp2_with fail
  rw [HW.out]
  go_loopw [4] (fun i wr => ∃ (j : Nat) (v : Value), j ≤ n ∧ i = .int .i64 j ∧ MAt w 57 53 #[.int .i64 k, .int .i64 s, .slice A n c, .int .u32 (sum : Int), .int .i64 st] #[.int .i64 k, .int .i64 s, v, .int .u32 (sum : Int), .int .i64 st] wr ∧ wr.ownsRow w.heap.size 116 2 v j (ecells (es.take j))) (fun i _ => n - (intOf i).toNat)
  case atStart => exact ⟨0, _, by omega, rfl, HS.out, World.ownsRow_nil _ _ _ _⟩
  case round =>
    obtain ⟨j, v, hj, rfl, hm, ho⟩ := hrel
    have X1 := Lib.hid hm
    have X2 := Lib.hid ho
    have i2 := hm.inn.cell 2
    clear hm ho
    by_cases hlt : j < n
    · obtain ⟨e, he⟩ : ∃ e, es[j]? = some e := ⟨_, List.getElem?_eq_getElem (by have := HLEN.out; omega)⟩
      obtain ⟨a, rfl, hab, hpb, hea⟩ := ent_cells HR.out he
      have htk : es.take (j + 1) = es.take j ++ [e] := by rw [List.take_add_one, he]; rfl
      obtain ⟨b, x⟩ := e
      have HTK := Lib.hid htk
      have hsk : ∀ (W' : World) , MAt w 57 53 #[.int .i64 k, .int .i64 s, .slice (some a) n c, .int .u32 (sum : Int), .int .i64 st] #[.int .i64 k, .int .i64 s, v, .int .u32 (sum : Int), .int .i64 st] W' → (fun w' => w'.cell? ⟨w.heap.size, 2, none⟩ = some (.slice (some a) n c) ∧ w'.cell? ⟨w.heap.size + 2, 2, none⟩ = some v ∧ w'.cell? (a.add (j * 2)) = some (.int .i64 b) ∧ w'.cell? ⟨(a.add (j * 2)).block, (a.add (j * 2)).off + 1, none⟩ = some (.bool x)) W' := fun W' h => ⟨h.inn.cell 2, h.out.cell 2, (hea.below h.bel hpb).1, (hea.below h.bel hpb).2⟩
      have SK := Lib.hid hsk
      obtain ⟨v0, hv0⟩ : ∃ v0, wr.drew = v0 := ⟨_, rfl⟩
      have K0 := Lib.hid (show MAt w 57 53 #[.int .i64 k, .int .i64 s, .slice (some a) n c, .int .u32 (sum : Int), .int .i64 st] #[.int .i64 k, .int .i64 s, v, .int .u32 (sum : Int), .int .i64 st] v0 from hv0 ▸ X1.out.drew)
      have O0 := Lib.hid (show v0.ownsRow w.heap.size 116 2 v j (ecells (es.take j)) from hv0 ▸ X2.out)
      have HV0 := Lib.hid hv0
      clear hv0 X1 X2 hea he htk hsk
      go_wp2_with fail
      have hNS := SK.out v0 K0.out
      have hj0 : (0 : Int) ≤ (j : Int) := by omega
      have hjn : (j : Int) < (n : Int) := by omega
      refine region_need_at (v := v0) (fun w' => w'.cell? ⟨w.heap.size, 2, none⟩ = some (.slice (some a) n c) ∧ w'.cell? ⟨w.heap.size + 2, 2, none⟩ = some v ∧ w'.cell? (a.add (j * 2)) = some (.int .i64 b) ∧ w'.cell? ⟨(a.add (j * 2)).block, (a.add (j * 2)).off + 1, none⟩ = some (.bool x)) (fun i => i == 1 || (i == 3 || (i == 5 || (i == 6 || (i == 7 || (i == 9 || (i == 11 || (i == 12 || (i == 13 || (i == 14 || i == 15)))))))))) HV0.out (by kernel_rfl) ?_
      clear i2
      refine nw_free (i := 0) (v := ?_) rfl (by kernel_rfl) (fun _ _ d _ _ h => by cases d <;> exact h) (by kernel_rfl) ?_ (fun K hK => ?_); rotate_left; (· (intro w'; go_simp; with_reducible rfl)); simp only [Act.put, List.setIfInBounds_toArray, List.set_cons_zero, List.set_cons_succ]; refine hK _ ?_; clear hK K
      refine nw_free (i := 2) (v := ?_) rfl (by kernel_rfl) (fun _ _ d _ _ h => by cases d <;> exact h) (by kernel_rfl) ?_ (fun K hK => ?_); rotate_left; (· (intro w'; go_simp; with_reducible rfl)); simp only [Act.put, List.setIfInBounds_toArray, List.set_cons_zero, List.set_cons_succ]; refine hK _ ?_; clear hK K
      refine nw_free (i := 4) (v := ?_) rfl (by kernel_rfl) (fun _ _ d _ _ h => by cases d <;> exact h) (by kernel_rfl) ?_ (fun K hK => ?_); rotate_left; (· (intro w'; go_simp; with_reducible rfl)); simp only [Act.put, List.setIfInBounds_toArray, List.set_cons_zero, List.set_cons_succ]; refine hK _ ?_; clear hK K
      refine nw_free (i := 8) (v := ?_) rfl (by kernel_rfl) (fun _ _ d _ _ h => by cases d <;> exact h) (by kernel_rfl) ?_ (fun K hK => ?_); rotate_left; (· (intro w'; go_simp; with_reducible rfl)); simp only [Act.put, List.setIfInBounds_toArray, List.set_cons_zero, List.set_cons_succ]; refine hK _ ?_; clear hK K
      refine nw_free (i := 10) (v := ?_) rfl (by kernel_rfl) (fun _ _ d _ _ h => by cases d <;> exact h) (by kernel_rfl) ?_ (fun K hK => ?_); rotate_left; (· (intro w'; go_simp; with_reducible rfl)); simp only [Act.put, List.setIfInBounds_toArray, List.set_cons_zero, List.set_cons_succ]; refine hK _ ?_; clear hK K
      refine nw_take (i := 1) (v := ?_) rfl (by kernel_rfl) (by kernel_rfl) (fun _ _ d _ _ h => by cases d <;> exact h) (by exact hNS) (by kernel_rfl) ?_ (fun K hK => ?_); rotate_left; (· (intro w' hSw; (try dsimp only at hSw); go_simp; with_reducible rfl)); simp only [Act.put, List.setIfInBounds_toArray, List.set_cons_zero, List.set_cons_succ]; refine hK _ ?_; clear hK K
      refine nw_take (i := 3) (v := ?_) rfl (by kernel_rfl) (by kernel_rfl) (fun _ _ d _ _ h => by cases d <;> exact h) (by exact hNS) (by kernel_rfl) ?_ (fun K hK => ?_); rotate_left; (· (intro w' hSw; (try dsimp only at hSw); go_simp; with_reducible rfl)); simp only [Act.put, List.setIfInBounds_toArray, List.set_cons_zero, List.set_cons_succ]; refine hK _ ?_; clear hK K
      refine nw_take (i := 9) (v := ?_) rfl (by kernel_rfl) (by kernel_rfl) (fun _ _ d _ _ h => by cases d <;> exact h) (by exact hNS) (by kernel_rfl) ?_ (fun K hK => ?_); rotate_left; (· (intro w' hSw; (try dsimp only at hSw); go_simp; with_reducible rfl)); simp only [Act.put, List.setIfInBounds_toArray, List.set_cons_zero, List.set_cons_succ]; refine hK _ ?_; clear hK K
      refine nw_take (i := 5) (v := ?_) rfl (by kernel_rfl) (by kernel_rfl) (fun _ _ d _ _ h => by cases d <;> exact h) (by exact hNS) (by kernel_rfl) ?_ (fun K hK => ?_); rotate_left; (· (intro w' hSw; (try dsimp only at hSw); go_simp; with_reducible rfl)); simp only [Act.put, List.setIfInBounds_toArray, List.set_cons_zero, List.set_cons_succ]; refine hK _ ?_; clear hK K
      refine nw_take (i := 11) (v := ?_) rfl (by kernel_rfl) (by kernel_rfl) (fun _ _ d _ _ h => by cases d <;> exact h) (by exact hNS) (by kernel_rfl) ?_ (fun K hK => ?_); rotate_left; (· (intro w' hSw; (try dsimp only at hSw); go_simp; with_reducible rfl)); simp only [Act.put, List.setIfInBounds_toArray, List.set_cons_zero, List.set_cons_succ]; refine hK _ ?_; clear hK K
      refine nw_take (i := 6) (v := ?_) rfl (by kernel_rfl) (by kernel_rfl) (fun _ _ d _ _ h => by cases d <;> exact h) (by exact hNS) (by kernel_rfl) ?_ (fun K hK => ?_); rotate_left; (· (intro w' hSw; (try dsimp only at hSw); go_simp; with_reducible rfl)); simp only [Act.put, List.setIfInBounds_toArray, List.set_cons_zero, List.set_cons_succ]; refine hK _ ?_; clear hK K
      refine nw_take (i := 12) (v := ?_) rfl (by kernel_rfl) (by kernel_rfl) (fun _ _ d _ _ h => by cases d <;> exact h) (by exact hNS) (by kernel_rfl) ?_ (fun K hK => ?_); rotate_left; (· (intro w' hSw; (try dsimp only at hSw); go_simp; with_reducible rfl)); simp only [Act.put, List.setIfInBounds_toArray, List.set_cons_zero, List.set_cons_succ]; refine hK _ ?_; clear hK K
      refine nw_take (i := 7) (v := ?_) rfl (by kernel_rfl) (by kernel_rfl) (fun _ _ d _ _ h => by cases d <;> exact h) (by exact hNS) (by kernel_rfl) ?_ (fun K hK => ?_); rotate_left; (· (intro w' hSw; (try dsimp only at hSw); go_simp; with_reducible rfl)); simp only [Act.put, List.setIfInBounds_toArray, List.set_cons_zero, List.set_cons_succ]; refine hK _ ?_; clear hK K
      refine nw_take (i := 13) (v := ?_) rfl (by kernel_rfl) (by kernel_rfl) (fun _ _ d _ _ h => by cases d <;> exact h) (by exact hNS) (by kernel_rfl) ?_ (fun K hK => ?_); rotate_left; (· (intro w' hSw; (try dsimp only at hSw); go_simp; with_reducible rfl)); simp only [Act.put, List.setIfInBounds_toArray, List.set_cons_zero, List.set_cons_succ]; refine hK _ ?_; clear hK K
      refine nw_take (i := 14) (v := ?_) rfl (by kernel_rfl) (by kernel_rfl) (fun _ _ d _ _ h => by cases d <;> exact h) (by exact hNS) (by kernel_rfl) ?_ (fun K hK => ?_); rotate_left; (· (intro w' hSw; (try dsimp only at hSw); go_simp; with_reducible rfl)); simp only [Act.put, List.setIfInBounds_toArray, List.set_cons_zero, List.set_cons_succ]; refine hK _ ?_; clear hK K
      clear hNS
      refine nw_one (i := 15) (E := False) rfl (by kernel_rfl) (fun K hK => ?_) (by kernel_rfl)
      go_simp
      have L1 := Lib.hid (lit_rowN v0 116 (ecells [(b, x)]) 2 v0.heap.size rfl rfl)
      have O1 := Lib.hid (O0.out.alloc (.cells (ecells [(b, x)]).toArray 116))
      have K1 := Lib.hid (K0.out.alloc (.cells (ecells [(b, x)]).toArray 116))
      refine hK.out _ _ (fun _ => SK.out _ K1.out) ?_
      clear hK K
      try simp only [Act.put, List.setIfInBounds_toArray, List.set_cons_zero, List.set_cons_succ]
      refine nw_one (i := 16) (E := False) rfl (by kernel_rfl) (fun K hK => ?_) (by kernel_rfl)
      refine step_app_gen _ 51 116 (.agg #[.int .i64 0, .bool false]) 2 16 Try.underlying51 infoEntR rfl (by decide) rfl (.tmp 22) (.tmp 36) rfl w.heap.size v j (ecells (es.take j)) rfl O1.out ⟨v0.heap.size, 0, none⟩ 1 1 (ecells [(b, x)]) rfl L1.out (one_ecells _) (by unfold maxLen; omega) (by omega) K1.out.bel.size ?_
      intro y v2 hown hg
      obtain ⟨g2, c2, cs2, rfl, _, _, _, _, _⟩ := own_formN hown (by omega)
      have K2 := Lib.hid (K1.out.row O1.out (by decide) (by decide) (Nat.le_refl _) hg)
      have O2 := Lib.hid hown
      clear hown hg
      refine hK.out _ _ ((fun h => absurd h (by decide))) ?_
      clear hK K
      try simp only [Act.put, List.setIfInBounds_toArray, List.set_cons_zero, List.set_cons_succ]
      have c2' := K2.out.out.cell 2
      have z2' := K2.out.out.frozen 2
      refine nw_one (i := 17) (E := False) rfl (by kernel_rfl) (fun K hK => ?_) (by kernel_rfl)
      go_simp
      refine hK.out _ _ ((fun h => absurd h (by decide))) ?_
      clear hK K
      try simp only [Act.put, List.setIfInBounds_toArray, List.set_cons_zero, List.set_cons_succ]
      refine nw_one (i := 18) (E := False) rfl (by kernel_rfl) (fun K hK => ?_) (by kernel_rfl)
      go_simp
      refine hK.out _ _ ((fun h => absurd h (by decide))) ?_
      clear hK K
      try simp only [Act.put, List.setIfInBounds_toArray, List.set_cons_zero, List.set_cons_succ]
      refine nw_end (by kernel_rfl) ?_
      clear c2' z2'
      go_wp2
      go_roundw
      case rel => exact ⟨j + 1, _, by omega, by go_num, K2.out.set_ 2 _, by
        rw [HTK.out, ecells_snoc]
        exact own_set_far O2.out K2.out.out (by decide) _⟩
      case measure => simp [intOf]; omega
    · obtain rfl : j = n := by omega
      have ht : es.take j = es := List.take_of_length_le (by rw [HLEN.out]; exact Nat.le_refl _)
      have ho := X2.out
      rw [ht] at ho
      obtain ⟨Av, cv, rfl, _, _, _, _, _⟩ := own_sliceN ho
      have O3 := Lib.hid ho
      have f0 := X1.out.out.cell 0
      have f1 := X1.out.out.cell 1
      have f2 := X1.out.out.cell 2
      have f3 := X1.out.out.cell 3
      have f4 := X1.out.out.cell 4
      have q0 := X1.out.res.cell 0
      have q1 := X1.out.res.cell 1
      have q2 := X1.out.res.cell 2
      have q3 := X1.out.res.cell 3
      have q4 := X1.out.res.cell 4
      have z0 := X1.out.res.frozen 0
      have z1 := X1.out.res.frozen 1
      have z2 := X1.out.res.frozen 2
      have z3 := X1.out.res.frozen 3
      have z4 := X1.out.res.frozen 4
      clear ht ho X2
      go_wp2_with fail
      refine bodyPost_ret (v := .agg #[.int .i64 k, .int .i64 s, .slice Av j cv, .int .u32 (sum : Int), .int .i64 st]) (by simp [results, Try.results39, go_sem, q0, q1, q2, q3, q4, z0, z1, z2, z3, z4]) rfl ⟨.slice Av j cv, rfl, ?_⟩
      exact rec_end (by omega) X1.out.res X1.out.bel O3.out (by decide) _ _ _ _ _

end Go.Proofs.Ytafonjnanfekkaa.Log

namespace Go.Proofs.Ytafonjnanfekkaa.Log
open Go.RowKit Go.Proofs.Ytafonjnanfekkaa.Wire Go.Proofs.Ytafonjnanfekkaa.Lay
set_option maxHeartbeats 8000000
set_option maxRecDepth 100000
set_option linter.unusedVariables false
set_option linter.unusedSimpArgs false

theorem ent_neq (b : Int) (x : Bool) (w : World) : (binOp .neq 116 (.agg #[.int .i64 b, .bool x]) (.agg #[.int .i64 b, .bool x])).run Try.prog w = .ok (.bool false) w := by
  simp [go_sem]
theorem recSame_any (k s : Int) (A B : Option Addr) (n ca cb sum : Nat) (st : Int) (es : List Ent) (w : World) (hn : n ≤ 1125899906842624) (ha : RowAt w A (n * 2) (ecells es)) (hb : RowAt w B (n * 2) (ecells es)) :
    Calls Try.prog 38 #[.agg #[.int .i64 k, .int .i64 s, .slice A n ca, .int .u32 (sum : Int), .int .i64 st], .agg #[.int .i64 k, .int .i64 s, .slice B n cb, .int .u32 (sum : Int), .int .i64 st]] w fun e w' => e = .returned (.bool true) ∧ Below w.heap.size w w' := by
  have hlen : es.length = n := by have := ha.len; rw [ecells_length] at this; omega
  obtain ⟨W, hW⟩ : ∃ W, (w.alloc (.cells #[.int .i64 k, .int .i64 s, .slice A n ca, .int .u32 (sum : Int), .int .i64 st] 53)).alloc (.cells #[.int .i64 k, .int .i64 s, .slice B n cb, .int .u32 (sum : Int), .int .i64 st] 53) = W := ⟨_, rfl⟩
  obtain ⟨b0, b1, hbel, hsz⟩ := boxes2 w _ _ _ _ W hW
  have HA := Lib.hid (ha.below hbel)
  have HB := Lib.hid (hb.below hbel)
  have HL := Lib.hid hlen
  have HW := Lib.hid hW
  have BE := Lib.hid hbel
  have c0 := b0.cell 0
  have c1 := b0.cell 1
  have c2 := b0.cell 2
  have c3 := b0.cell 3
  have c4 := b0.cell 4
  have d0 := b1.cell 0
  have d1 := b1.cell 1
  have d2 := b1.cell 2
  have d3 := b1.cell 3
  have d4 := b1.cell 4
  have K0 := Lib.hid b0
  have K1 := Lib.hid b1
  have kn : (k != k) = false := by simp
  have sn : (s != s) = false := by simp
  have un : ((sum : Int) != (sum : Int)) = false := by simp
  have tn : (st != st) = false := by simp
  have nn : ((n : Int) != (n : Int)) = false := by simp
  clear ha hb hlen hW b0 b1 hbel
  go_enter Try.func38, Try.ntmps38
  go_wp2_with fail
  rw [HW.out]
  go_wp2_with fail
  clear c0 c1 c3 c4 d0 d1 d3 d4 kn sn un tn nn c2 d2
  go_loopw [5] (fun i wr => ∃ j : Nat, j ≤ n ∧ i = .int .i64 j ∧ ∃ q, wr = W.drewN q) (fun i _ => n - (intOf i).toNat)
  case atStart => exact ⟨0, by omega, rfl, 0, rfl⟩
  case round =>
    obtain ⟨j, hj, rfl, q, rfl⟩ := hrel
    have c2 := K0.out.cell 2
    have d2 := K1.out.cell 2
    by_cases hlt : j < n
    · obtain ⟨e, he⟩ : ∃ e, es[j]? = some e := ⟨_, List.getElem?_eq_getElem (by have := HL.out; omega)⟩
      obtain ⟨a, rfl, _, _, hga⟩ := ent_cells HA.out he
      obtain ⟨b, rfl, _, _, hgb⟩ := ent_cells HB.out he
      obtain ⟨x, y⟩ := e
      obtain ⟨f0, f1⟩ := hga
      obtain ⟨h0, h1⟩ := hgb
      simp only at f0 f1 h0 h1
      have heq := ent_neq x y
      have hk0 : (0 : Int) ≤ (j : Int) := by omega
      have hkn : (j : Int) < (n : Int) := by omega
      clear he
      go_wp2_with fail
      refine region_still (by kernel_rfl) (by kernel_rfl) ?_
      iterate 11 (refine still_take (v := ?_) (by kernel_rfl) ?_ (fun K hK => ?_); rotate_left; (· (go_simp; with_reducible rfl)); simp only [Act.put, List.setIfInBounds_toArray, List.set_cons_zero, List.set_cons_succ]; refine hK _ ?_; clear hK K)
      refine still_end ?_
      go_wp2_with fail
      go_roundw
      case rel => exact ⟨j + 1, by omega, by go_num, q + 1, rfl⟩
      case measure => simp [intOf]; omega
    · obtain rfl : j = n := by omega
      go_wp2_with fail
      go_ret
      exact ⟨rfl, below_drewN BE.out q⟩
end Go.Proofs.Ytafonjnanfekkaa.Log

namespace Go.Proofs.Ytafonjnanfekkaa.Log
open Go.RowKit Go.Proofs.Ytafonjnanfekkaa.Wire Go.Proofs.Ytafonjnanfekkaa.Lay
set_option linter.unusedVariables false
set_option linter.unusedSimpArgs false

theorem uf_app {bs t : List UInt8} {l : List Nat} {ws : List Int} (hbs : bs = pre l ws l.length ++ t) (hl : l.length = ws.length) (hw : wok ws = true) (hz : ∀ p ∈ l.zip ws, p.1 < 256 ^ p.2.toNat)
    (l1 : List Nat) (x : Nat) (l2 : List Nat) (w1 : List Int) (z : Int) (w2 : List Int) (e1 : l = l1 ++ x :: l2) (e2 : ws = w1 ++ z :: w2) (h1 : l1.length = w1.length) {p : Int} (hp : w1.sum = p) : uf bs p z = (x : Int) := by
  refine uf_pre hbs hl hw hz (k := l1.length) ?_ ?_ ?_
  · rw [e1]; simp
  · rw [e2, h1]; simp
  · rw [e2, h1, List.take_left']; exact hp; rfl
theorem take_at {es : List Ent} {j : Nat} {e : Ent} (he : es[j]? = some e) : es = es.take j ++ e :: es.drop (j + 1) := by
  obtain ⟨hlt, h⟩ := List.getElem?_eq_some_iff.1 he
  rw [← h, List.getElem_cons_drop, List.take_append_drop]
theorem rec_at {k s : Int} {es : List Ent} {sum : Nat} {st : Int} {bs t : List UInt8} (hg : RGood k s es sum st) (hs : sum < 4294967296) (hbs : bs = pre (rL k s es sum st) (rW k es.length) (rL k s es sum st).length ++ t) {j : Nat} {e : Ent} (he : es[j]? = some e) :
    uf bs (11 + stride k * j) 4 = e.1 ∧ (k = 1 → uf bs (11 + stride k * j + 4) 1 = (if e.2 then 1 else 0 : Nat)) := by
  have hjl := (List.getElem?_eq_some_iff.1 he).1
  obtain ⟨e0, _, _⟩ := hg.ents e (List.mem_of_getElem? he)
  have h1 : rL k s es sum st = (hL k s es.length ++ esL k (es.take j)) ++ (eL k e ++ (esL k (es.drop (j + 1)) ++ tL k sum st)) := by
    have e3 : esL k es = esL k (es.take j) ++ (eL k e ++ esL k (es.drop (j + 1))) := by
      conv => lhs; rw [take_at he]
      rw [esL_append, show e :: es.drop (j + 1) = [e] ++ es.drop (j + 1) from rfl, esL_append, esL_one]
    rw [rL, e3]
    simp only [List.append_assoc]
  have h2 : rW k es.length = (hW ++ esW k j) ++ (eW k ++ (esW k (es.length - (j + 1)) ++ tW k)) := by
    rw [rW]
    conv => lhs; rw [show es.length = j + (1 + (es.length - (j + 1))) by omega]
    rw [esW_add, esW_add, esW_one]
    simp only [List.append_assoc]
  have hlen : (hL k s es.length ++ esL k (es.take j)).length = (hW ++ esW k j).length := by
    rw [List.length_append, List.length_append, esL_length, List.length_take, Nat.min_eq_left (by omega)]; rfl
  have hsum : (hW ++ esW k j).sum = 11 + stride k * j := by rw [List.sum_append, esW_sum]; rfl
  have ll : (rL k s es sum st).length = (rW k es.length).length := rL_length _ _ _ _ _
  refine ⟨?_, fun hk => ?_⟩
  · have := uf_app hbs ll (rW_wok k es.length) (hg.zip hs) (hL k s es.length ++ esL k (es.take j)) e.1.toNat ((if k = 1 then [if e.2 then 1 else 0] else []) ++ (esL k (es.drop (j + 1)) ++ tL k sum st)) (hW ++ esW k j) 4 ((if k = 1 then [1] else []) ++ (esW k (es.length - (j + 1)) ++ tW k)) (by rw [h1]; rfl) (by rw [h2]; rfl) hlen hsum
    rw [this, Int.toNat_of_nonneg e0]
  · subst hk
    exact uf_app hbs ll (rW_wok 1 es.length) (hg.zip hs) (hL 1 s es.length ++ esL 1 (es.take j) ++ [e.1.toNat]) (if e.2 then 1 else 0) (esL 1 (es.drop (j + 1)) ++ tL 1 sum st) (hW ++ esW 1 j ++ [4]) 1 (esW 1 (es.length - (j + 1)) ++ tW 1)
      (by rw [h1]; simp [eL]) (by rw [h2]; simp [eW]) (by have := hlen; simp only [List.length_append, List.length_singleton] at this ⊢; omega) (by rw [List.sum_append, hsum]; rfl)
theorem rec_back {k s : Int} {es : List Ent} {sum : Nat} {st : Int} (hm : rMay k s es sum st = true) (hs : sum < 4294967296) :
    uOk (rB k s es sum st) = true ∧ uf (rB k s es sum st) 4 1 = k ∧ uf (rB k s es sum st) 5 4 = s ∧ uEs (rB k s es sum st) = es ∧ uSum (rB k s es sum st) (uP (rB k s es sum st)) = sum ∧ uSt (rB k s es sum st) (uP (rB k s es sum st)) = st := by
  have hg := rGood hm
  obtain ⟨t, _, hbs, _, _⟩ := hg.packed hs
  rw [← show rB k s es sum st = _ from if_pos hm] at hbs
  generalize hB : rB k s es sum st = bs at *
  have ll : (rL k s es sum st).length = (rW k es.length).length := rL_length _ _ _ _ _
  have hw := rW_wok k es.length
  have hz := hg.zip hs
  obtain ⟨s1, s2⟩ := hg.seq
  have hk0 : 0 ≤ k := by rcases hg.kind with ⟨rfl, _⟩ | ⟨rfl, _⟩ | ⟨rfl, _⟩ | ⟨rfl, _⟩ <;> omega
  have hn60 : es.length ≤ 60 := by
    rcases hg.kind with ⟨_, h1, h2⟩ | ⟨_, h1, h2⟩ | ⟨_, h1⟩ | ⟨_, h1⟩
    · omega
    · omega
    · rw [h1]; simp
    · rw [h1]; simp
  have u1 : uf bs 4 1 = k := (uf_app hbs ll hw hz [1213813321] k.toNat _ [4] 1 _ rfl rfl rfl rfl).trans (Int.toNat_of_nonneg hk0)
  have u2 : uf bs 5 4 = s := (uf_app hbs ll hw hz [1213813321, k.toNat] s.toNat _ [4, 1] 4 _ rfl rfl rfl rfl).trans (Int.toNat_of_nonneg (by omega))
  have u3 : uf bs 9 2 = (es.length : Int) := uf_app hbs ll hw hz [1213813321, k.toNat, s.toNat] es.length _ [4, 1, 4] 2 _ rfl rfl rfl rfl
  have hN : uN bs = es.length := by rw [uN, u3]; omega
  have hE : uEs bs = es := by
    apply List.ext_getElem?
    intro j
    by_cases hj : j < es.length
    · obtain ⟨e, he⟩ : ∃ e, es[j]? = some e := ⟨_, List.getElem?_eq_getElem hj⟩
      obtain ⟨r1, r2⟩ := rec_at hg hs hbs he
      have : (uEs bs)[j]? = some (uEnt bs j) := by simp [uEs, hN, hj]
      rw [this, he, uEnt, u1, r1]
      congr 1
      obtain ⟨b, x⟩ := e
      congr 1
      by_cases h1 : k = 1
      · rw [r2 h1]; subst h1; cases x <;> rfl
      · have : x = false := by
          cases x
          · rfl
          · exact absurd ((hg.ents _ (List.mem_of_getElem? he)).2.2 rfl) h1
        rw [this, beq_eq_false_iff_ne.2 h1]; rfl
    · rw [List.getElem?_eq_none (by rw [uEs_length, hN]; omega), List.getElem?_eq_none (by omega)]
  have hP : uP bs = 11 + stride k * es.length := by rw [uP, u1, hN]
  have hwl : (hL k s es.length ++ esL k es).length = (hW ++ esW k es.length).length := by
    rw [List.length_append, List.length_append, esL_length]; rfl
  have hws : (hW ++ esW k es.length).sum = 11 + stride k * es.length := by rw [List.sum_append, esW_sum]; rfl
  have hS : uSum bs (uP bs) = sum := by
    rw [uSum, u1, hP]
    by_cases h2 : k = 2
    · subst h2
      rw [if_pos rfl, uf_app hbs ll hw hz (hL 2 s es.length ++ esL 2 es) sum [] (hW ++ esW 2 es.length) 4 [] (by simp [rL, tL]) (by simp [rW, tW]) hwl hws]; rfl
    · rw [if_neg h2]; rcases hg.sum0 with h | h
      · exact h.symm
      · exact absurd h h2
  have hT : uSt bs (uP bs) = st := by
    rw [uSt, u1, hP]
    by_cases h4 : k = 4
    · subst h4
      rw [if_pos rfl, uf_app hbs ll hw hz (hL 4 s es.length ++ esL 4 es) st.toNat [] (hW ++ esW 4 es.length) 4 [] (by simp [rL, tL]) (by simp [rW, tW]) hwl hws]
      exact Int.toNat_of_nonneg (by have := hg.start; omega)
    · rw [if_neg h4]; rcases hg.start with h | h
      · exact h.symm
      · exact absurd h.1 h4
  refine ⟨?_, u1, u2, hE, hS, hT⟩
  rw [uOk, uMay, uRB, u1, u2, hE, hS, hT, hm, hB]; simp
end Go.Proofs.Ytafonjnanfekkaa.Log

namespace Go.Proofs.Ytafonjnanfekkaa.Log
open Go.RowKit Go.Proofs.Ytafonjnanfekkaa.Wire Go.Proofs.Ytafonjnanfekkaa.Lay
set_option linter.unusedVariables false
set_option linter.unusedSimpArgs false

def B32 (l : List UInt8) : BitVec 32 := BitVec.ofNat 32 (num l)
theorem B32_cons (c : UInt8) (l : List UInt8) : B32 (c :: l) = by32 c ^^^ (B32 l <<< 8) := by
  apply BitVec.eq_of_getLsbD_eq
  intro i hi
  rw [BitVec.getLsbD_xor, BitVec.getLsbD_shiftLeft]
  have hc : c.toNat < 2 ^ 8 := c.toNat_lt
  have e : num (c :: l) = 2 ^ 8 * num l + c.toNat := by simp only [num]; omega
  rw [B32, e, BitVec.getLsbD_ofNat, Nat.testBit_two_pow_mul_add _ hc]
  by_cases h8 : i < 8
  · rw [if_pos h8, by32, BitVec.getLsbD_ofNat]
    simp only [hi, h8, decide_true, Bool.true_and, Bool.not_true, Bool.and_false, Bool.false_and, Bool.xor_false]
  · rw [by32_high c i (by omega)]
    simp [h8, hi, B32, BitVec.getLsbD_ofNat]
    intro _; omega
theorem B32_set : ∀ (l : List UInt8) (q : Nat) (x y : UInt8), l[q]? = some x → B32 (l.set q y) = B32 l ^^^ ((by32 x ^^^ by32 y) <<< (8 * q))
  | [], q, x, y, h => by simp at h
  | c :: l, 0, x, y, h => by
    simp at h; subst h
    rw [List.set_cons_zero, B32_cons, B32_cons, Nat.mul_zero, BitVec.shiftLeft_zero]
    rw [BitVec.xor_comm (by32 c) (B32 l <<< 8), BitVec.xor_assoc, ← BitVec.xor_assoc (by32 c), BitVec.xor_self, BitVec.zero_xor, BitVec.xor_comm]
  | c :: l, q + 1, x, y, h => by
    have ih := B32_set l q x y (by simpa using h)
    rw [List.set_cons_succ, B32_cons, B32_cons, ih, BitVec.shiftLeft_xor_distrib, ← BitVec.shiftLeft_add, BitVec.xor_assoc]
    rw [show 8 * q + 8 = 8 * (q + 1) by omega]
theorem stpN_add (a : Nat) : ∀ (b : Nat) (d : BitVec 32), stpN b (stpN a d) = stpN (a + b) d
  | 0, d => rfl
  | b + 1, d => by rw [stpN, stpN_add a b d]; rfl
theorem upd_xor (c d : BitVec 32) (x : UInt8) : upd (c ^^^ d) x = upd c x ^^^ stpN 8 d := by
  unfold upd
  rw [← stpN_xor]
  congr 1
  rw [BitVec.xor_assoc, BitVec.xor_comm d, ← BitVec.xor_assoc]
theorem crcF_xor : ∀ (l : List UInt8) (c d : BitVec 32), crcF (c ^^^ d) l = crcF c l ^^^ stpN (8 * l.length) d
  | [], c, d => rfl
  | x :: l, c, d => by
    show crcF (upd (c ^^^ d) x) l = crcF (upd c x) l ^^^ _
    rw [upd_xor, crcF_xor l, stpN_add, List.length_cons, show 8 + 8 * l.length = 8 * (l.length + 1) by omega]
theorem not_xor (s d : BitVec 32) : ~~~ (s ^^^ d) = (~~~ s) ^^^ d := by
  apply BitVec.eq_of_getLsbD_eq
  intro i hi
  simp [hi]
theorem seed_told : ∀ (q : Fin 4) (d : Fin 256), d.val ≠ 0 → stpN (8 * (5 + q.val)) (BitVec.ofNat 32 d.val <<< (8 * q.val)) ≠ BitVec.ofNat 32 d.val := by decide +kernel
theorem by32_diff (x y : UInt8) (h : x ≠ y) : ∃ d : Fin 256, d.val ≠ 0 ∧ by32 x ^^^ by32 y = BitVec.ofNat 32 d.val := by
  have h1 : (by32 x).toNat < 2 ^ 8 := by rw [by32, BitVec.toNat_ofNat]; have := x.toNat_lt; omega
  have h2 : (by32 y).toNat < 2 ^ 8 := by rw [by32, BitVec.toNat_ofNat]; have := y.toNat_lt; omega
  have h3 : (by32 x ^^^ by32 y).toNat < 2 ^ 8 := by rw [BitVec.toNat_xor]; exact Nat.xor_lt_two_pow h1 h2
  refine ⟨⟨(by32 x ^^^ by32 y).toNat, h3⟩, fun e => h ?_, by simp⟩
  have h4 : by32 x ^^^ by32 y = 0#32 := BitVec.eq_of_toNat_eq (by simpa using e)
  apply by32_inj
  have h5 : by32 x ^^^ by32 y ^^^ by32 y = 0#32 ^^^ by32 y := by rw [h4]
  rwa [BitVec.xor_assoc, BitVec.xor_self, BitVec.xor_zero, BitVec.zero_xor] at h5
/-- A byte of the seed, turned there and in the seed, is told. -/
theorem crc_seed_turned (s : BitVec 32) (a : List UInt8) (x y : UInt8) (b : List UInt8) (q : Nat) (hq : q < 4) (ha : a.length = 5 + q) (hxy : x ≠ y)
    (h : crc s (a ++ x :: b) = crc (s ^^^ ((by32 x ^^^ by32 y) <<< (8 * q))) (a ++ y :: b)) : False := by
  obtain ⟨d, hd, he⟩ := by32_diff x y hxy
  unfold crc at h
  have h1 := BitVec.not_inj.mp h
  rw [crcF_append, crcF_append, not_xor, crcF_xor, ha] at h1
  have h2 : upd (crcF (~~~ s) a) x = upd (crcF (~~~ s) a ^^^ stpN (8 * (5 + q)) ((by32 x ^^^ by32 y) <<< (8 * q))) y := crcF_inj b h1
  have h3 := stpN_inj 8 h2
  rw [BitVec.xor_assoc] at h3
  have h4 := xor_right h3
  have h5 : stpN (8 * (5 + q)) ((by32 x ^^^ by32 y) <<< (8 * q)) = by32 x ^^^ by32 y := by
    obtain ⟨D, hD⟩ : ∃ D, stpN (8 * (5 + q)) ((by32 x ^^^ by32 y) <<< (8 * q)) = D := ⟨_, rfl⟩
    rw [hD] at h4 ⊢
    rw [h4, BitVec.xor_assoc, BitVec.xor_self, BitVec.xor_zero]
  rw [he] at h5
  exact seed_told ⟨q, hq⟩ d hd h5

/-- A record that is one is sealed, and 256 bytes long. -/
theorem uOk_sealed {bs : List UInt8} (h : uOk bs = true) : bs.length = 256 ∧ sealedB (rS (uf bs 5 4)) bs = true := by
  simp only [uOk, Bool.and_eq_true, beq_iff_eq] at h
  obtain ⟨hm, hb⟩ := h
  have hg := rGood (show rMay _ _ _ _ _ = true from hm)
  obtain ⟨t, _, _, h2, h3⟩ := hg.packed (uSum_lt _ _)
  have e : uRB bs = sealB (rS (uf bs 5 4)) (packB (rL (uf bs 4 1) (uf bs 5 4) (uEs bs) (uSum bs (uP bs)) (uSt bs (uP bs))) (rW (uf bs 4 1) (uEs bs).length) 256) := if_pos hm
  rw [← e, hb] at h2 h3
  exact ⟨h3, h2⟩
theorem uf_num {bs : List UInt8} (h : bs.length = 256) : uf bs 5 4 = (num ((bs.drop 5).take 4) : Nat) := by
  have hf : fits bs.length 5 4 = true := fits_mk (by omega) (by omega) (by omega) (by omega)
  show ((getX bs 5 4 : Nat) : Int) = _
  rw [getX, if_pos hf]; rfl
theorem rS_num (l : List UInt8) : rS (num l : Nat) = B32 l := by rw [rS, BitVec.ofInt_natCast]; rfl
theorem rec_turned {bs : List UInt8} {j : Nat} {x y : UInt8} (h : uOk bs = true) (hj : bs[j]? = some x) (hxy : x ≠ y) : uOk (bs.set j y) = false := by
  cases hc : uOk (bs.set j y)
  · rfl
  · exfalso
    obtain ⟨hl, hs⟩ := uOk_sealed h
    obtain ⟨hl', hs'⟩ := uOk_sealed hc
    have hjl := (List.getElem?_eq_some_iff.1 hj).1
    by_cases hin : 5 ≤ j ∧ j < 9
    · obtain ⟨q, rfl⟩ : ∃ q, j = 5 + q := ⟨j - 5, by omega⟩
      have hq : q < 4 := by omega
      rw [uf_num hl, rS_num] at hs
      rw [uf_num hl', rS_num] at hs'
      have e4 : ((bs.set (5 + q) y).drop 5).take 4 = ((bs.drop 5).take 4).set q y := by
        rw [List.drop_set, if_neg (by omega), show 5 + q - 5 = q by omega, List.take_set]
      have hx4 : ((bs.drop 5).take 4)[q]? = some x := by rw [List.getElem?_take, if_pos hq, List.getElem?_drop]; exact hj
      rw [e4, B32_set _ q x y hx4] at hs'
      generalize B32 ((bs.drop 5).take 4) = seed at *
      unfold sealedB at hs hs'
      rw [List.length_set] at hs'
      simp only [Bool.and_eq_true, decide_eq_true_eq, beq_iff_eq] at hs hs'
      obtain ⟨_, hs⟩ := hs
      obtain ⟨_, hs'⟩ := hs'
      rw [List.drop_set_of_lt (by omega), List.take_set] at hs'
      have hx' : (bs.take (bs.length - 4))[5 + q]? = some x := by rw [List.getElem?_take, if_pos (by omega)]; exact hj
      obtain ⟨e1, e2⟩ := split_at hx' y
      have heq : crc seed (bs.take (bs.length - 4)) = crc (seed ^^^ ((by32 x ^^^ by32 y) <<< (8 * q))) ((bs.take (bs.length - 4)).set (5 + q) y) := BitVec.eq_of_toNat_eq (by omega)
      rw [e2] at heq
      conv at heq => lhs; rw [e1]
      exact crc_seed_turned seed _ x y _ q hq (by rw [List.length_take, List.length_take]; omega) hxy heq
    · have e5 : uf (bs.set j y) 5 4 = uf bs 5 4 := by
        rw [uf_num hl, uf_num hl']
        congr 2
        rw [List.drop_set]
        split
        · rfl
        · rw [List.take_set_of_le (by omega)]
      rw [e5] at hs'
      rw [turned_unsealed _ bs j x y hs hj hxy] at hs'
      cases hs'
end Go.Proofs.Ytafonjnanfekkaa.Log

namespace Go.Proofs.Ytafonjnanfekkaa
open Go.ChangeShapes Go.WideShapes Go.ChangeAt Go.RowKit Go.Joins
set_option maxRecDepth 100000
set_option linter.unusedVariables false
set_option linter.unusedSimpArgs false
section
variable {H : Type} {enc : TypeId × Value → H} {w : World} {base : Nat} {spare : Nat → Bool} {held : Bool}
theorem cells_rent : Try.prog.cellsOf 116 = 2 := by kernel_rfl
theorem cells_rrec : Try.prog.cellsOf 53 = 5 := by kernel_rfl
theorem cells_u32 : Try.prog.cellsOf 24 = 1 := by kernel_rfl
theorem cells_rents : Try.prog.cellsOf 51 = 1 := by kernel_rfl
theorem bytes_rent : Try.prog.bytesOf 116 = 16 := by kernel_rfl
theorem one_u32 {n : Nat} {c : Value} {y : DataW H × List MemPlace} (h : DataW.trod enc Try.prog w base spare held n 24 [c] = some y) : ∃ k : Nat, c = .int .u32 (k : Int) ∧ k < 4294967296 := by
  obtain ⟨k, hk, _, hw⟩ := DataW.trod_int Try.underlying24 h
  simp at hk
  obtain ⟨s, rfl⟩ := wf_u32 hw
  exact ⟨s.toNat, hk, s.isLt⟩
theorem ent_parts {n : Nat} {cs : List Value} {y : DataW H × List MemPlace} (h : DataW.trod enc Try.prog w base spare held n 116 cs = some y) : ∃ (x : Int) (b : Bool), cs = [.int .i64 x, .bool b] := by
  obtain ⟨xs, n', _, hx, hlc, hlen, hg⟩ := DataW.trod_struct Try.underlying116 h
  rw [cells_rent] at hlc
  match cs, hlc with
  | [c0, c1], _ =>
    have hl : xs.length = 2 := hlen
    obtain ⟨z0, f0⟩ := some_at hl 0 (by omega)
    obtain ⟨z1, f1⟩ := some_at hl 1 (by omega)
    have k0 := hg 0 _ rfl
    have k1 := hg 1 _ rfl
    simp only [cells_int, cells_bool, f0, f1, List.drop_succ_cons, List.drop_zero, List.take_succ_cons, List.take_zero] at k0 k1
    obtain ⟨x, rfl, _⟩ := one_int k0
    obtain ⟨b, rfl⟩ := one_bool k1
    exact ⟨x, b, rfl⟩
theorem ents_of {n : Nat} {c : Value} {y : DataW H × List MemPlace} (h : DataW.trod enc Try.prog w base spare held n 51 [c] = some y) :
    ∃ (A : Option Addr) (len cap : Nat) (es : List Log.Ent), c = .slice A len cap ∧ RowAt w A (len * 2) (Log.ecells es) ∧ len ≤ cap ∧ cap ≤ maxLen ∧ ((∀ x ∈ y.1.weights Try.prog 51, x ≤ reachBytes) → len * 16 ≤ reachBytes) := by
  rcases Go.Deep.open_slice Try.underlying51 h with ⟨hcs, _⟩ | ⟨a', len', cap', m, n, D, Pl, hcs, _, hl, hm, hmm, hy, hi⟩
  · simp at hcs
    subst hcs
    exact ⟨none, 0, 0, [], rfl, RowAt.nil_ _ _, Nat.le_refl _, by unfold maxLen; omega, fun _ => by unfold reachBytes; omega⟩
  · simp at hcs
    subst hcs
    have hml : len' ≤ m := by rw [hmm]; split <;> omega
    obtain ⟨gs, hgl, hg⟩ := list_of (R := fun i (g : Log.Ent) => w.cell? (a'.add (i * 2)) = some (.int .i64 g.1) ∧ w.cell? (a'.add (i * 2 + 1)) = some (.bool g.2)) len' (fun i hil => by
      obtain ⟨cs', hc, ht⟩ := hi i (by omega)
      rw [cells_rent] at hc
      obtain ⟨x, b, rfl⟩ := ent_parts ht
      obtain ⟨_, _, hat⟩ := World.cells?_some hc
      have e0 := hat 0 (by omega)
      have e1 := hat 1 (by omega)
      rw [add_of_add] at e0 e1
      exact ⟨(x, b), e0, e1⟩)
    refine ⟨some a', len', cap', gs, rfl, ⟨by rw [Log.ecells_length, hgl], fun hn => ⟨a', rfl, fun j u hu => ?_⟩⟩, hl, hm, fun hw => ?_⟩
    · have hj : j < gs.length * 2 := by
        have := (List.getElem?_eq_some_iff.1 hu).1
        rwa [Log.ecells_length] at this
      obtain ⟨g, hgk⟩ : ∃ g, gs[j / 2]? = some g := ⟨_, List.getElem?_eq_getElem (by omega)⟩
      obtain ⟨c0, c1⟩ := Log.ecells_at hgk
      obtain ⟨e0, e1⟩ := hg _ _ hgk
      have hcase : j = j / 2 * 2 ∨ j = j / 2 * 2 + 1 := by omega
      rcases hcase with h | h <;> rw [h] at hu ⊢
      · rw [c0] at hu; rw [e0]; exact hu
      · rw [c1] at hu; rw [e1]; exact hu
    · subst hy
      have := hw ((len' + (m - len')) * 16) (by simp [DataW.weights, Try.underlying51, bytes_rent])
      have h2 : len' * 16 ≤ (len' + (m - len')) * 16 := Nat.mul_le_mul_right _ (by omega)
      omega
theorem open_rec {r : Reach} {b0 : Nat} {v : Value} {d : DataW H} {p : List MemPlace} (hv : Value.okWide Try.prog w r b0 53 v) (h : DataW.Trod enc Try.prog w base spare held 53 v d p)
    (hw : ∀ x ∈ d.weights Try.prog 53, x ≤ reachBytes) :
    ∃ (k s : Int) (A : Option Addr) (len cap sum : Nat) (st : Int) (es : List Log.Ent), v = .agg #[.int .i64 k, .int .i64 s, .slice A len cap, .int .u32 (sum : Int), .int .i64 st] ∧
      RowAt w A (len * 2) (Log.ecells es) ∧ sum < 4294967296 ∧ len * 16 ≤ reachBytes := by
  obtain ⟨cs, rfl, hsz⟩ := okWide_struct Try.underlying53 hv
  rw [cells_rrec] at hsz
  obtain ⟨l⟩ := cs
  match l, hsz with
  | [c0, c1, c2, c3, c4], _ =>
    obtain ⟨fuel, hf⟩ := h
    obtain ⟨xs, n, _, hx, _, hlen, hg⟩ := DataW.trod_struct Try.underlying53 hf
    have hl : xs.length = 5 := hlen
    obtain ⟨y0, e0⟩ := some_at hl 0 (by omega)
    obtain ⟨y1, e1⟩ := some_at hl 1 (by omega)
    obtain ⟨y2, e2⟩ := some_at hl 2 (by omega)
    obtain ⟨y3, e3⟩ := some_at hl 3 (by omega)
    obtain ⟨y4, e4⟩ := some_at hl 4 (by omega)
    have g0 := hg 0 _ rfl
    have g1 := hg 1 _ rfl
    have g2 := hg 2 _ rfl
    have g3 := hg 3 _ rfl
    have g4 := hg 4 _ rfl
    simp only [cells_int, cells_u32, cells_rents, e0, e1, e2, e3, e4, Value.cells, List.drop_succ_cons, List.drop_zero, List.take_succ_cons, List.take_zero] at g0 g1 g2 g3 g4
    obtain ⟨k, rfl, _⟩ := one_int g0
    obtain ⟨s, rfl, _⟩ := one_int g1
    obtain ⟨A, len, cap, es, rfl, hr, hlc, hcm, hwt⟩ := ents_of g2
    obtain ⟨sum, rfl, hsum⟩ := one_u32 g3
    obtain ⟨st, rfl, _⟩ := one_int g4
    refine ⟨k, s, A, len, cap, sum, st, es, rfl, hr, hsum, hwt fun x hx2 => hw x ?_⟩
    simp only [Prod.mk.injEq] at hx
    rw [hx.1]
    simp only [DataW.weights]
    rw [show Try.prog.underlying 53 = _ from Try.underlying53]
    exact DataW.weights_mem_each (j := 2) rfl (by rw [List.getElem?_map, e2]; rfl) x hx2
end
end Go.Proofs.Ytafonjnanfekkaa
