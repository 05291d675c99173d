
/-
  THE WALK of layout.PackGroups.
-/
import Derived.Test.YtafonjnanfekkaaGrpM
import Derived.Test.YtafonjnanfekkaaR
import Derived.Test.YtafonjnanfekkaaLay2
namespace Go.Proofs.Ytafonjnanfekkaa.Lay
open Go.RowKit Go.Proofs.Ytafonjnanfekkaa.Wire
set_option maxHeartbeats 8000000
set_option maxRecDepth 100000
set_option linter.unusedVariables false
set_option linter.unusedSimpArgs false

theorem row_spot {w : World} {a : Addr} {n : Nat} {vs : List Value} (h : RowAt w (some a) n vs) (hn : 0 < n) : a.spot = none := by
  obtain ⟨a', u, e, _, hc⟩ := h.at_ hn
  obtain rfl : a = a' := by simpa using e
  rw [show a.add 0 = a by unfold Addr.add; simp] at hc
  exact World.cell?_spot hc
/-- A group's three cells. -/
def GrpAt (w : World) (p : Addr) (g : Grp) : Prop :=
  w.cell? p = some (.int .i64 g.1) ∧ w.cell? ⟨p.block, p.off + 1, none⟩ = some (.int .i64 g.2.1) ∧ w.cell? ⟨p.block, p.off + 2, none⟩ = some (.int .i64 g.2.2)
theorem GrpAt.below {w w' : World} {p : Addr} {g : Grp} {B : Nat} (h : GrpAt w p g) (hb : Below B w w') (hlt : p.block < B) : GrpAt w' p g :=
  ⟨(hb.cell hlt).trans h.1, (hb.cell (p := ⟨p.block, p.off + 1, none⟩) hlt).trans h.2.1, (hb.cell (p := ⟨p.block, p.off + 2, none⟩) hlt).trans h.2.2⟩
theorem grp_cells {w : World} {A : Option Addr} {n : Nat} {gs : List Grp} (h : RowAt w A (n * 3) (gcells gs)) {k : Nat} {g : Grp} (hg : gs[k]? = some g) :
    ∃ a, A = some a ∧ a.block < w.heap.size ∧ (a.add (k * 3)).block < w.heap.size ∧ GrpAt w (a.add (k * 3)) g := by
  obtain ⟨h0, h1, h2⟩ := gcells_at hg
  have hk : k < gs.length := (List.getElem?_eq_some_iff.1 hg).1
  have hl := h.len
  rw [gcells_length] at hl
  obtain ⟨a, rfl, hc⟩ := h.2 (by omega)
  have hs := row_spot h (by omega)
  have e0 := hc _ _ h0
  have e1 := hc _ _ h1
  have e2 := hc _ _ h2
  have hb := World.block_lt_of_cell? w _ e0
  refine ⟨a, rfl, by rwa [block_of_add] at hb, hb, e0, ?_, ?_⟩
  · rw [add_spot hs] at e1 ⊢; exact e1
  · rw [add_spot hs] at e2 ⊢; exact e2

theorem packGroups_no (A : Option Addr) (n c : Nat) (gs : List Grp) (w : World) (hn : n ≤ 9223372036854775807) (hr : rg (n : Int) 1 14 = false) :
    Calls Try.prog 27 #[.slice A n c] w fun e w' => e = .returned (.tuple #[.slice none 0 0, .int .i64 22]) ∧ Below w.heap.size w w' := by
  have HR := Lib.hid hr
  clear hr
  go_enter Try.func27, Try.ntmps27
  go_wp2_with fail
  refine (ranged_any _ _ _ _).mono ?_
  rintro e w' ⟨rfl, rfl⟩
  rw [HR.out]
  go_wp2_with fail
  go_ret2
  exact ⟨rfl, Below.refl _ _⟩

theorem packGroups_in (A : Option Addr) (n c : Nat) (gs : List Grp) (w : World) (hr : RowAt w A (n * 3) (gcells gs)) (hg : rg (n : Int) 1 14 = true) :
    Calls Try.prog 27 #[.slice A n c] w fun e w' => ∃ v, e = .returned (.tuple #[v, .int .i64 (gE gs)]) ∧ Below w.heap.size w w' ∧ w'.ownsRow w.heap.size 5 1 v (gB gs).length (bvl (gB gs)) := by
  have hlen : gs.length = n := by have := hr.len; rw [gcells_length] at this; omega
  obtain ⟨n1, n2⟩ := rg_true hg
  have HG := Lib.hid hg
  have HR := Lib.hid hr
  have HL := Lib.hid hlen
  clear hg hr hlen
  go_enter Try.func27, Try.ntmps27
  go_wp2_with fail
  refine (ranged_any _ _ _ _).mono ?_
  rintro e w' ⟨rfl, rfl⟩
  rw [HG.out]
  go_wp2_with fail
  go_loopw [4, 13] (fun v i wr => ∃ (k : Nat), k ≤ n ∧ i = .int .i64 k ∧ (gs.take k).all gOk1 = true ∧ wr.ownsRow w.heap.size 84 1 v (3 * k) (nums (gL (gs.take k))) ∧ Below w.heap.size w wr) (fun _ i _ => n - (intOf i).toNat)
  case atStart => exact ⟨0, by omega, rfl, rfl, World.ownsRow_nil _ _ _ _, Below.refl _ _⟩
  case round =>
    obtain ⟨k, hk, rfl, hall, hown, hbel⟩ := hrel
    have hsz := hbel.size
    have X3 := Lib.hid hall
    have X5 := Lib.hid hown
    have X6 := Lib.hid hbel
    clear hall hown hbel
    by_cases hlt : k < n
    · obtain ⟨g, hg⟩ : ∃ g, gs[k]? = some g := ⟨_, List.getElem?_eq_getElem (by have := HL.out; omega)⟩
      obtain ⟨a, rfl, hab, hpb, hga⟩ := grp_cells HR.out hg
      obtain ⟨x, y, z⟩ := g
      obtain ⟨f0, f1, f2⟩ := hga.below X6.out hpb
      simp only at f0 f1 f2
      have hall1 : (gs.take (k + 1)).all gOk1 = (gOk1 (x, y, z)) := by
        rw [List.take_add_one, hg, List.all_append, X3.out]; simp
      have HA1 := Lib.hid hall1
      have HGL := Lib.hid (show gL (gs.take (k + 1)) = gL (gs.take k) ++ [x.toNat, y.toNat, z.toNat] by rw [List.take_add_one, hg]; exact gL_snoc _ _)
      have HGM := Lib.hid (List.mem_of_getElem? hg)
      have X7 := Lib.hid (X6.out.alloc hsz (.cells #[.int .i64 x, .int .i64 y, .int .i64 z] 108))
      have bad : gOk1 (x, y, z) = false → gE gs = 22 ∧ gB gs = [] := fun h => by
        have h1 : gs.all gOk1 = false := List.all_eq_false.2 ⟨_, HGM.out, by simp [h]⟩
        have h2 : gsOk gs = false := by simp [gsOk, h1]
        simp [gE, gB, h2]
      have BAD := Lib.hid bad
      clear hga hg hall1 bad
      cases r1 : rg x 0 65535
      · obtain ⟨b1, b2⟩ := BAD.out (by simp [gOk1, r1])
        have E1 := Lib.hid b1
        have E2 := Lib.hid b2
        clear b1 b2
        go_wp2_with (go_at_call 64; refine (ranged_any _ _ _ _).mono ?_; rintro e w' ⟨rfl, rfl⟩)
        go_ret2
        refine ⟨_, by rw [E1.out]; rfl, X7.out, ?_⟩
        rw [E2.out]
        exact World.ownsRow_nil _ _ _ _
      cases r2 : rg y 0 65535
      · obtain ⟨b1, b2⟩ := BAD.out (by simp [gOk1, r2])
        have E1 := Lib.hid b1
        have E2 := Lib.hid b2
        clear b1 b2
        go_wp2_with (go_at_call 64; refine (ranged_any _ _ _ _).mono ?_; rintro e w' ⟨rfl, rfl⟩)
        go_ret2
        refine ⟨_, by rw [E1.out]; rfl, X7.out, ?_⟩
        rw [E2.out]
        exact World.ownsRow_nil _ _ _ _
      cases r3 : rg z 0 65535
      · obtain ⟨b1, b2⟩ := BAD.out (by simp [gOk1, r3])
        have E1 := Lib.hid b1
        have E2 := Lib.hid b2
        clear b1 b2
        go_wp2_with (go_at_call 64; refine (ranged_any _ _ _ _).mono ?_; rintro e w' ⟨rfl, rfl⟩)
        go_ret2
        refine ⟨_, by rw [E1.out]; rfl, X7.out, ?_⟩
        rw [E2.out]
        exact World.ownsRow_nil _ _ _ _
      clear BAD
      obtain ⟨x0, x1⟩ := rg_true r1
      obtain ⟨y0, y1⟩ := rg_true r2
      obtain ⟨z0, z1⟩ := rg_true r3
      have HOK := Lib.hid (show gOk1 (x, y, z) = true by simp [gOk1, r1, r2, r3])
      go_wp2_with (go_at_call 64; refine (ranged_any _ _ _ _).mono ?_; rintro e w' ⟨rfl, rfl⟩)
      go_wp2_with fail
      have hrow := lit_rowN (wr.alloc (.cells #[.int .i64 x, .int .i64 y, .int .i64 z] 108)) 3 (ints [x, y, z]) 3 (wr.heap.size + 1) rfl (by simp)
      rw [show ints [x, y, z] = ints ([x.toNat, y.toNat, z.toNat].map fun (q : Nat) => (q : Int)) by simp [Int.toNat_of_nonneg x0, Int.toNat_of_nonneg y0, Int.toNat_of_nonneg z0]] at hrow
      have HN := Lib.hid (numbers_any4 (some ⟨wr.heap.size + 1, 0, none⟩) 3 3 [x.toNat, y.toNat, z.toNat] _ (by omega) hrow (by intro q hq; simp at hq; omega))
      rw [show ints ([x.toNat, y.toNat, z.toNat].map fun (q : Nat) => (q : Int)) = ints [x, y, z] by simp [Int.toNat_of_nonneg x0, Int.toNat_of_nonneg y0, Int.toNat_of_nonneg z0]] at HN
      have B2 := Lib.hid (X7.out.alloc (by simp; omega) (.cells (ints [x, y, z]).toArray 3))
      have O2 := Lib.hid ((X5.out.alloc (.cells #[.int .i64 x, .int .i64 y, .int .i64 z] 108)).alloc (.cells (ints [x, y, z]).toArray 3))
      clear hrow
      refine HN.out.mono ?_
      rintro e w3 ⟨v3, rfl, hb3, ho3⟩
      have B3 := Lib.hid (below_all B2.out B2.out.size hb3)
      have O3 := Lib.hid (own_below O2.out hb3)
      obtain ⟨A3, c3, rfl, hr3, _, _, hA3, _⟩ := own_nums ho3
      have R3 := Lib.hid hr3
      have HA3 := Lib.hid hA3
      have hz3 := B3.out.size
      clear hb3 ho3 hr3 hA3
      go_wp2_with (first
        | (at_builtin
           refine app_n64 _ rfl (.tmp 33) (.tmp 41) rfl w.heap.size u4 (3 * k) (nums (gL (gs.take k))) rfl O3.out A3 3 c3 [x.toNat, y.toNat, z.toNat] rfl HA3.out R3.out (by omega) (by omega) ?_
           intro v' w4 hown4 hg4
           have bel4 := Lib.hid (below_row B3.out hg4 (fun g e => (O3.out.lt g e).1) hz3)
           have own4 := Lib.hid hown4
           clear hown4 hg4)
        | fail)
      go_roundw
      case rel => exact ⟨k + 1, by omega, by go_num, by rw [HA1.out]; exact HOK.out, by
        rw [show 3 * (k + 1) = 3 * k + 3 by omega, HGL.out, nums, List.map_append]; exact own4.out, bel4.out⟩
      case measure => simp [intOf]; omega
    · obtain rfl : k = n := by omega
      have htk : gs.take k = gs := List.take_of_length_le (by rw [HL.out]; exact Nat.le_refl _)
      have hall := X3.out
      have hown := X5.out
      rw [htk] at hall hown
      have hok : gsOk gs = true := by simp [gsOk, hall, HL.out, HG.out]
      have E1 := Lib.hid (show gE gs = 0 by simp [gE, hok])
      have E2 := Lib.hid (show gB gs = sealB 1#32 (packB (gL gs) (gWs k) 256) by simp [gB, hok, HL.out])
      have HLE := Lib.hid (gL_le hall)
      obtain ⟨A4, c4, rfl, hr4, _, _, _, _⟩ := own_nums hown
      have R4 := Lib.hid hr4
      clear htk hall hown hok hr4
      go_wp2_with fail
      refine (gwidths_any k _ (by omega)).mono ?_
      rintro e w5 ⟨v5, rfl, hb5, ho5⟩
      have B5 := Lib.hid (below_all X6.out hsz hb5)
      have R4' := Lib.hid (R4.out.below hb5)
      obtain ⟨A5, c5, rfl, hr5, _, _, _, _⟩ := own_ints ho5
      have R5 := Lib.hid hr5
      clear hb5 ho5 hr5
      go_wp2_with fail
      refine (sealed_lay A4 A5 (3 * k) c4 (3 * k) c5 (gL gs) (gWs k) 1#32 _ (by omega) (fun x hx => by have := HLE.out x hx; omega) R4'.out R5.out).mono ?_
      rintro e w6 ⟨v6, rfl, hb6, ho6⟩
      have B6 := Lib.hid (below_all B5.out B5.out.size hb6)
      have O6 := Lib.hid (own_mono ho6 B5.out.size)
      clear hb6 ho6
      go_wp2_with fail
      go_ret2
      refine ⟨_, by rw [E1.out]; rfl, B6.out, ?_⟩
      rw [E2.out]
      exact O6.out

theorem packGroups_any (A : Option Addr) (n c : Nat) (gs : List Grp) (w : World) (hn : n ≤ 9223372036854775807) (hr : RowAt w A (n * 3) (gcells gs)) :
    Calls Try.prog 27 #[.slice A n c] w fun e w' => ∃ v, e = .returned (.tuple #[v, .int .i64 (gE gs)]) ∧ Below w.heap.size w w' ∧ w'.ownsRow w.heap.size 5 1 v (gB gs).length (bvl (gB gs)) := by
  have hlen : gs.length = n := by have := hr.len; rw [gcells_length] at this; omega
  cases hg : rg (n : Int) 1 14
  · have hok : gsOk gs = false := by simp [gsOk, hlen, hg]
    have e1 : gE gs = 22 := by simp [gE, hok]
    have e2 : gB gs = [] := by simp [gB, hok]
    rw [e1, e2]
    exact (packGroups_no A n c gs w hn hg).mono fun e w' ⟨he, hb⟩ => ⟨_, he, hb, World.ownsRow_nil _ _ _ _⟩
  · exact packGroups_in A n c gs w hr hg
end Go.Proofs.Ytafonjnanfekkaa.Lay
