
/-
  THE WALKS of the document's PackGroups and UnpackGroups.
-/
import Derived.Test.YtafonjnanfekkaaLay7
import Derived.Test.YtafonjnanfekkaaLay5
namespace Go.Proofs.Ytafonjnanfekkaa.Lay
open Go.RowKit Go.Proofs.Ytafonjnanfekkaa.Wire
set_option maxHeartbeats 8000000
set_option maxRecDepth 100000
set_option linter.unusedVariables false
set_option linter.unusedSimpArgs false

/-- Rows of elements of two types never share a block. -/
theorem own_ne {w : World} {base base' s s' n n' : Nat} {t t' : TypeId} {v v' : Value} {xs xs' : List Value} (h : w.ownsRow base t s v n xs) (h' : w.ownsRow base' t' s' v' n' xs') (ht : t ≠ t') : v.ownBlock = none ∨ v.ownBlock ≠ v'.ownBlock := by
  rcases h.2 with ⟨e, _⟩ | ⟨g, cap, cs, e, _, hb, _⟩
  · subst e; exact .inl rfl
  · rcases h'.2 with ⟨e', _⟩ | ⟨g', cap', cs', e', _, hb', _⟩
    · subst e e'; exact .inr (by simp [Value.ownBlock])
    · subst e e'
      refine .inr fun hh => ht ?_
      have hgg : g = g' := by simpa [Value.ownBlock] using hh
      subst hgg
      rw [hb] at hb'
      injection hb' with hb'
      injection hb'

theorem packGroupsR_no (A : Option Addr) (n c : Nat) (w : World) (hn : n ≤ 9223372036854775807) (hr : rg (n : Int) 1 14 = false) :
    Calls Try.prog 28 #[.slice A n c] w fun e w' => e = .returned (.tuple #[.slice none 0 0, .int .i64 22]) ∧ Below w.heap.size w w' := by
  have h : (n : Int) < 1 ∨ ¬ (n : Int) < 1 ∧ (14 : Int) < n := by
    simp [rg] at hr; omega
  clear hr
  rcases h with h | ⟨h, h'⟩
  all_goals
    go_enter Try.func28, Try.ntmps28
    go_wp2_with fail
    go_ret2
    exact ⟨rfl, Below.refl _ _⟩

theorem packGroupsR_in (A : Option Addr) (n c : Nat) (gs : List Grp) (w : World) (hr : RowAt w A (n * 3) (gcells gs)) (hg : rg (n : Int) 1 14 = true) :
    Calls Try.prog 28 #[.slice A n c] w fun e w' => ∃ v, e = .returned (.tuple #[v, .int .i64 (gE gs)]) ∧ Below w.heap.size w w' ∧ w'.ownsRow w.heap.size 5 1 v (gB gs).length (bvl (gB gs)) := by
  have hlen : gs.length = n := by have := hr.len; rw [gcells_length] at this; omega
  obtain ⟨n1, n2⟩ := rg_true hg
  have HG := Lib.hid hg
  have HR := Lib.hid hr
  have HL := Lib.hid hlen
  have d1 : ¬ (n : Int) < 1 := by omega
  have d2 : ¬ (14 : Int) < (n : Int) := by omega
  clear hg hr hlen
  go_enter Try.func28, Try.ntmps28
  go_wp2_with fail
  clear d1 d2
  go_loopw [4, 5, 6] (fun v u i wr => ∃ (k : Nat), k ≤ n ∧ i = .int .i64 k ∧ (gs.take k).all gOk1 = true ∧ wr.ownsRow w.heap.size 84 1 v (3 * k) (nums (gL (gs.take k))) ∧ wr.ownsRow w.heap.size 3 1 u (3 * k) (ints (List.replicate (3 * k) 4)) ∧ Below w.heap.size w wr) (fun _ _ i _ => n - (intOf i).toNat)
  case atStart => exact ⟨0, by omega, rfl, rfl, World.ownsRow_nil _ _ _ _, World.ownsRow_nil _ _ _ _, Below.refl _ _⟩
  case round =>
    obtain ⟨k, hk, rfl, hall, hown, hownw, hbel⟩ := hrel
    have hsz := hbel.size
    have X3 := Lib.hid hall
    have X4 := Lib.hid hownw
    have X5 := Lib.hid hown
    have X6 := Lib.hid hbel
    clear hall hown hbel hownw
    by_cases hlt : k < n
    · obtain ⟨g, hg⟩ : ∃ g, gs[k]? = some g := ⟨_, List.getElem?_eq_getElem (by have := HL.out; omega)⟩
      obtain ⟨a, rfl, hab, hpb, hga⟩ := grp_cells HR.out hg
      obtain ⟨x, y, z⟩ := g
      obtain ⟨f0, f1, f2⟩ := hga.below X6.out hpb
      simp only at f0 f1 f2
      have hsk : ∀ W', Below w.heap.size w W' → W'.cell? (a.add (k * 3)) = some (.int .i64 x) ∧ W'.cell? ⟨(a.add (k * 3)).block, (a.add (k * 3)).off + 1, none⟩ = some (.int .i64 y) ∧ W'.cell? ⟨(a.add (k * 3)).block, (a.add (k * 3)).off + 2, none⟩ = some (.int .i64 z) := fun W' hW => hga.below hW hpb
      have SK := Lib.hid hsk
      have hall1 : (gs.take (k + 1)).all gOk1 = (gOk1 (x, y, z)) := by
        rw [List.take_add_one, hg, List.all_append, X3.out]; simp
      have HA1 := Lib.hid hall1
      have HGL := Lib.hid (show gL (gs.take (k + 1)) = gL (gs.take k) ++ [x.toNat, y.toNat, z.toNat] by rw [List.take_add_one, hg]; exact gL_snoc _ _)
      have HGM := Lib.hid (List.mem_of_getElem? hg)
      have bad : gOk1 (x, y, z) = false → gE gs = 22 ∧ gB gs = [] := fun h => by
        have h1 : gs.all gOk1 = false := List.all_eq_false.2 ⟨_, HGM.out, by simp [h]⟩
        have h2 : gsOk gs = false := by simp [gsOk, h1]
        simp [gE, gB, h2]
      have BAD := Lib.hid bad
      clear hga hg hall1 bad hsk
      cases r1 : rg x 0 65535
      · obtain ⟨b1, b2⟩ := BAD.out (by simp [gOk1, r1])
        have E1 := Lib.hid b1
        have E2 := Lib.hid b2
        clear b1 b2
        go_wp2_with (go_at_call 75; refine (within_any _ _ _ _).mono ?_; rintro e w' ⟨rfl, rfl⟩)
        go_ret2
        refine ⟨_, by rw [E1.out]; rfl, X6.out, ?_⟩
        rw [E2.out]
        exact World.ownsRow_nil _ _ _ _
      cases r2 : rg y 0 65535
      · obtain ⟨b1, b2⟩ := BAD.out (by simp [gOk1, r2])
        have E1 := Lib.hid b1
        have E2 := Lib.hid b2
        clear b1 b2
        go_wp2_with (go_at_call 75; refine (within_any _ _ _ _).mono ?_; rintro e w' ⟨rfl, rfl⟩)
        go_ret2
        refine ⟨_, by rw [E1.out]; rfl, X6.out, ?_⟩
        rw [E2.out]
        exact World.ownsRow_nil _ _ _ _
      cases r3 : rg z 0 65535
      · obtain ⟨b1, b2⟩ := BAD.out (by simp [gOk1, r3])
        have E1 := Lib.hid b1
        have E2 := Lib.hid b2
        clear b1 b2
        go_wp2_with (go_at_call 75; refine (within_any _ _ _ _).mono ?_; rintro e w' ⟨rfl, rfl⟩)
        go_ret2
        refine ⟨_, by rw [E1.out]; rfl, X6.out, ?_⟩
        rw [E2.out]
        exact World.ownsRow_nil _ _ _ _
      clear BAD
      obtain ⟨x0, x1⟩ := rg_true r1
      obtain ⟨y0, y1⟩ := rg_true r2
      obtain ⟨z0, z1⟩ := rg_true r3
      have HOK := Lib.hid (show gOk1 (x, y, z) = true by simp [gOk1, r1, r2, r3])
      go_wp2_with (go_at_call 75; refine (within_any _ _ _ _).mono ?_; rintro e w' ⟨rfl, rfl⟩)
      have hk0 : (0 : Int) ≤ (k : Int) := by omega
      have hkn : (k : Int) < (n : Int) := by omega
      have wx : IntKind.u64.wrap x = x := by rw [IntKind.wrap_u64]; omega
      have wy : IntKind.u64.wrap y = y := by rw [IntKind.wrap_u64]; omega
      have wz : IntKind.u64.wrap z = z := by rw [IntKind.wrap_u64]; omega
      refine region_mix [true, true, true, true, true, true, true, true, true, true, true, true, true, true, true, true, true, true, true, false, false] (S := fun W' => W'.cell? (a.add (k * 3)) = some (.int .i64 x) ∧ W'.cell? ⟨(a.add (k * 3)).block, (a.add (k * 3)).off + 1, none⟩ = some (.int .i64 y) ∧ W'.cell? ⟨(a.add (k * 3)).block, (a.add (k * 3)).off + 2, none⟩ = some (.int .i64 z)) (by kernel_rfl) (by kernel_rfl) (fun _ _ d _ _ h => by cases d <;> exact h) (SK.out _ X6.out.drew) ?_
      clear f0 f1 f2
      iterate 19 (refine mix_take (v := ?_) (by kernel_rfl) ?_ (fun K hK => ?_); rotate_left; (· (intro w' hSw; (try dsimp only at hSw); go_simp; with_reducible rfl)); simp only [Act.put, List.setIfInBounds_toArray, List.set_cons_zero, List.set_cons_succ]; refine hK _ ?_; clear hK K)
      refine mix_do (E := False) (fun K hK => ?_) (by kernel_rfl)
      go_simp
      clear wx wy wz
      have hnum : nums [x.toNat, y.toNat, z.toNat] = [.int .u64 x, .int .u64 y, .int .u64 z] := by simp [nums, Int.toNat_of_nonneg x0, Int.toNat_of_nonneg y0, Int.toNat_of_nonneg z0]
      have B7 := Lib.hid (X6.out.alloc hsz (.cells #[.int .u64 x, .int .u64 y, .int .u64 z] 84)).drew
      have O7 := Lib.hid (show (wr.alloc (.cells #[.int .u64 x, .int .u64 y, .int .u64 z] 84)).drew.ownsRow w.heap.size 84 1 u4 (3 * k) (nums (gL (gs.take k))) from X5.out.alloc _)
      have P7 := Lib.hid (show (wr.alloc (.cells #[.int .u64 x, .int .u64 y, .int .u64 z] 84)).drew.ownsRow w.heap.size 3 1 u5 (3 * k) (ints (List.replicate (3 * k) 4)) from X4.out.alloc _)
      have L7 := Lib.hid (show RowAt (wr.alloc (.cells #[.int .u64 x, .int .u64 y, .int .u64 z] 84)).drew (some ⟨wr.heap.size, 0, none⟩) (3 * 1) (nums [x.toNat, y.toNat, z.toNat]) by rw [hnum]; exact lit_rowN wr 84 [.int .u64 x, .int .u64 y, .int .u64 z] 3 wr.heap.size rfl rfl)
      clear hnum
      refine hK.out _ _ (SK.out _ B7.out) ?_
      clear hK K
      try simp only [Act.put, List.setIfInBounds_toArray, List.set_cons_zero, List.set_cons_succ]
      refine mix_do (E := False) (fun K hK => ?_) (by kernel_rfl)
      refine step_app_gen _ 22 84 (.int .u64 0) 1 8 Try.underlying22 infoU64 rfl (by decide) rfl (.tmp 48) (.tmp 67) rfl w.heap.size u4 (3 * k) (nums (gL (gs.take k))) rfl O7.out ⟨wr.heap.size, 0, none⟩ 3 3 (nums [x.toNat, y.toNat, z.toNat]) rfl L7.out (one_nums _) (by unfold maxLen; omega) (by omega) (by simp; omega) ?_
      intro v' w4 hown4 hg4
      have B8 := Lib.hid (below_row B7.out hg4 (fun g e => (O7.out.lt g e).1) (by simp; omega))
      have own4 := Lib.hid hown4
      have P8 := Lib.hid (P7.out.kept hg4 (own_ne P7.out O7.out (by decide)))
      clear hown4 hg4
      refine hK.out _ _ (SK.out _ B8.out) ?_
      clear hK K
      try simp only [Act.put, List.setIfInBounds_toArray, List.set_cons_zero, List.set_cons_succ]
      refine mix_still ?_
      iterate 1 (refine still_take (v := ?_) (by kernel_rfl) ?_ (fun K hK => ?_); rotate_left; (· (go_simp; with_reducible rfl)); simp only [Act.put, List.setIfInBounds_toArray, List.set_cons_zero, List.set_cons_succ]; refine hK _ ?_; clear hK K)
      refine still_end ?_
      have hz8 := B8.out.size
      have XL := Lib.hid (lit_rowN w4 3 (ints [4, 4, 4]) 3 w4.heap.size rfl rfl)
      have P9 := Lib.hid (P8.out.alloc (.cells (ints [4, 4, 4]).toArray 3))
      have own9 := Lib.hid (own4.out.alloc (.cells (ints [4, 4, 4]).toArray 3))
      go_wp2_with (first
        | (at_builtin
           refine app_i64 _ rfl (.tmp 69) (.tmp 70) rfl w.heap.size u5 (3 * k) (ints (List.replicate (3 * k) 4)) rfl P9.out (some ⟨w4.heap.size, 0, none⟩) 3 3 [4, 4, 4] rfl (fun e => by cases e) XL.out (by omega) (by simp; omega) ?_
           intro v5 w5 hown5 hg5
           have bel5 := Lib.hid (below_row (B8.out.alloc hz8 (.cells (ints [4, 4, 4]).toArray 3)) hg5 (fun g e => (P9.out.lt g e).1) (by simp; omega))
           have own5 := Lib.hid hown5
           have own6 := Lib.hid (own9.out.kept hg5 (own_ne own9.out P9.out (by decide)))
           clear hown5 hg5)
        | fail)
      go_roundw
      case rel => exact ⟨k + 1, by omega, by go_num, by rw [HA1.out]; exact HOK.out, by
        rw [show 3 * (k + 1) = 3 * k + 3 by omega, HGL.out, nums, List.map_append]; exact own6.out, by rw [show 3 * (k + 1) = 3 * k + 3 by omega, rep3]; exact own5.out, bel5.out⟩
      case measure => simp [intOf]; omega
    · obtain rfl : k = n := by omega
      have htk : gs.take k = gs := List.take_of_length_le (by rw [HL.out]; exact Nat.le_refl _)
      have hall := X3.out
      have hown := X5.out
      rw [htk] at hall hown
      have hok : gsOk gs = true := by simp [gsOk, hall, HL.out, HG.out]
      have E1 := Lib.hid (show gE gs = 0 by simp [gE, hok])
      have E2 := Lib.hid (show gB gs = sealB 1#32 (packB (gL gs) (gWs k) 256) by simp [gB, hok, HL.out])
      have HLE := Lib.hid (gL_le hall)
      obtain ⟨A4, c4, rfl, hr4, _, _, _, _⟩ := own_nums hown
      obtain ⟨A5, c5, rfl, hr5, _, _, _, _⟩ := own_ints X4.out
      obtain ⟨pb, hpb⟩ : ∃ pb, packB (gL gs) (gWs k) 256 = pb := ⟨_, rfl⟩
      obtain ⟨np, hpn⟩ : ∃ n, pb.length = n := ⟨_, rfl⟩
      have hP := ref_pack_any A4 A5 (3 * k) c4 (3 * k) c5 (gL gs) (gWs k) 256 wr (by omega) (fun x hx => by have := HLE.out x hx; omega) hr4 hr5
      rw [hpb, hpn] at hP
      have HP := Lib.hid hP
      have HPL := Lib.hid (sealB_length 1#32 pb)
      have HPB := Lib.hid hpb
      have HN := Lib.hid hpn
      generalize packE (gL gs) (gWs k) 256 = pe at HP
      clear htk hall hown hok hr4 hr5 hP hpb hpn
      go_wp2_with fail
      refine HP.out.mono ?_
      rintro e w5 ⟨v5, rfl, hb5, ho5⟩
      have B5 := Lib.hid (below_all X6.out hsz hb5)
      obtain ⟨A6, c6, rfl, _, _, _, _, _⟩ := own_slice ho5
      have O5 := Lib.hid (own_mono ho5 hsz)
      clear hb5 ho5
      have HS := Lib.hid (ref_seal_row w.heap.size np c6 A6 pb 1#32 w5 HN.out O5.out)
      go_wp2_with fail
      refine HS.out.mono ?_
      rintro e w6 ⟨rfl, ho6, hg6⟩
      have O6 := Lib.hid ho6
      have B6 := Lib.hid (below_own O5.out B5.out (Nat.le_refl _) hg6)
      clear ho6 hg6
      go_wp2_with fail
      go_ret2
      refine ⟨_, by rw [E1.out]; rfl, B6.out, ?_⟩
      rw [E2.out, HPB.out, HPL.out, HN.out]
      exact O6.out

theorem packGroupsR_any (A : Option Addr) (n c : Nat) (gs : List Grp) (w : World) (hn : n ≤ 9223372036854775807) (hr : RowAt w A (n * 3) (gcells gs)) :
    Calls Try.prog 28 #[.slice A n c] w fun e w' => ∃ v, e = .returned (.tuple #[v, .int .i64 (gE gs)]) ∧ Below w.heap.size w w' ∧ w'.ownsRow w.heap.size 5 1 v (gB gs).length (bvl (gB gs)) := by
  have hlen : gs.length = n := by have := hr.len; rw [gcells_length] at this; omega
  cases hg : rg (n : Int) 1 14
  · have hok : gsOk gs = false := by simp [gsOk, hlen, hg]
    have e1 : gE gs = 22 := by simp [gE, hok]
    have e2 : gB gs = [] := by simp [gB, hok]
    rw [e1, e2]
    exact (packGroupsR_no A n c w hn hg).mono fun e w' ⟨he, hb⟩ => ⟨_, he, hb, World.ownsRow_nil _ _ _ _⟩
  · exact packGroupsR_in A n c gs w hr hg
end Go.Proofs.Ytafonjnanfekkaa.Lay
