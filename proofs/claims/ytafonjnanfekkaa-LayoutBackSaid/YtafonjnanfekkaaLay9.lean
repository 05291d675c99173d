
/-
  THE WALKS of the document's UnpackGroups, of the law's sameGroups, of LayoutGroups.
-/
import Derived.Test.YtafonjnanfekkaaLay8
import Derived.Test.YtafonjnanfekkaaLayP
import Derived.Test.YtafonjnanfekkaaI2
import Derived.Laws.StructEq
namespace Go.Proofs.Ytafonjnanfekkaa.Lay
open Go.RowKit Go.Proofs.Ytafonjnanfekkaa.Wire
set_option maxHeartbeats 8000000
set_option maxRecDepth 100000
set_option linter.unusedVariables false
set_option linter.unusedSimpArgs false

theorem number_ref2 (A : Option Addr) (len cap : Nat) (p n : Int) (bs : List UInt8) (w : World) (hl : len ≤ cap) (hc : cap ≤ 9223372036854775807) (hb : BytesAt w A len bs) (hn : n ≤ 4) :
    Calls Try.prog 73 #[.slice A len cap, .int .i64 p, .int .i64 n] w fun e w' => e = .returned (.int .i64 (uf bs p n)) ∧ w = w' :=
  (number_ref A len cap p n bs w hl hc hb hn).mono fun _ _ ⟨he, hw⟩ => ⟨he, hw.symm⟩
theorem unpackGroupsR_in (A : Option Addr) (len cap : Nat) (m : Nat) (bs : List UInt8) (w : World) (hl : len ≤ cap) (hc : cap ≤ 9223372036854775807) (hb : BytesAt w A len bs) (hg : rg (m : Int) 1 14 = true) :
    Calls Try.prog 30 #[.slice A len cap, .int .i64 (m : Int)] w fun e w' => ∃ v, e = .returned (.tuple #[v, .int .i64 (ugE bs m)]) ∧ Below w.heap.size w w' ∧ w'.ownsRow w.heap.size 108 3 v (ugX bs m).length (gcells (ugX bs m)) := by
  obtain ⟨n1, n2⟩ := rg_true hg
  have HG := Lib.hid hg
  have HB := Lib.hid hb
  have d1 : ¬ (m : Int) < 1 := by omega
  have d2 : ¬ (14 : Int) < (m : Int) := by omega
  have hbl := hb.len
  clear hg hb
  by_cases h256 : len = 256
  · have HLN := Lib.hid h256
    have d3 : ((len : Int) != 256) = false := by simp [h256]
    have hl5 : len ≤ 1000 := by omega
    clear h256 hbl
    go_enter Try.func30, Try.ntmps30
    go_wp2_with fail
    clear d1 d2 d3
    go_loopw [6, 7] (fun v i wr => ∃ (k : Nat), k ≤ m ∧ i = .int .i64 k ∧ wr.ownsRow w.heap.size 108 3 v k (gcells ((ugs bs m).take k)) ∧ Below w.heap.size w wr) (fun _ i _ => m - (intOf i).toNat)
    case atStart => exact ⟨0, by omega, rfl, World.ownsRow_nil _ _ _ _, Below.refl _ _⟩
    case round =>
      obtain ⟨k, hk, rfl, hown, hbel⟩ := hrel
      have hsz := hbel.size
      have X5 := Lib.hid hown
      have X6 := Lib.hid hbel
      clear hown hbel
      by_cases hlt : k < m
      · have hat := ugs_at (bs := bs) hlt
        have HTK := Lib.hid (show (ugs bs m).take (k + 1) = (ugs bs m).take k ++ [(uf bs (12 * (k : Int)) 4, uf bs (12 * (k : Int) + 4) 4, uf bs (12 * (k : Int) + 8) 4)] by rw [List.take_add_one, hat]; rfl)
        have B7 := Lib.hid (X6.out.alloc hsz (.cells (gcells [(uf bs (12 * (k : Int)) 4, uf bs (12 * (k : Int) + 4) 4, uf bs (12 * (k : Int) + 8) 4)]).toArray 108))
        have O7 := Lib.hid (X5.out.alloc (.cells (gcells [(uf bs (12 * (k : Int)) 4, uf bs (12 * (k : Int) + 4) 4, uf bs (12 * (k : Int) + 8) 4)]).toArray 108))
        have L7 := Lib.hid (show RowAt (wr.alloc (.cells (gcells [(uf bs (12 * (k : Int)) 4, uf bs (12 * (k : Int) + 4) 4, uf bs (12 * (k : Int) + 8) 4)]).toArray 108)) (some ⟨wr.heap.size, 0, none⟩) (1 * 3) (gcells [(uf bs (12 * (k : Int)) 4, uf bs (12 * (k : Int) + 4) 4, uf bs (12 * (k : Int) + 8) 4)]) from lit_rowN wr 108 _ 3 wr.heap.size rfl rfl)
        clear hat
        go_wp2_with (first
          | (go_at_call 73; refine (number_ref2 A len cap _ 4 bs wr hl hc (HB.out.below X6.out) (by omega)).mono ?_; rintro e w' ⟨rfl, rfl⟩)
          | (at_builtin
             refine app_gen _ 45 108 (.agg #[.int .i64 0, .int .i64 0, .int .i64 0]) 3 24 Try.underlying45 infoGrp rfl (by decide) rfl (.tmp 24) (.tmp 40) rfl w.heap.size u6 k (gcells ((ugs bs m).take k)) rfl O7.out (some ⟨wr.heap.size, 0, none⟩) 1 1 (gcells [(uf bs (12 * (k : Int)) 4, uf bs (12 * (k : Int) + 4) 4, uf bs (12 * (k : Int) + 8) 4)]) rfl (fun e => by cases e) L7.out (one_gcells _) (by unfold maxLen; omega) (by omega) (by simp; omega) ?_
             intro v' w4 hown4 hg4
             have B8 := Lib.hid (below_row B7.out hg4 (fun g e => (O7.out.lt g e).1) (by simp; omega))
             have own4 := Lib.hid hown4
             clear hown4 hg4)
          | fail)
        go_roundw
        case rel => exact ⟨k + 1, by omega, by go_num, by rw [HTK.out, gcells_snoc]; exact own4.out, B8.out⟩
        case measure => simp [intOf]; omega
      · obtain rfl : k = m := by omega
        have htk : (ugs bs k).take k = ugs bs k := List.take_of_length_le (by rw [ugs_length]; exact Nat.le_refl _)
        have hown := X5.out
        rw [htk] at hown
        have OW := Lib.hid hown
        obtain ⟨A4, c4, rfl, hr4, _, hm4, _, _⟩ := own_sliceN hown
        have R4 := Lib.hid hr4
        have HB9 := Lib.hid (HB.out.below X6.out)
        clear htk hown hr4
        have hP := packGroupsR_any A4 k c4 (ugs bs k) wr (by omega) R4.out
        have HP := Lib.hid hP
        clear hP
        cases hu : gsOk (ugs bs k)
        · have e1 : gE (ugs bs k) = 22 := by simp [gE, hu]
          have huo : ugOk bs k = false := by simp [ugOk, hu]
          have E1 := Lib.hid e1
          have HE := Lib.hid (show ugE bs k = 117 by simp [ugE, huo, HG.out])
          have HX := Lib.hid (show ugX bs k = [] by simp [ugX, huo])
          clear e1 huo hu
          go_wp2_with fail
          refine HP.out.mono ?_
          rintro e w5 ⟨v5, rfl, hb5, ho5⟩
          rw [E1.out]
          have B10 := Lib.hid (below_all X6.out hsz hb5)
          clear hb5 ho5
          go_wp2_with fail
          go_ret2
          refine ⟨_, by rw [HE.out]; rfl, B10.out, ?_⟩
          rw [HX.out]
          exact World.ownsRow_nil _ _ _ _
        · have e1 : gE (ugs bs k) = 0 := by simp [gE, hu]
          have hgl := gB_len hu
          have HGL := Lib.hid hgl
          have E1 := Lib.hid e1
          clear e1 hgl
          cases hq : (bs == gB (ugs bs k))
          · have huo : ugOk bs k = false := by simp only [ugOk, Int.toNat_natCast, hu, hq, Bool.and_false]
            have HE := Lib.hid (show ugE bs k = 117 by simp [ugE, huo, HG.out])
            have HX := Lib.hid (show ugX bs k = [] by simp [ugX, huo])
            have HQ := Lib.hid hq
            clear huo hu hq
            go_wp2_with fail
            refine HP.out.mono ?_
            rintro e w5 ⟨v5, rfl, hb5, ho5⟩
            rw [E1.out]
            have B10 := Lib.hid (below_all X6.out hsz hb5)
            obtain ⟨A6, c6, rfl, hr6, _, _, _, _⟩ := own_slice ho5
            have R6 := Lib.hid hr6
            have HB10 := Lib.hid (HB9.out.below hb5)
            clear hb5 ho5 hr6
            go_wp2_with fail
            refine (same_any A A6 len _ cap c6 bs _ w5 (by omega) HB10.out R6.out).mono ?_
            rintro e w' ⟨rfl, nn, rfl⟩
            rw [HQ.out]
            go_wp2_with fail
            go_ret2
            refine ⟨_, by rw [HE.out]; rfl, below_drewN B10.out nn, ?_⟩
            rw [HX.out]
            exact World.ownsRow_nil _ _ _ _
          · have huo : ugOk bs k = true := by simp only [ugOk, Int.toNat_natCast, hu, hq, HG.out]; rfl
            have HE := Lib.hid (show ugE bs k = 0 by simp [ugE, huo, HG.out])
            have HX := Lib.hid (show ugX bs k = ugs bs k by simp [ugX, huo])
            have HQ := Lib.hid hq
            clear huo hu hq
            go_wp2_with fail
            refine HP.out.mono ?_
            rintro e w5 ⟨v5, rfl, hb5, ho5⟩
            rw [E1.out]
            have B10 := Lib.hid (below_all X6.out hsz hb5)
            have OW5 := Lib.hid (own_belowN OW.out hb5)
            obtain ⟨A6, c6, rfl, hr6, _, _, _, _⟩ := own_slice ho5
            have R6 := Lib.hid hr6
            have HB10 := Lib.hid (HB9.out.below hb5)
            clear hb5 ho5 hr6
            go_wp2_with fail
            refine (same_any A A6 len _ cap c6 bs _ w5 (by omega) HB10.out R6.out).mono ?_
            rintro e w' ⟨rfl, nn, rfl⟩
            rw [HQ.out]
            go_wp2_with fail
            go_ret2
            refine ⟨_, by rw [HE.out]; rfl, below_drewN B10.out nn, ?_⟩
            rw [HX.out, ugs_length]
            exact OW5.out
  · have huo : ugOk bs m = false := by
      cases h : ugOk bs m
      · rfl
      · have := ugOk_len h; omega
    have HE := Lib.hid (show ugE bs m = 117 by simp [ugE, huo, HG.out])
    have HX := Lib.hid (show ugX bs m = [] by simp [ugX, huo])
    have d3 : ((len : Int) != 256) = true := by simp; omega
    clear h256 hbl huo
    go_enter Try.func30, Try.ntmps30
    go_wp2_with fail
    go_ret2
    refine ⟨_, by rw [HE.out]; rfl, Below.refl _ _, ?_⟩
    rw [HX.out]
    exact World.ownsRow_nil _ _ _ _

theorem unpackGroupsR_any (A : Option Addr) (len cap : Nat) (n : Int) (bs : List UInt8) (w : World) (hl : len ≤ cap) (hc : cap ≤ 9223372036854775807) (hb : BytesAt w A len bs) :
    Calls Try.prog 30 #[.slice A len cap, .int .i64 n] w fun e w' => ∃ v, e = .returned (.tuple #[v, .int .i64 (ugE bs n)]) ∧ Below w.heap.size w w' ∧ w'.ownsRow w.heap.size 108 3 v (ugX bs n).length (gcells (ugX bs n)) := by
  cases hg : rg n 1 14
  · have e1 : ugE bs n = 22 := by simp [ugE, hg]
    have e2 : ugX bs n = [] := by simp [ugX, ugOk, hg]
    have h : n < 1 ∨ ¬ n < 1 ∧ (14 : Int) < n := by simp [rg] at hg; omega
    have E1 := Lib.hid e1
    have E2 := Lib.hid e2
    clear e1 e2 hg hb
    rcases h with h | ⟨h, h'⟩
    all_goals
      go_enter Try.func30, Try.ntmps30
      go_wp2_with fail
      go_ret2
      refine ⟨_, by rw [E1.out]; rfl, Below.refl _ _, ?_⟩
      rw [E2.out]
      exact World.ownsRow_nil _ _ _ _
  · obtain ⟨m, rfl⟩ := Int.eq_ofNat_of_zero_le (show 0 ≤ n by have := rg_true hg; omega)
    exact unpackGroupsR_in A len cap m bs w hl hc hb hg

theorem grp_neq (x y z : Int) (w : World) : (binOp .neq 108 (.agg #[.int .i64 x, .int .i64 y, .int .i64 z]) (.agg #[.int .i64 x, .int .i64 y, .int .i64 z])).run Try.prog w = .ok (.bool false) w := by
  simp [go_sem]
theorem sameGroups_any (A B : Option Addr) (n ca cb : Nat) (gs : List Grp) (w : World) (hn : n ≤ 1125899906842624) (ha : RowAt w A (n * 3) (gcells gs)) (hb : RowAt w B (n * 3) (gcells gs)) :
    Calls Try.prog 31 #[.slice A n ca, .slice B n cb] w fun e w' => e = .returned (.bool true) ∧ ∃ k, w' = w.drewN k := by
  have hlen : gs.length = n := by have := ha.len; rw [gcells_length] at this; omega
  have HA := Lib.hid ha
  have HB := Lib.hid hb
  have HL := Lib.hid hlen
  have hnn : ((n : Int) != (n : Int)) = false := by simp
  clear ha hb hlen
  go_enter Try.func31, Try.ntmps31
  go_wp2_with fail
  go_loopw [5] (fun i wr => ∃ k : Nat, k ≤ n ∧ i = .int .i64 k ∧ ∃ q, wr = w.drewN q) (fun i _ => n - (intOf i).toNat)
  case atStart => exact ⟨0, by omega, rfl, 0, rfl⟩
  case round =>
    obtain ⟨k, hk, rfl, q, rfl⟩ := hrel
    by_cases hlt : k < n
    · obtain ⟨g, hg⟩ : ∃ g, gs[k]? = some g := ⟨_, List.getElem?_eq_getElem (by have := HL.out; omega)⟩
      obtain ⟨a, rfl, _, _, hga⟩ := grp_cells HA.out hg
      obtain ⟨b, rfl, _, _, hgb⟩ := grp_cells HB.out hg
      obtain ⟨x, y, z⟩ := g
      obtain ⟨f0, f1, f2⟩ := hga
      obtain ⟨h0, h1, h2⟩ := hgb
      simp only at f0 f1 f2 h0 h1 h2
      have heq := grp_neq x y z
      have hk0 : (0 : Int) ≤ (k : Int) := by omega
      have hkn : (k : Int) < (n : Int) := by omega
      clear hg
      go_wp2_with fail
      refine region_still (by kernel_rfl) (by kernel_rfl) ?_
      iterate 9 (refine still_take (v := ?_) (by kernel_rfl) ?_ (fun K hK => ?_); rotate_left; (· (go_simp; with_reducible rfl)); simp only [Act.put, List.setIfInBounds_toArray, List.set_cons_zero, List.set_cons_succ]; refine hK _ ?_; clear hK K)
      refine still_end ?_
      go_wp2_with fail
      go_roundw
      case rel => exact ⟨k + 1, by omega, by go_num, q + 1, rfl⟩
      case measure => simp [intOf]; omega
    · obtain rfl : k = n := by omega
      go_wp2_with fail
      go_ret
      exact ⟨rfl, q, rfl⟩
end Go.Proofs.Ytafonjnanfekkaa.Lay
