
/-
  THE WALK of WireBack.
-/
import Derived.Test.YtafonjnanfekkaaBackP
import Derived.Test.YtafonjnanfekkaaLSeals
import Derived.StillTailTactics
namespace Go.Proofs.Ytafonjnanfekkaa.Wire
open Go.RowKit
set_option maxHeartbeats 8000000
set_option maxRecDepth 100000
set_option linter.unusedVariables false
set_option linter.unusedSimpArgs false

theorem and_low (b : Int) : ∃ A : Nat, bits .and .i64 b 16777215 = (A : Int) ∧ A ≤ 16777215 := by
  refine ⟨(BitVec.ofInt 64 b &&& BitVec.ofInt 64 16777215).toNat, ?_, ?_⟩
  · have h : (BitVec.ofInt 64 b &&& BitVec.ofInt 64 16777215).toNat ≤ 16777215 := by
      rw [BitVec.toNat_and]; exact Nat.and_le_right
    show IntKind.i64.wrap ((BitVec.ofInt 64 b &&& BitVec.ofInt 64 16777215).toNat : Int) = _
    rw [IntKind.wrap_i64]; omega
  · rw [BitVec.toNat_and]; exact Nat.and_le_right
theorem bit_place (b : Int) (z : Nat) : ∃ t : Nat, (bits .and .i64 b 16777215).tmod (8 * ((z : Int) + 4)) = (t : Int) ∧ t < 8 * (z + 4) := by
  obtain ⟨A, hA, _⟩ := and_low b
  refine ⟨A % (8 * (z + 4)), ?_, Nat.mod_lt _ (by omega)⟩
  rw [hA, Int.tmod_eq_emod_of_nonneg (by omega)]; simp

theorem wireBack_run (A0 A1 : Option Addr) (n0 c0 n1 c1 : Nat) (l : List Nat) (ws : List Int) (s : BitVec 32) (bit : Int) (W : World) (hn0 : n0 ≤ 17592186044415) (hn : n1 ≤ 17592186044415) (h64 : ∀ x ∈ l, x < 18446744073709551616)
    (hz64 : ∀ z ∈ ws, -9223372036854775808 ≤ z ∧ z ≤ 9223372036854775807) (hl : RowAt W A0 n0 (nums l)) (hr : RowAt W A1 n1 (ints ws)) :
    Calls Try.prog 3 #[.slice A0 n0 c0, .slice A1 n1 c1, .int .u32 (s.toNat : Int), .int .i64 bit] W fun e w' => e = .returned (.bool true) ∧ Below W.heap.size W w' := by
  have hlw : ws.length = n1 := by have := hr.len; simpa [ints] using this
  have hll : l.length = n0 := by have := hl.len; simpa [nums] using this
  have HL := Lib.hid hl
  have HR := Lib.hid hr
  have H64 := Lib.hid h64
  have HZ := Lib.hid hz64
  have HLW := Lib.hid hlw
  have HLL := Lib.hid hll
  clear hl hr h64 hz64 hlw hll
  go_enter Try.func3, Try.ntmps3
  go_wp2_with fail
  refine (awake_true _).mono ?_
  rintro e w1 ⟨rfl, hb1⟩
  have B1 := Lib.hid hb1
  clear hb1
  go_wp2_with fail
  go_loop [10, 11] (fun x i => ∃ (k z : Nat), k ≤ n1 ∧ i = .int .i64 k ∧ x = .int .i64 (z : Int) ∧ z ≤ 4105 ∧ (z : Int) = csum (ws.take k)) (fun _ i => n1 - (intOf i).toNat)
  case atStart => exact ⟨0, 0, by omega, rfl, rfl, by omega, rfl⟩
  case round =>
    obtain ⟨k, z, hk, rfl, rfl, hz5, hcs⟩ := hrel
    have HCS := Lib.hid hcs
    clear hcs
    by_cases hlt : k < n1
    · by_cases hz4 : z ≤ 4096
      · obtain ⟨aw, y, rfl, hy, hcy⟩ := (HR.out.below B1.out).int_at hlt
        obtain ⟨y1, y2⟩ := HZ.out y (List.mem_of_getElem? hy)
        have hsucc := csum_succ hy
        obtain ⟨q0, q1⟩ := clamp_bounds y
        obtain ⟨cw, hcw⟩ := Int.eq_ofNat_of_zero_le q0
        have HSU := Lib.hid hsucc
        have hq : max 0 (min y 9) = (cw : Int) := hcw
        have HCW := Lib.hid hcw
        have d4 : decide ((z : Int) ≤ 4096) = true := by simp; omega
        clear hy hsucc hcw
        go_wp2_with fail
        go_round
        case rel => exact ⟨k + 1, z + cw, by omega, by go_num, by go_num, by omega, by rw [HSU.out, ← HCS.out, HCW.out]; omega⟩
        case measure => simp [intOf]; omega
      · have hno : (packE l ws (z : Int) = 22 ∨ packE l ws (z : Int) = 34) ∧ packB l ws (z : Int) = [] := by
          rcases packE_cases l ws (z : Int) with h | h
          · omega
          · exact h
        have HNO := Lib.hid hno
        have d4 : decide ((z : Int) ≤ 4096) = false := by simp; omega
        clear hno
        have H22 := HNO.out
        go_wp2_with fail
        refine (pack_any A0 A1 n0 c0 n1 c1 l ws (z : Int) _ (by omega) H64.out (HL.out.below B1.out) (HR.out.below B1.out)).mono ?_
        rintro e w2 ⟨v, rfl, hb2, ho2⟩
        have B2 := Lib.hid (below_all B1.out B1.out.size hb2)
        rw [H22.2] at ho2
        obtain ⟨A4, c4, rfl, _, hc4, hm4, _, _⟩ := own_slice (n := 0) ho2
        clear hb2 ho2 hm4
        rcases H22.1 with e22 | e22
        all_goals
          rw [e22]
          clear H22 e22
          go_wp2_with fail
          go_ret
          exact ⟨rfl, B2.out⟩
    · obtain rfl : k = n1 := by omega
      have hcz : (z : Int) = csum ws := by have := HCS.out; rwa [List.take_of_length_le (by have := HLW.out; omega)] at this
      rcases packE_cases l ws (z : Int) with ⟨p0, hw, _, hz4⟩ | hno
      rotate_left
      · have HNO := Lib.hid hno
        clear hno hcz
        have H22 := HNO.out
        go_wp2_with fail
        refine (pack_any A0 A1 n0 c0 k c1 l ws (z : Int) _ (by omega) H64.out (HL.out.below B1.out) (HR.out.below B1.out)).mono ?_
        rintro e w2 ⟨v, rfl, hb2, ho2⟩
        have B2 := Lib.hid (below_all B1.out B1.out.size hb2)
        rw [H22.2] at ho2
        obtain ⟨A4, c4, rfl, _, hc4, hm4, _, _⟩ := own_slice (n := 0) ho2
        clear hb2 ho2 hm4
        rcases H22.1 with e22 | e22
        all_goals
          rw [e22]
          clear H22 e22
          go_wp2_with fail
          go_ret
          exact ⟨rfl, B2.out⟩
      · have hzs : (z : Int) = ws.sum := by rw [hcz, csum_wok hw]
        obtain ⟨q1, q2, q3, _, _, _⟩ := back_pack p0 hzs
        rw [Int.toNat_natCast] at q1
        have P0 := Lib.hid p0
        have Q2 := Lib.hid q2
        have Q3 := Lib.hid q3
        clear p0 q2 q3 hzs hcz hw
        go_wp2_with fail
        refine (pack_any A0 A1 n0 c0 k c1 l ws (z : Int) _ (by omega) H64.out (HL.out.below B1.out) (HR.out.below B1.out)).mono ?_
        rintro e w2 ⟨v, rfl, hb2, ho2⟩
        rw [P0.out]
        have hue : unpackE (packB l ws (z : Int)) ws = 0 := by rw [unpackE, if_pos Q2.out]
        generalize packB l ws (z : Int) = pb at *
        rw [q1] at ho2
        have Q1 := Lib.hid q1
        have UE := Lib.hid hue
        have B2 := Lib.hid (below_all B1.out B1.out.size hb2)
        have O2 := Lib.hid ho2
        obtain ⟨A4, c4, rfl, hby, hc4, hm4, _, _⟩ := own_slice ho2
        have hc64 : c4 ≤ 9223372036854775807 := by unfold maxLen at hm4; omega
        have BY := Lib.hid hby
        have hs12 := hb2.size
        clear hb2 ho2 hm4 hby q1 hue
        go_wp2_with fail
        refine (unpack_any A1 A4 k c1 z c4 ws pb _ hn hc4 hc64 (HR.out.below B2.out) BY.out).mono ?_
        rintro e w3 ⟨v, rfl, hb3, ho3⟩
        rw [Q3.out, HLL.out] at ho3
        rw [UE.out]
        have B3 := Lib.hid (below_all B2.out B2.out.size hb3)
        have O3 := Lib.hid (own_below O2.out hb3)
        obtain ⟨A5, c5, rfl, hrow, hc5, hm5, _⟩ := own_slice64 ho3
        have RW := Lib.hid hrow
        have hs23 := hb3.size
        clear hb3 ho3 hrow hm5 O2 BY
        go_wp2_with fail
        refine (numbers_any _ _ n0 n0 c5 c0 l l _ (by omega) RW.out (HL.out.below B3.out)).mono ?_
        rintro e w4 ⟨rfl, q, rfl⟩
        rw [show (l == l) = true by simp]
        have hlit := lit_bytes (w3.drewN q) [0, 0, 0, 0] 4 rfl (by unfold maxLen; omega)
        have LIT := Lib.hid hlit
        have O4 := Lib.hid ((show (w3.drewN q).ownsRow w1.heap.size 5 1 (.slice A4 z c4) z (bvl pb) from O3.out).alloc (.cells #[.int .u8 0, .int .u8 0, .int .u8 0, .int .u8 0] 5))
        have B4 := Lib.hid ((below_drewN B3.out q).alloc B3.out.size (.cells #[.int .u8 0, .int .u8 0, .int .u8 0, .int .u8 0] 5))
        have hw1 := B1.out.size
        have hw3 : w1.heap.size ≤ w3.heap.size := Nat.le_trans hs12 hs23
        clear hlit
        have hzp : 0 < z + 4 := by omega
        go_wp2_with (first
          | (at_builtin
             refine app_u8 _ rfl (.tmp 79) (.tmp 80) rfl w1.heap.size (.slice A4 z c4) z (bvl pb) rfl O4.out (some ⟨w3.heap.size, 0, none⟩) 4 4 [0, 0, 0, 0] rfl (fun e => by cases e) LIT.out (by omega) (by simp; omega) ?_
             intro v5 w5 hown5 hg5
             rw [bvl, bvl, ← List.map_append] at hown5
             have B5 := Lib.hid (below_own O4.out B4.out hw1 hg5)
             obtain ⟨g, cc, cs, rfl, hg0, _, hc1, hc2, _⟩ := own_form hown5 hzp
             have h64c : cc ≤ 9223372036854775807 := by unfold maxLen at hc2; omega
             have O5 := Lib.hid hown5
             clear hown5 hg5 hc2)
          | fail)
        have hkl : (pb ++ [0, 0, 0, 0]).length = z + 4 := by rw [List.length_append, Q1.out]; rfl
        generalize pb ++ [0, 0, 0, 0] = kb at O5 hkl
        have hse : sealE (z + 4) = 0 := by rw [sealE, if_pos (by omega)]
        have hsd := sealed_seal s kb (by omega)
        have hsl := sealB_len s kb
        refine (seal_row w1.heap.size g (z + 4) cc (z + 4) kb [] s _ hkl (Nat.le_refl _) (by rw [List.append_nil]; exact O5.out)).mono ?_
        rintro e w6 ⟨rfl, ho6, hg6⟩
        rw [List.append_nil] at ho6
        rw [hse]
        generalize sealB s kb = sb at ho6 hsd hsl
        rw [hkl] at hsl
        have B6 := Lib.hid (below_own O5.out B5.out hw1 hg6)
        have O6 := Lib.hid ho6
        have HSD := Lib.hid hsd
        have HSL := Lib.hid hsl
        have HKL := Lib.hid hkl
        clear ho6 hg6 O5 B5 hsd hsl hse hkl
        go_wp2_with fail
        refine (sealed_any _ (z + 4) cc s sb _ hc1 h64c (own_bytes O6.out)).mono ?_
        rintro e w7 ⟨rfl, hb7⟩
        rw [HSD.out]
        have B7 := Lib.hid (below_all B6.out B6.out.size hb7)
        have O7 := Lib.hid (own_below O6.out hb7)
        clear hb7 B6 O6
        go_wp2_with fail
        obtain ⟨t, ht, htl⟩ := bit_place bit z
        rw [ht]
        clear ht
        obtain ⟨j, ej⟩ : ∃ j, t / 8 = j := ⟨_, rfl⟩
        obtain ⟨r, er⟩ : ∃ r, t % 8 = r := ⟨_, rfl⟩
        have hj : j < z + 4 := by omega
        have hr8 : r < 8 := by omega
        obtain ⟨x, hx⟩ : ∃ x, sb[j]? = some x := ⟨_, List.getElem?_eq_getElem (by have := HSL.out; omega)⟩
        have hcx : w7.cell? ⟨g, j, none⟩ = some (.int .u8 (x.toNat : Int)) := by
          rw [O7.out.cellAt j (by omega), bvl_get, hx]; rfl
        have hfx : w7.frozen? ⟨g, j, none⟩ = false := O7.out.frozenAt j
        have g1 : (t : Int) / 8 = (j : Int) := by omega
        have g2 : (t : Int) % 8 = (r : Int) := by omega
        have g2' : (t : Int).tmod 8 = (r : Int) := by rw [Int.tmod_eq_emod_of_nonneg (by omega)]; omega
        have g3 : (j : Int) < (z : Int) + 4 := by omega
        have g7 : ¬ (r : Int) < 0 := by omega
        have g8 : (0 : Int) ≤ (r : Int) := by omega
        have g5 : IntKind.i64.wrap (j : Int) = (j : Int) := by rw [IntKind.wrap_i64]; omega
        have g6 : (0 : Int) ≤ (j : Int) := by omega
        have HX := Lib.hid hx
        clear hx ej er
        go_still_tail 13, (by kernel_rfl)
        change wpList _ _ _ _ _ w7.drew
        have hcx2 : w7.drew.cell? ⟨g, j, none⟩ = some (.int .u8 (x.toNat : Int)) := hcx
        have hfx2 : w7.drew.frozen? ⟨g, j, none⟩ = false := hfx
        have O8 := Lib.hid (show w7.drew.ownsRow w1.heap.size 5 1 (.slice (some ⟨g, 0, none⟩) (z + 4) cc) (z + 4) (bvl sb) from O7.out)
        have B8 := Lib.hid (show Below W.heap.size W w7.drew from below_drewN B7.out 1)
        have hgW : W.heap.size ≤ g := Nat.le_trans B1.out.size hg0
        clear O7 hcx hfx B7
        generalize w7.drew = w8 at *
        obtain ⟨y, hy, hxy⟩ := turn_byte x r hr8
        have HY := Lib.hid hy
        have O9 := Lib.hid (own_set O8.out j y)
        have B9 := Lib.hid (B8.out.setCell (p := ⟨g, j, none⟩) hgW (.int .u8 (y.toNat : Int)))
        have hnot := turned_unsealed s sb j x y HSD.out HX.out hxy
        have hln : (sb.set j y).length = z + 4 := by rw [List.length_set]; exact HSL.out
        have HN := Lib.hid hnot
        clear hy hxy O8 B8 hnot
        go_wp2_with fail
        rw [HY.out]
        refine (sealed_any _ (z + 4) cc s (sb.set j y) _ hc1 h64c (own_bytes O9.out)).mono ?_
        rintro e w10 ⟨rfl, hb10⟩
        rw [HN.out]
        have B10 := Lib.hid (below_all B9.out B9.out.size hb10)
        clear hb10 O9
        go_wp2_with fail
        go_ret
        exact ⟨rfl, B10.out⟩

theorem wireBack_walk (w : World) (a0 : Option Addr) (len0 cap0 : Nat) (z0 : List Int) (w0 : IsRow .u64 w a0 len0 cap0 z0) (e0 : cap0 * 8 ≤ 140737488351232)
    (a1 : Option Addr) (len1 cap1 : Nat) (z1 : List Int) (w1 : IsRow .i64 w a1 len1 cap1 z1) (e1 : cap1 * 8 ≤ 140737488351232) (a2 : Int) (w2 : (Lit.int .u32 a2).wf = true)
    (a3 : Int) (w3 : (Lit.int .i64 a3).wf = true) :
    Calls Try.prog 3 #[.slice a0 len0 cap0, .slice a1 len1 cap1, .int .u32 a2, .int .i64 a3] w fun e w' => e = .returned (.bool true) ∧ Below w.heap.size w w' := by
  obtain ⟨l, hl, hl0, hA0, h64⟩ := row_nums w0
  obtain ⟨ws, hr, hl1, hA1, hz⟩ := row_ints w1
  obtain ⟨s, rfl⟩ := wf_u32 w2
  exact wireBack_run a0 a1 len0 cap0 len1 cap1 l ws s a3 w (by omega) (by omega) h64 hz hl hr
end Go.Proofs.Ytafonjnanfekkaa.Wire
