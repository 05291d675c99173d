
/-
  THE WALK of layout.Fixed: a loop over the groups.
-/
import Derived.Test.YtafonjnanfekkaaLayB
namespace Go.Proofs.Ytafonjnanfekkaa.Lay
open Go.RowKit
set_option maxHeartbeats 8000000
set_option linter.unusedVariables false
set_option linter.unusedSimpArgs false

theorem lfixed_any (B P I J : Int) (w : World) :
    Calls Try.prog 63 #[.agg #[.int .i64 B, .int .i64 P, .int .i64 I, .int .i64 J]] w fun e w' => e = .returned (.int .i64 (fixd B P I J)) ∧ Below w.heap.size w w' := by
  have fin := (Below.refl w.heap.size w).alloc (Nat.le_refl _) (.cells #[.int .i64 B, .int .i64 P, .int .i64 I, .int .i64 J] 37)
  have FIN := Lib.hid fin
  clear fin
  obtain ⟨n, hn⟩ : ∃ n : Nat, (n : Int) = grp B P I J := ⟨(grp B P I J).toNat, by have := grp_le B P I J; omega⟩
  have hn14 : n ≤ 14 := by have := grp_le B P I J; omega
  have hsum : ∀ k : Nat, k ≤ n → 0 ≤ dsum B P I J k ∧ dsum B P I J k ≤ 4096 := by
    intro k hk
    cases hgo : gok B P I J
    · rw [grp_no hgo] at hn
      obtain rfl : k = 0 := by omega
      simp [dsum]
    · have := dsum_le hgo k (by rw [grp_yes hgo] at hn; omega)
      exact ⟨this.1, this.2.1⟩
  have HN := Lib.hid hn
  have HS := Lib.hid hsum
  clear hn hsum
  go_enter Try.func63, Try.ntmps63
  go_wp2_with (go_at_call 62; refine (lgroups_any _ _ _ _ _).mono ?_; rintro e w1 ⟨rfl, hb⟩; have HB := Lib.hid hb; clear hb; rw [← HN.out])
  go_loopw [3, 15] (fun s i wr => ∃ k : Nat, k ≤ n ∧ i = .int .i64 k ∧ s = .int .i64 (dsum B P I J k) ∧ Below (w.heap.size + 1) (w.alloc (.cells #[.int .i64 B, .int .i64 P, .int .i64 I, .int .i64 J] 37)) wr) (fun _ i _ => n - (intOf i).toNat)
  case atStart => exact ⟨0, Nat.zero_le _, rfl, rfl, HB.out.mono (by simp)⟩
  case round =>
    obtain ⟨k, hk, rfl, rfl, hbr⟩ := hrel
    obtain ⟨c0, c1, c2, c3⟩ := geo_cell hbr
    have HBR := Lib.hid hbr
    clear hbr
    by_cases hlt : k < n
    · have hs0 := HS.out k (by omega)
      have hs1 := HS.out (k + 1) (by omega)
      simp only [dsum] at hs1
      obtain ⟨a0, a1⟩ := hs0
      obtain ⟨a2, a3⟩ := hs1
      have hgo : gok B P I J = true := grp_pos (by have := HN.out; omega)
      obtain ⟨q0, q1, q2, q3⟩ : 0 ≤ spanB B P I J k ∧ spanB B P I J k ≤ 4096 ∧ 0 ≤ placeD B P I J k ∧ placeD B P I J k ≤ 6000 := by
        have G := Geo.of hgo
        have hn := HN.out
        rw [grp_yes hgo] at hn
        have hi := isg_mk hgo (g := k) (by omega) (by omega)
        obtain ⟨y1, y2, y3⟩ := G.mul (g := k) (by omega) (by omega)
        have b2 := G.b2; have b1 := G.b1; have j2 := G.j2; have i2 := G.i2; have i1 := G.i1; have p1 := G.p1; have j1 := G.j1
        simp only [spanB, placeD, base, hi, if_true]
        refine ⟨?_, ?_, ?_, ?_⟩ <;> (split <;> omega)
      have hds : dsum B P I J (k + 1) = dsum B P I J k + (spanB B P I J k - placeD B P I J k) := rfl
      have HDS := Lib.hid hds
      clear hds
      go_wp2_with (go_at_call 59; refine (lspan_any _ _ _ _ _ _).mono ?_; rintro e w2 ⟨rfl, hb2⟩; obtain ⟨c0', c1', c2', c3'⟩ := geo_cell (HBR.out.trans (hb2.mono (by have := HBR.out.size; simpa using this))); have HB2 := Lib.hid hb2; clear hb2 c0 c1 c2 c3)
      go_wp2_with (go_at_call 60; refine (lplace_any _ _ _ _ _ _).mono ?_; rintro e w3 ⟨rfl, hb3⟩; have HB3 := Lib.hid hb3; clear hb3)
      go_roundw
      case rel => exact ⟨k + 1, by omega, by go_num, by rw [HDS.out], (HBR.out.trans (HB2.out.mono (by have := HBR.out.size; simpa using this))).trans (HB3.out.mono (by have := HBR.out.size; have := HB2.out.size; simp at *; omega))⟩
      case measure => simp [intOf]; omega
    · obtain rfl : k = n := by omega
      clear hlt
      cases hgo : gok B P I J
      · have h0 : k = 0 := by have := HN.out; rw [grp_no hgo] at this; omega
        have hd : (dsum B P I J k == 0) = true := by rw [h0]; rfl
        have hf : fixd B P I J = 0 := by simp [fixd, hgo]
        have HF := Lib.hid hf
        clear hf h0 hgo
        go_wp2_with fail
        go_ret
        exact ⟨ret_int HF.out.symm, FIN.out.trans (HBR.out.mono (by omega))⟩
      · have G := Geo.of hgo
        have b1 := G.b1; have b2 := G.b2; have n1 := G.n1
        have hds := dsum_le hgo k (by have := HN.out; rw [grp_yes hgo] at this; omega)
        have h0 : 0 < k := by have := HN.out; rw [grp_yes hgo] at this; omega
        obtain ⟨a0, a1, a2⟩ := hds
        have a3 := a2 h0
        have hd : (dsum B P I J k == 0) = false := by simp; omega
        have hf := fixd_eq hgo k HN.out
        have HF := Lib.hid hf
        clear hf hgo G a2
        go_wp2_with fail
        go_ret
        exact ⟨ret_int HF.out, FIN.out.trans (HBR.out.mono (by omega))⟩
end Go.Proofs.Ytafonjnanfekkaa.Lay
