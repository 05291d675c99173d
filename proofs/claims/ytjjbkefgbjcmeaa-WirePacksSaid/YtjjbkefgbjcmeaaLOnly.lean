/-
  THE WALK of WireOnly.
-/
import Derived.Test.YtjjbkefgbjcmeaaWire10
namespace Go.Proofs.Ytjjbkefgbjcmeaa.Wire
open Go.RowKit
set_option maxHeartbeats 8000000
set_option maxRecDepth 100000
set_option linter.unusedVariables false
set_option linter.unusedSimpArgs false

theorem packs_unpacks : ∀ (ws : List Int) (bs : List UInt8), wok ws = true → ws.sum = (bs.length : Int) → packs (unpacks bs ws) ws = some bs
  | [], bs, _, hs => by
    have : bs = [] := List.eq_nil_of_length_eq_zero (by simp at hs; omega)
    subst this; rfl
  | z :: ws, bs, hw, hs => by
    simp only [wok, List.all_cons, Bool.and_eq_true] at hw
    obtain ⟨h1, h2⟩ := wok1_true hw.1
    have hm := wsum_le ws hw.2
    simp only [List.sum_cons] at hs
    have hl : (bs.take z.toNat).length = z.toNat := by rw [List.length_take]; omega
    have hn := num_lt (bs.take z.toNat)
    rw [hl] at hn
    have hle := le_num (bs.take z.toNat)
    rw [hl] at hle
    have ih := packs_unpacks ws (bs.drop z.toNat) hw.2 (by rw [List.length_drop]; omega)
    simp only [unpacks, packs, if_pos hn, ih, Option.map_some, hle, List.take_append_drop]
theorem unpacks_lt (ws : List Int) (bs : List UInt8) (hw : wok ws = true) : ∀ x ∈ unpacks bs ws, x < 18446744073709551616 := by
  induction ws generalizing bs with
  | nil => intro x h; simp [unpacks] at h
  | cons z ws ih =>
    intro x h
    simp only [wok, List.all_cons, Bool.and_eq_true] at hw
    obtain ⟨h1, h2⟩ := wok1_true hw.1
    simp only [unpacks, List.mem_cons] at h
    rcases h with rfl | h
    · exact num_lt64 (by rw [List.length_take]; omega)
    · exact ih _ hw.2 x h
theorem pack_back (ws : List Int) (bs : List UInt8) (hw : wok ws = true) (hs : ws.sum = (bs.length : Int)) (h : bs.length ≤ 4096) :
    packE (unpacks bs ws) ws (bs.length : Int) = 0 ∧ packB (unpacks bs ws) ws (bs.length : Int) = bs := by
  have hm : pmay (unpacks bs ws) ws (bs.length : Int) = true := by
    simp [pmay, unpacks_length, hw]; omega
  have hp := packs_unpacks ws bs hw hs
  exact ⟨by simp [packE, hm, hp], by simp [packB, hm, hp]⟩

theorem wireOnly_run (A A0 : Option Addr) (len cap n c0 : Nat) (bs : List UInt8) (ws : List Int) (W : World) (hn : n ≤ 17592186044415) (hl : len ≤ cap) (hc : cap ≤ 140737488351232)
    (hb : BytesAt W A len bs) (hr : RowAt W A0 n (ints ws)) :
    Calls Try.prog 9 #[.slice A len cap, .slice A0 n c0] W fun e w' => e = .returned (.bool true) ∧ Below W.heap.size W w' := by
  have hbl := hb.len
  have hlw : ws.length = n := by have := hr.len; simpa [ints] using this
  have HB := Lib.hid hb
  have HR := Lib.hid hr
  have HBL := Lib.hid hbl
  clear hb hbl hr
  go_enter Try.func9, Try.ntmps9
  go_wp2_with fail
  refine (awake_true _).mono ?_
  rintro e w1 ⟨rfl, hb1⟩
  have B1 := Lib.hid hb1
  clear hb1
  go_wp2_with fail
  refine (unpack_any A0 A n c0 len cap ws bs _ hn hl (by omega) (HR.out.below B1.out) (HB.out.below B1.out)).mono ?_
  rintro e w2 ⟨v, rfl, hb2, hown⟩
  have B2 := Lib.hid (below_all B1.out B1.out.size hb2)
  obtain ⟨Av, cv, rfl, hrow, hcv1, hcv2, _⟩ := own_slice64 hown
  have HROW := Lib.hid hrow
  clear hb2 hown hrow
  cases hm : umay bs ws
  · have hE : unpackE bs ws = 22 := by simp [unpackE, hm]
    rw [hE]
    clear hm hE
    generalize (unpackX bs ws).length = nx
    go_wp2_with fail
    go_ret
    exact ⟨rfl, B2.out⟩
  have hE : unpackE bs ws = 0 := by simp [unpackE, hm]
  have hX : unpackX bs ws = unpacks bs ws := by simp [unpackX, hm]
  simp only [umay, Bool.and_eq_true, decide_eq_true_eq] at hm
  obtain ⟨hw, hs⟩ := hm
  rw [hE]
  rw [hX, unpacks_length, hlw] at HROW hcv1 ⊢
  clear hE hX
  by_cases h4 : 4096 < len
  · have hd : decide ((4096 : Int) < (len : Int)) = true := by simp; omega
    have h4' : (4096 : Int) < (len : Int) := by omega
    clear hs
    go_wp2_with fail
    go_ret
    exact ⟨rfl, B2.out⟩
  have hd : decide ((4096 : Int) < (len : Int)) = false := by simp; omega
  have h4' : ¬ (4096 : Int) < (len : Int) := by omega
  obtain ⟨pE, pB⟩ := pack_back ws bs hw hs (by rw [HBL.out]; omega)
  have H64 := Lib.hid (unpacks_lt ws bs hw)
  rw [HBL.out] at pE pB
  have PE := Lib.hid pE
  have PB := Lib.hid pB
  clear pE pB hw hs
  go_wp2_with fail
  refine (pack_any Av A0 n cv n c0 (unpacks bs ws) ws (len : Int) _ (by omega) H64.out HROW.out (HR.out.below B2.out)).mono ?_
  rintro e w3 ⟨v, rfl, hb3, hown⟩
  rw [PE.out]
  rw [PB.out, HBL.out] at hown
  obtain ⟨A2, c2, rfl, hby2, hc2, hc3, _, _⟩ := own_slice hown
  have HB2 := Lib.hid hby2
  have B3 := Lib.hid (below_all B2.out B2.out.size hb3)
  have HB3 := Lib.hid (HB.out.below B3.out)
  have hd2 : ((len : Int) != (len : Int)) = false := by simp
  clear hb3 hown hby2 HROW H64 PE PB
  go_wp2_with fail
  go_loopw [10] (fun i wr => ∃ k : Nat, k ≤ len ∧ i = .int .i64 k ∧ ∃ q, wr = w3.drewN q) (fun i _ => len - (intOf i).toNat)
  case atStart => exact ⟨0, by omega, rfl, 0, rfl⟩
  case round =>
    obtain ⟨k, hk, rfl, q, rfl⟩ := hrel
    by_cases hlt : k < len
    · obtain ⟨a, c, rfl, hx, hcx⟩ := HB3.out.at_ hlt
      obtain ⟨b, d, rfl, hy, hcy⟩ := HB2.out.at_ hlt
      obtain rfl : c = d := by rw [hx] at hy; injection hy
      clear hx hy
      have hq : ((c.toNat : Int) != (c.toNat : Int)) = false := by simp
      go_wp2_with fail
      go_quiet (fail)
      go_wp2_with fail
      go_roundw
      case rel => exact ⟨k + 1, by omega, by go_num, _, by first | rfl | rw [World.drewN_drewN]⟩
      case measure => simp [intOf]; omega
    · obtain rfl : k = len := by omega
      go_wp2_with fail
      go_ret
      exact ⟨rfl, below_drewN B3.out _⟩

theorem wireOnly_walk (w : World) (a0 : Option Addr) (len0 cap0 : Nat) (z0 : List Int) (w0 : IsRow .u8 w a0 len0 cap0 z0) (e0 : cap0 * 1 ≤ 140737488351232)
    (a1 : Option Addr) (len1 cap1 : Nat) (z1 : List Int) (w1 : IsRow .i64 w a1 len1 cap1 z1) (e1 : cap1 * 8 ≤ 140737488351232) :
    Calls Try.prog 9 #[.slice a0 len0 cap0, .slice a1 len1 cap1] w fun e w' => e = .returned (.bool true) ∧ Below w.heap.size w w' := by
  obtain ⟨bs, hb, hl, hA⟩ := row_bytes w0
  obtain ⟨ws, hr, hl1, hA1, _⟩ := row_ints w1
  exact wireOnly_run a0 a1 len0 cap0 len1 cap1 bs ws w (by omega) hl (by omega) hb hr
end Go.Proofs.Ytjjbkefgbjcmeaa.Wire
