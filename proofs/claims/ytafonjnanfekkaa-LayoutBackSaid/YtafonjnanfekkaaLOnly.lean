
/-
  THE WALK of WireOnly.
-/
import Derived.Test.YtafonjnanfekkaaWire10
namespace Go.Proofs.Ytafonjnanfekkaa.Wire
open Go.RowKit
set_option maxHeartbeats 8000000
set_option maxRecDepth 100000
set_option linter.unusedVariables false
set_option linter.unusedSimpArgs false

theorem packs_unpacks : ∀ (ws : List Int) (bs : List UInt8), wok ws = true → ws.sum = (bs.length : Int) → packs (unpacks bs ws) ws = some bs
  | [], bs, _, hs => by
    have : bs = [] := List.eq_nil_of_length_eq_zero (by simp at hs; omega)
    subst this; rfl
  | z :: ws, bs, hw, hs => by
    simp only [wok, List.all_cons, Bool.and_eq_true] at hw
    obtain ⟨h1, h2⟩ := wok1_true hw.1
    have hm := wsum_le ws hw.2
    simp only [List.sum_cons] at hs
    have hl : (bs.take z.toNat).length = z.toNat := by rw [List.length_take]; omega
    have hn := num_lt (bs.take z.toNat)
    rw [hl] at hn
    have hle := le_num (bs.take z.toNat)
    rw [hl] at hle
    have ih := packs_unpacks ws (bs.drop z.toNat) hw.2 (by rw [List.length_drop]; omega)
    simp only [unpacks, packs, if_pos hn, ih, Option.map_some, hle, List.take_append_drop]
theorem unpacks_lt (ws : List Int) (bs : List UInt8) (hw : wok ws = true) : ∀ x ∈ unpacks bs ws, x < 18446744073709551616 := by
  induction ws generalizing bs with
  | nil => intro x h; simp [unpacks] at h
  | cons z ws ih =>
    intro x h
    simp only [wok, List.all_cons, Bool.and_eq_true] at hw
    obtain ⟨h1, h2⟩ := wok1_true hw.1
    simp only [unpacks, List.mem_cons] at h
    rcases h with rfl | h
    · exact num_lt64 (by rw [List.length_take]; omega)
    · exact ih _ hw.2 x h
theorem pack_back (ws : List Int) (bs : List UInt8) (hw : wok ws = true) (hs : ws.sum = (bs.length : Int)) (h : bs.length ≤ 4096) :
    packE (unpacks bs ws) ws (bs.length : Int) = 0 ∧ packB (unpacks bs ws) ws (bs.length : Int) = bs := by
  have hm : pmay (unpacks bs ws) ws (bs.length : Int) = true := by
    simp [pmay, unpacks_length, hw]; omega
  have hp := packs_unpacks ws bs hw hs
  exact ⟨by simp [packE, hm, hp], by simp [packB, hm, hp]⟩

end Go.Proofs.Ytafonjnanfekkaa.Wire
