
/-
  layer 1: the reference's Seal and Sealed, upon a row of one's own.
-/
import Derived.Test.YtafonjnanfekkaaLaw2
namespace Go.Proofs.Ytafonjnanfekkaa.Wire
open Go.RowKit
set_option maxHeartbeats 8000000
set_option maxRecDepth 100000
set_option linter.unusedVariables false
set_option linter.unusedSimpArgs false

theorem ref_seal_row (base n c : Nat) (A : Option Addr) (bs : List UInt8) (seed : BitVec 32) (w : World) (hbl : bs.length = n)
    (hown : w.ownsRow base 5 1 (.slice A n c) n (bvl bs)) :
    Calls Try.prog 70 #[.slice A n c, .int .u32 (seed.toNat : Int)] w fun e w' => e = .returned (.int .i64 (sealE n)) ∧
      w'.ownsRow base 5 1 (.slice A n c) n (bvl (sealB seed bs)) ∧ w.grownBy w' (Value.slice A n c).ownBlock := by
  obtain ⟨A', c', e0, hby, hnc, hcm, _, _⟩ := own_slice hown
  obtain ⟨rfl, rfl⟩ : A = A' ∧ c = c' := by injection e0 with e1 e2 e3; exact ⟨e1, e3⟩
  have hc64 : c ≤ 9223372036854775807 := by unfold maxLen at hcm; omega
  by_cases h4 : 4 ≤ n
  · have e1 : sealE n = 0 := by simp [sealE, h4]
    rw [e1]
    obtain ⟨a, u, rfl, _, _⟩ := hby.at_ (k := 0) (by omega)
    have hx : (crc seed (bs.take (n - 4))).toNat < 256 ^ 4 := (crc seed (bs.take (n - 4))).isLt
    have hto : ((n : Int) - 4).toNat = n - 4 := by omega
    have hp := ref_put_row base n c (some a) bs ((n : Int) - 4) 4 (crc seed (bs.take (n - 4))).toNat w (by omega) hbl hown
    have hpe : putE n ((n : Int) - 4) 4 (crc seed (bs.take (n - 4))).toNat = 0 := by
      rw [putE, if_pos (fits4 h4), if_pos (show _ < 256 ^ Int.toNat 4 from hx)]
    have hpb : putB bs ((n : Int) - 4) 4 (crc seed (bs.take (n - 4))).toNat = sealB seed bs := by
      rw [sealB_lays seed bs (by omega), hbl, putB, hbl, if_pos (fits4 h4), if_pos (show _ < 256 ^ Int.toNat 4 from hx), hto]; rfl
    rw [hpe, hpb] at hp
    have HP := Lib.hid hp
    have HC := Lib.hid (ref_crc seed (some a) (n - 4) c (bs.take (n - 4)) w (by omega) (hby.take_ (n - 4) (by omega)))
    have h32 : IntKind.u64.wrap ((crc seed (bs.take (n - 4))).toNat : Int) = ((crc seed (bs.take (n - 4))).toNat : Int) := by
      have := (crc seed (bs.take (n - 4))).isLt
      rw [IntKind.wrap_u64]; omega
    have i0 : (0 : Int) ≤ (n : Int) - 4 := by omega
    have i1 : (n : Int) - 4 ≤ (c : Int) := by omega
    have i2 : ¬ (n : Int) < 4 := by omega
    have hd : decide ((n : Int) < 4) = false := by simp; omega
    clear hp hpe hpb hby hown hx hcm
    go_enter Try.func70, Try.ntmps70
    go_wp2_with (first | (go_at_call 47; refine HC.out.mono ?_; rintro e w' ⟨rfl, rfl⟩) | (go_at_call 97; refine HP.out.mono ?_; rintro e w' ⟨rfl, ho, hg⟩))
    go_ret
    exact ⟨rfl, ho, hg⟩
  · have e1 : sealE n = 22 := by simp [sealE, h4]
    have e2 : sealB seed bs = bs := by rw [sealB, if_neg (by omega)]
    rw [e1, e2]
    have HO := Lib.hid hown
    have hd : decide ((n : Int) < 4) = true := by simp; omega
    have hlt : (n : Int) < 4 := by omega
    clear hown hby
    go_enter Try.func70, Try.ntmps70
    go_wp2_with fail
    go_ret
    exact ⟨rfl, HO.out, World.grownBy.refl _ _⟩
end Go.Proofs.Ytafonjnanfekkaa.Wire
