
/-
  THE WALKS of layer 1's reference: Crc.
-/
import Derived.Test.YtafonjnanfekkaaWire1
namespace Go.Proofs.Ytafonjnanfekkaa.Wire
open Go.RowKit
set_option maxHeartbeats 8000000
set_option maxRecDepth 100000
set_option linter.unusedVariables false
set_option linter.unusedSimpArgs false

attribute [local irreducible] stpN

theorem rem2 (a : BitVec 32) : (Int.tmod (a.toNat : Int) 2 == 1) = a.getLsbD 0 := by
  have h : Int.tmod (a.toNat : Int) 2 = ((a.toNat % 2 : Nat) : Int) := by rw [Int.tmod_eq_emod_of_nonneg (by omega)]; omega
  rw [h, BitVec.getLsbD, Nat.testBit_zero]
  rcases Nat.mod_two_eq_zero_or_one a.toNat with e | e <;> simp [e]
theorem rem2e (a : BitVec 32) : (((a.toNat : Int) % 2) == 1) = a.getLsbD 0 := by
  have h : (a.toNat : Int) % 2 = ((a.toNat % 2 : Nat) : Int) := by omega
  rw [h, BitVec.getLsbD, Nat.testBit_zero]
  rcases Nat.mod_two_eq_zero_or_one a.toNat with e | e <;> simp [e]

theorem ref_crc (s : BitVec 32) (A : Option Addr) (n cap : Nat) (bs : List UInt8) (w : World) (hn : n ≤ 9223372036854775807) (hb : BytesAt w A n bs) :
    Calls Try.prog 47 #[.int .u32 (s.toNat : Int), .slice A n cap] w fun e w' => e = .returned (.int .u32 ((crc s bs).toNat : Int)) ∧ w = w' := by
  have HBY := Lib.hid hb
  clear hb
  have hsg : IntKind.u32.signed = false := rfl
  have hnot := u32_not s
  go_enter Try.func47, Try.ntmps47
  go_wp2_with fail
  go_loop [5, 6] (fun x i => ∃ k : Nat, k ≤ n ∧ i = .int .i64 k ∧ x = .int .u32 ((crcF (~~~ s) (bs.take k)).toNat : Int)) (fun _ i => n - (intOf i).toNat)
  case atStart => exact ⟨0, by omega, rfl, by rw [List.take_zero, crcF_nil]; simp⟩
  case round =>
    clear hnot
    obtain ⟨k, hk, rfl, rfl⟩ := hrel
    by_cases hlt : k < n
    · obtain ⟨a, c, rfl, hx, hc⟩ := HBY.out.at_ hlt
      have hs : crcF (~~~ s) (bs.take (k + 1)) = stpN 8 (xb (crcF (~~~ s) (bs.take k)) c) := by
        rw [List.take_add_one, hx]; exact crcF_snoc _ _ _
      have HS := Lib.hid hs
      have HX := Lib.hid hx
      clear hs hx
      generalize crcF (~~~ s) (bs.take k) = y at HS ⊢
      have q1 := u32_xb y c
      have c1 : (c.toNat : Int) < 256 := by have := c.toNat_lt; omega
      have c2 : (y.toNat : Int) < 4294967296 := by have := y.isLt; omega
      go_wp2_with fail
      clear q1
      generalize xb y c = z at HS ⊢
      go_loop [5, 7] (fun x i => ∃ j : Nat, j ≤ 8 ∧ i = .int .i64 j ∧ x = .int .u32 ((stpN j z).toNat : Int)) (fun _ i => 8 - (intOf i).toNat)
      case atStart => exact ⟨0, by omega, rfl, by rw [stpN_zero]⟩
      case round =>
        obtain ⟨j, hj, rfl, rfl⟩ := hrel
        by_cases hj8 : (j : Int) < 8
        · have h0 := rem2 (stpN j z)
          have h0' := rem2e (stpN j z)
          have h1 : ((stpN j z).toNat : Int) < 4294967296 := by have := (stpN j z).isLt; omega
          have hp : bits .xor .u32 (((stpN j z).toNat : Int) / 2) 2197175160 = (((stpN j z >>> 1) ^^^ poly).toNat : Int) := by
            rw [u32_half]; exact u32_xor (stpN j z >>> 1) poly
          have hs := stpN_succ j z
          have hq := u32_half (stpN j z)
          have HS2 := Lib.hid hs
          have HP := Lib.hid hp
          have HQ := Lib.hid hq
          clear hs hp hq
          cases hb : (stpN j z).getLsbD 0
          · rw [hb] at h0 h0'
            have HB := Lib.hid hb
            clear hb
            go_wp2_with fail
            go_round
            case rel => exact ⟨j + 1, by omega, by go_num, by rw [HQ.out, HS2.out, HB.out]; simp⟩
            case measure => simp [intOf]; omega
          · rw [hb] at h0 h0'
            have HB := Lib.hid hb
            clear hb
            go_wp2_with fail
            go_round
            case rel => exact ⟨j + 1, by omega, by go_num, by rw [HP.out, HS2.out, HB.out]; simp⟩
            case measure => simp [intOf]; omega
        · obtain rfl : j = 8 := by omega
          go_wp2_with fail
          go_round
          case rel => exact ⟨k + 1, by omega, by go_num, by rw [HS.out]⟩
          case measure => simp [intOf]; omega
    · obtain rfl : k = n := by omega
      have hs : bs.take k = bs := List.take_of_length_le (by have := HBY.out.len; omega)
      rw [hs]
      have hcr := crc_eq s bs
      have HC := Lib.hid hcr
      clear hs hcr
      generalize crcF (~~~ s) bs = y at HC ⊢
      have hnot := u32_not y
      go_wp2_with fail
      go_ret
      exact ⟨ret_int (by rw [HC.out]; simp), rfl⟩
end Go.Proofs.Ytafonjnanfekkaa.Wire
