
/-
  THE WALKS of layer 1 (wire), the program's, first part: step, Crc, part, number, lay.
-/
import Derived.Test.YtafonjnanfekkaaProg
import Derived.Test.YtafonjnanfekkaaB
import Derived.Test.YtafonjnanfekkaaWireN
namespace Go.Proofs.Ytafonjnanfekkaa.Wire
open Go.RowKit
set_option maxHeartbeats 8000000
set_option maxRecDepth 100000
set_option linter.unusedVariables false
set_option linter.unusedSimpArgs false

/-! ### 32-bit words as the walk writes them -/
theorem ofInt_u32 (c : BitVec 32) : BitVec.ofInt 32 (c.toNat : Int) = c := by
  rw [BitVec.ofInt_natCast, BitVec.ofNat_toNat, BitVec.setWidth_eq]
theorem u32_wrap (c : BitVec 32) : IntKind.u32.wrap (c.toNat : Int) = (c.toNat : Int) := by
  have := c.isLt
  rw [IntKind.wrap_u32]; omega
theorem u32_xor (a b : BitVec 32) : bits .xor .u32 (a.toNat : Int) (b.toNat : Int) = ((a ^^^ b).toNat : Int) := by
  show IntKind.u32.wrap ((BitVec.ofInt 32 (a.toNat : Int) ^^^ BitVec.ofInt 32 (b.toNat : Int)).toNat : Int) = _
  rw [ofInt_u32, ofInt_u32, u32_wrap]
theorem u32_and (a b : BitVec 32) : bits .and .u32 (a.toNat : Int) (b.toNat : Int) = ((a &&& b).toNat : Int) := by
  show IntKind.u32.wrap ((BitVec.ofInt 32 (a.toNat : Int) &&& BitVec.ofInt 32 (b.toNat : Int)).toNat : Int) = _
  rw [ofInt_u32, ofInt_u32, u32_wrap]
theorem u32_half (a : BitVec 32) : (a.toNat : Int) / (2 : Int) = ((a >>> 1).toNat : Int) := by
  rw [BitVec.toNat_ushiftRight, Nat.shiftRight_eq_div_pow]; simp
theorem u32_shr8 (a : BitVec 32) : (a.toNat : Int) / (256 : Int) = ((a >>> 8).toNat : Int) := by
  rw [BitVec.toNat_ushiftRight, Nat.shiftRight_eq_div_pow]; simp
theorem and1 (a : BitVec 32) : (((a &&& 1#32).toNat : Int) != 0) = a.getLsbD 0 := by
  have h : (a &&& 1#32).toNat = a.toNat % 2 := by rw [BitVec.toNat_and]; exact Nat.and_one_is_mod _
  rw [h, BitVec.getLsbD, Nat.testBit_zero]
  rcases Nat.mod_two_eq_zero_or_one a.toNat with e | e <;> simp [e]

theorem by32_toNat (c : UInt8) : ((by32 c).toNat : Int) = (c.toNat : Int) := by
  unfold by32
  rw [BitVec.toNat_ofNat, Nat.mod_eq_of_lt (by have := c.toNat_lt; omega)]
theorem u32_not (a : BitVec 32) : bits .xor .u32 IntKind.u32.max (a.toNat : Int) = ((~~~ a).toNat : Int) := by
  have : IntKind.u32.max = ((BitVec.allOnes 32).toNat : Int) := by decide
  rw [this, u32_xor, BitVec.allOnes_xor]
theorem u32_xb (y : BitVec 32) (c : UInt8) : bits .xor .u32 (y.toNat : Int) (c.toNat : Int) = ((xb y c).toNat : Int) := by
  rw [← by32_toNat, u32_xor]; rfl
theorem u32_low (y : BitVec 32) : bits .and .u32 (y.toNat : Int) 255 = ((low y).toNat : Int) := u32_and y 255#32
theorem u32_next (y : BitVec 32) (c : UInt8) : bits .xor .u32 ((stpN 8 (low (xb y c))).toNat : Int) ((y.toNat : Int) / (256 : Int)) = ((upd y c).toNat : Int) := by
  rw [u32_shr8, u32_xor, ← upd_eq]; rfl

attribute [local irreducible] stpN

theorem step_any (c : BitVec 32) (w : World) : Calls Try.prog 92 #[.int .u32 (c.toNat : Int)] w fun e w' => e = .returned (.int .u32 ((stpN 8 c).toNat : Int)) ∧ w = w' := by
  go_enter Try.func92, Try.ntmps92
  go_wp2
  go_loop [0, 4] (fun x i => ∃ k : Nat, k ≤ 8 ∧ i = .int .i64 k ∧ x = .int .u32 ((stpN k c).toNat : Int)) (fun _ i => 8 - (intOf i).toNat)
  case atStart => exact ⟨0, by omega, rfl, by rw [stpN_zero]⟩
  case round =>
    obtain ⟨k, hk, rfl, rfl⟩ := hrel
    by_cases hlt : (k : Int) < 8
    · have hx : bits .and .u32 ((stpN k c).toNat : Int) 1 = ((stpN k c &&& 1#32).toNat : Int) := u32_and (stpN k c) 1#32
      have h0 := and1 (stpN k c)
      rw [← hx] at h0
      clear hx
      have h1 : ((stpN k c).toNat : Int) < 4294967296 := by have := (stpN k c).isLt; omega
      have hp : bits .xor .u32 (((stpN k c).toNat : Int) / 2) 2197175160 = (((stpN k c >>> 1) ^^^ poly).toNat : Int) := by
        rw [u32_half]; exact u32_xor (stpN k c >>> 1) poly
      have hs := stpN_succ k c
      have hq := u32_half (stpN k c)
      have HS := Lib.hid hs
      have HP := Lib.hid hp
      have HQ := Lib.hid hq
      clear hs hp hq
      cases hb : (stpN k c).getLsbD 0
      · rw [hb] at h0
        have HB := Lib.hid hb
        clear hb
        go_wp2
        go_round
        case rel => exact ⟨k + 1, by omega, by go_num, by rw [HQ.out, HS.out, HB.out]; simp⟩
        case measure => simp [intOf]; omega
      · rw [hb] at h0
        have HB := Lib.hid hb
        clear hb
        go_wp2
        go_round
        case rel => exact ⟨k + 1, by omega, by go_num, by rw [HP.out, HS.out, HB.out]; simp⟩
        case measure => simp [intOf]; omega
    · obtain rfl : k = 8 := by omega
      go_wp2
      go_ret
      exact ⟨rfl, rfl⟩

theorem crc_any (s : BitVec 32) (A : Option Addr) (n cap : Nat) (bs : List UInt8) (w : World) (hn : n ≤ 9223372036854775807) (hb : BytesAt w A n bs) :
    Calls Try.prog 50 #[.int .u32 (s.toNat : Int), .slice A n cap] w fun e w' => e = .returned (.int .u32 ((crc s bs).toNat : Int)) ∧ w = w' := by
  have HBY := Lib.hid hb
  clear hb
  have hsg : IntKind.u32.signed = false := rfl
  have hnot := u32_not s
  go_enter Try.func50, Try.ntmps50
  go_wp2_with fail
  go_loop [5, 12] (fun x i => ∃ k : Nat, k ≤ n ∧ i = .int .i64 k ∧ x = .int .u32 ((crcF (~~~ s) (bs.take k)).toNat : Int)) (fun _ i => n - (intOf i).toNat)
  case atStart => exact ⟨0, by omega, rfl, by rw [List.take_zero, crcF_nil]; simp⟩
  case round =>
    clear hnot
    obtain ⟨k, hk, rfl, rfl⟩ := hrel
    by_cases hlt : k < n
    · obtain ⟨a, c, rfl, hx, hc⟩ := HBY.out.at_ hlt
      have hs : crcF (~~~ s) (bs.take (k + 1)) = upd (crcF (~~~ s) (bs.take k)) c := by
        rw [List.take_add_one, hx]; exact crcF_snoc _ _ _
      have HS := Lib.hid hs
      have HX := Lib.hid hx
      clear hs hx
      generalize crcF (~~~ s) (bs.take k) = y at HS ⊢
      have q1 := u32_xb y c
      have q2 := u32_low (xb y c)
      have q3 := u32_next y c
      have c1 : (c.toNat : Int) < 256 := by have := c.toNat_lt; omega
      have c2 : (y.toNat : Int) < 4294967296 := by have := y.isLt; omega
      go_wp2_with (go_at_call 92; refine (step_any _ _).mono ?_; rintro e w' ⟨rfl, rfl⟩)
      go_round
      case rel => exact ⟨k + 1, by omega, by go_num, by rw [HS.out]⟩
      case measure => simp [intOf]; omega
    · obtain rfl : k = n := by omega
      have hs : bs.take k = bs := List.take_of_length_le (by have := HBY.out.len; omega)
      rw [hs]
      have hcr := crc_eq s bs
      have HC := Lib.hid hcr
      clear hs hcr
      generalize crcF (~~~ s) bs = y at HC ⊢
      have hnot := u32_not y
      go_wp2_with fail
      go_ret
      exact ⟨ret_int (by rw [HC.out]; simp), rfl⟩

/-! ### part, number, lay -/
theorem part_ok (a : Addr) (len cap : Nat) (at_ n : Int) (w : World) (hl : len ≤ cap) (hc : cap ≤ 9223372036854775807) (hf : fits len at_ n = true) :
    Calls Try.prog 58 #[.slice (some a) len cap, .int .i64 at_, .int .i64 n] w fun e w' => e = .returned (.slice (some (a.add at_.toNat)) n.toNat (cap - at_.toNat)) ∧ w = w' := by
  obtain ⟨h1, h2, h3, h4, h5⟩ := fits_true hf
  clear hf
  go_enter Try.func58, Try.ntmps58
  go_wp2
  go_ret
  refine ⟨?_, rfl⟩
  have e : (at_ + n).toNat - at_.toNat = n.toNat := by omega
  show Ending.returned (.slice (some (a.add at_.toNat)) ((at_ + n).toNat - at_.toNat) (cap - at_.toNat)) = _
  rw [e]
/-- What the package gives up by. -/
def wrong (c : Int) : Value := .iface 91 (.agg #[.int .i64 c])
theorem part_no (A : Option Addr) (len cap : Nat) (at_ n : Int) (w : World) (hl : len ≤ 9223372036854775807) (hf : fits len at_ n = false) :
    Calls Try.prog 58 #[.slice A len cap, .int .i64 at_, .int .i64 n] w fun e w' => e = .panicked [{ v := wrong 22, recovered := false }] ∧ w = w' := by
  have h := fits_false hf
  clear hf
  by_cases h1 : n < 1
  · clear h
    go_enter Try.func58, Try.ntmps58
    go_wp2
    exact ⟨rfl, rfl, rfl⟩
  by_cases h2 : 8 < n
  · clear h
    go_enter Try.func58, Try.ntmps58
    go_wp2
    exact ⟨rfl, rfl, rfl⟩
  by_cases h3 : at_ < 0
  · clear h
    go_enter Try.func58, Try.ntmps58
    go_wp2
    exact ⟨rfl, rfl, rfl⟩
  by_cases h4 : (len : Int) < at_
  · clear h
    go_enter Try.func58, Try.ntmps58
    go_wp2
    exact ⟨rfl, rfl, rfl⟩
  · have h5 : (len : Int) - at_ < n := by omega
    clear h
    go_enter Try.func58, Try.ntmps58
    go_wp2
    exact ⟨rfl, rfl, rfl⟩

theorem pow256 (k : Nat) : (256 : Nat) ^ k = 2 ^ (8 * k) := by rw [Nat.pow_mul]
theorem mul_lt64 {c k : Nat} (hc : c < 256) (hk : k < 8) : c * 2 ^ (8 * k) < 18446744073709551616 := by
  have h1 : (2 : Nat) ^ (8 * k) ≤ 2 ^ 56 := Nat.pow_le_pow_right (by omega) (by omega)
  have h2 : c * 2 ^ (8 * k) ≤ 255 * 2 ^ 56 := Nat.mul_le_mul (by omega) h1
  exact Nat.lt_of_le_of_lt h2 (by decide)
theorem or_step (A c k : Nat) (hA : A < 256 ^ k) (hc : c < 256) (hk : k < 8) :
    bits .or .u64 (A : Int) (IntKind.u64.wrap (IntKind.u64.wrap (c : Int) * 2 ^ (8 * k))) = ((A + 256 ^ k * c : Nat) : Int) := by
  have hm := mul_lt64 hc hk
  have hA' : A < 18446744073709551616 := Nat.lt_of_lt_of_le hA (Nat.le_trans (Nat.pow_le_pow_right (by omega) (by omega : k ≤ 8)) (by decide))
  have e1 : IntKind.u64.wrap (c : Int) = (c : Int) := by rw [IntKind.wrap_u64]; omega
  have e2 : (c : Int) * 2 ^ (8 * k) = ((c * 2 ^ (8 * k) : Nat) : Int) := by simp
  have e3 : IntKind.u64.wrap ((c * 2 ^ (8 * k) : Nat) : Int) = ((c * 2 ^ (8 * k) : Nat) : Int) := by
    generalize c * 2 ^ (8 * k) = m at hm
    rw [IntKind.wrap_u64]; omega
  rw [e1, e2, e3, u64_or_nat _ _ hA' hm]
  congr 1
  rw [Nat.or_comm, nat_join (8 * k) _ _ (Nat.mul_mod_left _ _) (by rw [← pow256]; exact hA), pow256, Nat.mul_comm c, Nat.add_comm]

theorem number_any (A : Option Addr) (n cap : Nat) (bs : List UInt8) (w : World) (hn : n ≤ 8) (hb : BytesAt w A n bs) :
    Calls Try.prog 56 #[.slice A n cap] w fun e w' => e = .returned (.int .u64 (num bs : Int)) ∧ w = w' := by
  have HBY := Lib.hid hb
  clear hb
  go_enter Try.func56, Try.ntmps56
  go_wp2
  go_loop [3, 8] (fun x i => ∃ k : Nat, k ≤ n ∧ i = .int .i64 k ∧ x = .int .u64 (num (bs.take k) : Int)) (fun _ i => n - (intOf i).toNat)
  case atStart => exact ⟨0, by omega, rfl, by rw [List.take_zero]; rfl⟩
  case round =>
    obtain ⟨k, hk, rfl, rfl⟩ := hrel
    by_cases hlt : k < n
    · obtain ⟨a, c, rfl, hx, hc⟩ := HBY.out.at_ hlt
      have hs : bits .or .u64 (num (bs.take k) : Int) (IntKind.u64.wrap (IntKind.u64.wrap (c.toNat : Int) * 2 ^ (8 * k))) = (num (bs.take (k + 1)) : Int) := by
        have hl : (bs.take k).length = k := by rw [List.length_take, HBY.out.len, Nat.min_eq_left (by omega)]
        have h1 := num_lt (bs.take k)
        rw [hl] at h1
        rw [or_step _ _ _ h1 c.toNat_lt (by omega), List.take_add_one, hx]
        have := num_snoc (bs.take k) c
        rw [hl] at this
        rw [← this]; rfl
      have HS := Lib.hid hs
      have HX := Lib.hid hx
      clear hs hx
      go_wp2
      go_round
      case rel => exact ⟨k + 1, by omega, by go_num, by rw [HS.out]⟩
      case measure => simp [intOf]; omega
    · obtain rfl : k = n := by omega
      have hs : bs.take k = bs := List.take_of_length_le (by have := HBY.out.len; omega)
      rw [hs]
      clear hs
      go_wp2
      go_ret
      exact ⟨rfl, rfl⟩

theorem add_spot {a : Addr} (hs : a.spot = none) (i : Nat) : a.add i = ⟨a.block, a.off + i, none⟩ := by
  obtain ⟨b, o, s⟩ := a
  obtain rfl : s = none := hs
  exact add_plain b o i
theorem blk_cellAt {w : World} {a : Addr} {t : TypeId} {cs : Array Value} (h : Blk w a.block t cs) (hs : a.spot = none) (i : Nat) : w.cell? (a.add i) = cs[a.off + i]? := by
  rw [add_spot hs]; exact h.cell _
theorem blk_frozenAt {w : World} {a : Addr} {t : TypeId} {cs : Array Value} (h : Blk w a.block t cs) (i : Nat) : w.frozen? (a.add i) = false := by
  unfold Blk at h
  simp [World.frozen?, block_of_add, h]
theorem blk_setAt {w : World} {a : Addr} {t : TypeId} {cs : Array Value} (h : Blk w a.block t cs) (hs : a.spot = none) (i : Nat) (u : Value) : Blk (w.setCell (a.add i) u) a.block t (cs.setIfInBounds (a.off + i) u) := by
  rw [add_spot hs]; exact h.set_ _ _
theorem putN_succ (cs : Array Value) (off : Nat) (bs : List UInt8) (k : Nat) : putN cs off bs (k + 1) = (putN cs off bs k).setIfInBounds (off + k) (bval (bs.getD k 0)) := rfl
theorem putN_zero (cs : Array Value) (off : Nat) (bs : List UInt8) : putN cs off bs 0 = cs := rfl
/-- The byte that lay writes. -/
theorem lay_byte (n x k : Nat) (hk : k < n) : Value.int .u8 (IntKind.u8.wrap ((x : Int) / 2 ^ (8 * k))) = bval ((le n x).getD k 0) := by
  have h := le_get n x k hk
  have e : (x : Int) / 2 ^ (8 * k) = ((x / 2 ^ (8 * k) : Nat) : Int) := by simp
  rw [e, IntKind.wrap_u8', List.getD_eq_getElem?_getD, h]
  unfold bval
  simp only [Option.getD_some, UInt8.toNat_ofNat']
  rw [pow256]
  congr 1
  generalize x / 2 ^ (8 * k) = y
  omega
theorem small_test {n x : Nat} (h : x < 256 ^ n) : ((x : Int) / 2 ^ (8 * n) != 0) = false := by
  rw [pow256] at h
  have e : (x : Int) / 2 ^ (8 * n) = ((x / 2 ^ (8 * n) : Nat) : Int) := by simp
  rw [e, Nat.div_eq_of_lt h]; rfl
theorem big_test {n x : Nat} (h : ¬ x < 256 ^ n) : ((x : Int) / 2 ^ (8 * n) != 0) = true := by
  rw [pow256] at h
  have e : (x : Int) / 2 ^ (8 * n) = ((x / 2 ^ (8 * n) : Nat) : Int) := by simp
  have : 0 < x / 2 ^ (8 * n) := Nat.div_pos (by omega) (Nat.two_pow_pos _)
  rw [e]
  generalize x / 2 ^ (8 * n) = y at this
  simp; omega

theorem lay_yes (a : Addr) (n cap x : Nat) (cs : Array Value) (w : World) (h1 : 1 ≤ n) (h8 : n ≤ 8) (hx : x < 256 ^ n) (hs : a.spot = none) (hcs : a.off + n ≤ cs.size) (hb : Blk w a.block 5 cs) :
    Calls Try.prog 54 #[.slice (some a) n cap, .int .u64 (x : Int)] w fun e w' => e = .returned (.tuple #[]) ∧ Blk w' a.block 5 (putN cs a.off (le n x) n) ∧ w.grownBy w' (some a.block) := by
  have HB := Lib.hid hb
  have ht := small_test hx
  have HCS := Lib.hid hcs
  have HSP := Lib.hid hs
  clear hb hx hcs hs
  by_cases h7 : n < 8
  all_goals
    go_enter Try.func54, Try.ntmps54
    go_wp2_with fail
    go_loopw [20] (fun i wr => ∃ k : Nat, k ≤ n ∧ i = .int .i64 k ∧ Blk wr a.block 5 (putN cs a.off (le n x) k) ∧ w.grownBy wr (some a.block)) (fun i _ => n - (intOf i).toNat)
    case atStart => exact ⟨0, by omega, rfl, by rw [putN_zero]; exact HB.out, World.grownBy.refl _ _⟩
    case round =>
      obtain ⟨k, hk, rfl, hbk, hgr⟩ := hrel
      have HK := Lib.hid hbk
      have HG := Lib.hid hgr
      clear hbk hgr
      by_cases hlt : k < n
      · have hfz := blk_frozenAt HK.out k
        obtain ⟨v, hv⟩ : ∃ v, (putN cs a.off (le n x) k)[a.off + k]? = some v := ⟨_, Array.getElem?_eq_getElem (by rw [putN_size]; have := HCS.out; omega)⟩
        have hc := (blk_cellAt HK.out HSP.out k).trans hv
        have HV := Lib.hid hv
        clear hv
        have hby := lay_byte n x k hlt
        have HBY := Lib.hid hby
        clear hby
        go_wp2_with fail
        go_roundw
        case rel => exact ⟨k + 1, by omega, by go_num, by rw [putN_succ, HBY.out.symm]; exact blk_setAt HK.out HSP.out k _, only_setCell HG.out (.inl (block_of_add a k)) _⟩
        case measure => simp [intOf]; omega
      · obtain rfl : k = n := by omega
        go_wp2_with fail
        exact bodyPost_end (results_none rfl _ _ _) rfl ⟨rfl, HK.out, HG.out⟩

theorem lay_no (A : Option Addr) (n cap x : Nat) (w : World) (h7 : n < 8) (hx : ¬ x < 256 ^ n) :
    Calls Try.prog 54 #[.slice A n cap, .int .u64 (x : Int)] w fun e w' => e = .panicked [{ v := wrong 34, recovered := false }] ∧ w = w' := by
  have ht := big_test hx
  clear hx
  go_enter Try.func54, Try.ntmps54
  go_wp2
  exact ⟨rfl, rfl, rfl⟩
end Go.Proofs.Ytafonjnanfekkaa.Wire
