
/-
  layer 1: Put and Seal upon a row of one's own, the program's and the reference's; the reference's Sealed.
-/
import Derived.Test.YtafonjnanfekkaaA
import Derived.Test.YtafonjnanfekkaaWire5
import Derived.Test.YtafonjnanfekkaaRef2
import Derived.Test.YtafonjnanfekkaaRef3
namespace Go.Proofs.Ytafonjnanfekkaa.Wire
open Go.RowKit
set_option maxHeartbeats 8000000
set_option maxRecDepth 100000
set_option linter.unusedVariables false
set_option linter.unusedSimpArgs false

theorem lays_tail (bs new tail : List UInt8) (off : Nat) (h : off + new.length ≤ bs.length) : lays (bs ++ tail) off new = lays bs off new ++ tail := by
  simp only [lays]
  rw [List.take_append_of_le_length (by omega), List.drop_append_of_le_length h]
  simp only [List.append_assoc]

theorem put_row (base g n c N : Nat) (bs tail : List UInt8) (at_ m : Int) (x : Nat) (w : World) (hx64 : x < 18446744073709551616) (hbl : bs.length = n) (hN : n ≤ N)
    (hown : w.ownsRow base 5 1 (.slice (some ⟨g, 0, none⟩) N c) N (bvl (bs ++ tail))) :
    Calls Try.prog 49 #[.slice (some ⟨g, 0, none⟩) n c, .int .i64 at_, .int .i64 m, .int .u64 (x : Int)] w fun e w' => e = .returned (.int .i64 (putE n at_ m x)) ∧
      w'.ownsRow base 5 1 (.slice (some ⟨g, 0, none⟩) N c) N (bvl (putB bs at_ m x ++ tail)) ∧ w.grownBy w' (some g) := by
  obtain ⟨cs, hb0, hblk, hc1, hc2, hc3⟩ := own_blk hown
  have h64 : c ≤ 9223372036854775807 := by unfold maxLen at hc2; omega
  cases hf : fits n at_ m
  · have e1 : putE n at_ m x = 22 := by simp [putE, hf]
    have e2 : putB bs at_ m x = bs := by simp [putB, hbl, hf]
    rw [e1, e2]
    exact (put_no _ n c at_ m x w (by omega) hf).mono fun e w' ⟨he, hb⟩ => ⟨he, own_below hown hb, only_of_below hb _⟩
  · by_cases hx : x < 256 ^ m.toNat
    · obtain ⟨h1, h2, h3, h4, h5⟩ := fits_true hf
      have e1 : putE n at_ m x = 0 := by simp [putE, hf, hx]
      have e2 : putB bs at_ m x = lays bs at_.toNat (le m.toNat x) := by simp [putB, hbl, hf, hx]; rfl
      rw [e1, e2]
      refine (put_ok ⟨g, 0, none⟩ n c x at_ m cs w (by omega) (by omega) hf hx rfl (by simp; omega) hblk).mono fun e w' ⟨he, hb, hg⟩ => ⟨he, ?_, hg⟩
      rw [← lays_tail _ _ _ _ (by rw [le_length]; omega)]
      refine own_put hown hblk (by rw [le_length]; omega) ?_
      rw [le_length]
      rw [show (⟨g, 0, none⟩ : Addr).off + at_.toNat = at_.toNat by simp] at hb
      exact hb
    · have e1 : putE n at_ m x = 34 := by simp [putE, hf, hx]
      have e2 : putB bs at_ m x = bs := by simp [putB, hbl, hf, hx]
      rw [e1, e2]
      exact (put_big _ n c x at_ m w (by omega) (by omega) hf hx hx64).mono fun e w' ⟨he, hb⟩ => ⟨he, own_below hown hb, only_of_below hb _⟩

theorem sealB_lays (seed : BitVec 32) (bs : List UInt8) (h : 4 ≤ bs.length) : sealB seed bs = lays bs (bs.length - 4) (le 4 (crc seed (bs.take (bs.length - 4))).toNat) := by
  rw [sealB, if_pos h, lays, List.drop_of_length_le (by rw [le_length]; omega), List.append_nil]

theorem seal_row (base g n c N : Nat) (bs tail : List UInt8) (seed : BitVec 32) (w : World) (hbl : bs.length = n) (hN : n ≤ N)
    (hown : w.ownsRow base 5 1 (.slice (some ⟨g, 0, none⟩) N c) N (bvl (bs ++ tail))) :
    Calls Try.prog 19 #[.slice (some ⟨g, 0, none⟩) n c, .int .u32 (seed.toNat : Int)] w fun e w' => e = .returned (.int .i64 (sealE n)) ∧
      w'.ownsRow base 5 1 (.slice (some ⟨g, 0, none⟩) N c) N (bvl (sealB seed bs ++ tail)) ∧ w.grownBy w' (some g) := by
  obtain ⟨cs, hb0, hblk, hc1, hc2, hc3⟩ := own_blk hown
  have h64 : c ≤ 9223372036854775807 := by unfold maxLen at hc2; omega
  by_cases h4 : 4 ≤ n
  · have e1 : sealE n = 0 := by simp [sealE, h4]
    have hby : BytesAt w (some ⟨g, 0, none⟩) n bs := by
      have := (BytesAt.of_own hown).take_ n hN
      rwa [List.take_append_of_le_length (by omega), List.take_of_length_le (by omega)] at this
    rw [e1, sealB_lays seed bs (by omega)]
    refine (seal_ok ⟨g, 0, none⟩ n c seed bs cs w (by omega) h64 h4 rfl (by simp; omega) hblk hby).mono fun e w' ⟨he, hb, hg⟩ => ⟨he, ?_, hg⟩
    rw [← lays_tail _ _ _ _ (by rw [le_length]; omega), hbl]
    refine own_put hown hblk (by rw [le_length]; omega) ?_
    rw [le_length]
    rw [show (⟨g, 0, none⟩ : Addr).off + (n - 4) = n - 4 by simp] at hb
    exact hb
  · have e1 : sealE n = 22 := by simp [sealE, h4]
    have e2 : sealB seed bs = bs := by rw [sealB, if_neg (by omega)]
    rw [e1, e2]
    exact (seal_no _ n c seed w (by omega) h4).mono fun e w' ⟨he, hb⟩ => ⟨he, own_below hown hb, only_of_below hb _⟩

theorem ref_byte (n x k : Nat) (hk : k < n) (y : Nat) (hy : x / 256 ^ k = y) : Value.int .u8 ((y : Int) % 256) = bval ((le n x).getD k 0) := by
  subst hy
  have h := le_get n x k hk
  rw [List.getD_eq_getElem?_getD, h]
  simp only [Option.getD_some, bval]
  have : x / 256 ^ k % 256 < 2 ^ 8 := Nat.mod_lt _ (by omega)
  rw [UInt8.toNat_ofNat', Nat.mod_eq_of_lt this]
  congr 1

theorem ref_put_ok (a : Addr) (len cap x : Nat) (at_ n : Int) (cs : Array Value) (w : World) (hl : len ≤ cap) (hcp : cap ≤ 9223372036854775807) (hf : fits len at_ n = true) (hx : x < 256 ^ n.toNat) (hx64 : x < 18446744073709551616)
    (hs : a.spot = none) (hcs : a.off + len ≤ cs.size) (hb : Blk w a.block 5 cs) :
    Calls Try.prog 97 #[.slice (some a) len cap, .int .i64 at_, .int .i64 n, .int .u64 (x : Int)] w fun e w' => e = .returned (.int .i64 0) ∧
      Blk w' a.block 5 (putN cs (a.off + at_.toNat) (le n.toNat x) n.toNat) ∧ w.grownBy w' (some a.block) := by
  obtain ⟨h1, h2, h3, h4, h5⟩ := fits_true hf
  have HF := Lib.hid (ref_fits (some a) len cap at_ n w (by omega))
  rw [hf] at HF
  have HS := Lib.hid (ref_small x n.toNat w hx64 (by omega))
  rw [show ((n.toNat : Nat) : Int) = n by omega, show decide (x < 256 ^ n.toNat) = true by simpa using hx] at HS
  have HB := Lib.hid hb
  have HCS := Lib.hid hcs
  have HSP := Lib.hid hs
  clear hf hx hb hcs hs
  go_enter Try.func97, Try.ntmps97
  go_wp2_with (first | (go_at_call 108; refine HF.out.mono ?_; rintro e w' ⟨rfl, rfl⟩) | (go_at_call 109; refine HS.out.mono ?_; rintro e w' ⟨rfl, rfl⟩))
  go_loopw [3, 9] (fun y i wr => ∃ k : Nat, k ≤ n.toNat ∧ i = .int .i64 k ∧ y = .int .u64 ((x / 256 ^ k : Nat) : Int) ∧ Blk wr a.block 5 (putN cs (a.off + at_.toNat) (le n.toNat x) k) ∧ w.grownBy wr (some a.block)) (fun _ i _ => n.toNat - (intOf i).toNat)
  case atStart => exact ⟨0, by omega, rfl, by simp, by rw [putN_zero]; exact HB.out, World.grownBy.refl _ _⟩
  case round =>
    clear HF HS
    obtain ⟨k, hk, rfl, rfl, hbk, hgr⟩ := hrel
    have HK := Lib.hid hbk
    have HG := Lib.hid hgr
    clear hbk hgr
    have hlt64 : x / 256 ^ k < 18446744073709551616 := Nat.lt_of_le_of_lt (Nat.div_le_self _ _) hx64
    by_cases hlt : k < n.toNat
    · have hds := div_step x k
      obtain ⟨y, hy⟩ : ∃ y, x / 256 ^ k = y := ⟨_, rfl⟩
      have hfz0 := blk_frozenAt (a := a.add at_.toNat) (by rw [block_of_add]; exact HK.out) k
      have hfz : wr.frozen? (a.add (at_.toNat + k)) = false := by rw [← add_of_add]; exact hfz0
      obtain ⟨v, hv⟩ : ∃ v, (putN cs (a.off + at_.toNat) (le n.toNat x) k)[a.off + (at_.toNat + k)]? = some v := ⟨_, Array.getElem?_eq_getElem (by rw [putN_size]; have := HCS.out; omega)⟩
      have hc := (blk_cellAt HK.out HSP.out (at_.toNat + k)).trans hv
      have hby := ref_byte n.toNat x k hlt y hy
      rw [hy] at hds hlt64 ⊢
      have HV := Lib.hid hv
      have HDS := Lib.hid hds
      have HBY := Lib.hid hby
      have HY := Lib.hid hy
      clear hv hds hby hy hfz0
      have hto : (at_ + (k : Int)).toNat = at_.toNat + k := by omega
      have hwr2 : IntKind.i64.wrap (at_ + (k : Int)) = at_ + (k : Int) := by rw [IntKind.wrap_i64]; omega
      go_wp2_with fail
      go_roundw
      case rel =>
        refine ⟨k + 1, by omega, by go_num, by rw [← HDS.out]; simp, ?_, only_setCell HG.out (.inl (block_of_add a _)) _⟩
        rw [putN_succ, HBY.out.symm]
        have := blk_setAt HK.out HSP.out (at_.toNat + k) (.int .u8 ((y : Int) % 256))
        rw [← Nat.add_assoc] at this
        exact this
      case measure => simp [intOf]; omega
    · obtain rfl : k = n.toNat := by omega
      generalize x / 256 ^ n.toNat = y at hlt64 ⊢
      have hnn : ¬ ((n.toNat : Nat) : Int) < n := by omega
      go_wp2_with fail
      go_ret
      exact ⟨rfl, HK.out, HG.out⟩

theorem ref_put_no (A : Option Addr) (len cap x : Nat) (at_ n : Int) (w : World) (hl : len ≤ 9223372036854775807) (hf : fits len at_ n = false) :
    Calls Try.prog 97 #[.slice A len cap, .int .i64 at_, .int .i64 n, .int .u64 (x : Int)] w fun e w' => e = .returned (.int .i64 22) ∧ w = w' := by
  have HF := Lib.hid (ref_fits A len cap at_ n w (by omega))
  rw [hf] at HF
  clear hf
  go_enter Try.func97, Try.ntmps97
  go_wp2_with (go_at_call 108; refine HF.out.mono ?_; rintro e w' ⟨rfl, rfl⟩)
  go_ret
  exact ⟨rfl, rfl⟩

theorem ref_put_big (A : Option Addr) (len cap x : Nat) (at_ n : Int) (w : World) (hl : len ≤ 9223372036854775807) (hf : fits len at_ n = true) (hx : ¬ x < 256 ^ n.toNat) (hx64 : x < 18446744073709551616) :
    Calls Try.prog 97 #[.slice A len cap, .int .i64 at_, .int .i64 n, .int .u64 (x : Int)] w fun e w' => e = .returned (.int .i64 34) ∧ w = w' := by
  obtain ⟨h1, h2, h3, h4, h5⟩ := fits_true hf
  have HF := Lib.hid (ref_fits A len cap at_ n w (by omega))
  rw [hf] at HF
  have HS := Lib.hid (ref_small x n.toNat w hx64 (by omega))
  rw [show ((n.toNat : Nat) : Int) = n by omega, show decide (x < 256 ^ n.toNat) = false by simpa using hx] at HS
  clear hf hx
  go_enter Try.func97, Try.ntmps97
  go_wp2_with (first | (go_at_call 108; refine HF.out.mono ?_; rintro e w' ⟨rfl, rfl⟩) | (go_at_call 109; refine HS.out.mono ?_; rintro e w' ⟨rfl, rfl⟩))
  go_ret
  exact ⟨rfl, rfl⟩

theorem ref_put_row (base n c : Nat) (A : Option Addr) (bs : List UInt8) (at_ m : Int) (x : Nat) (w : World) (hx64 : x < 18446744073709551616) (hbl : bs.length = n)
    (hown : w.ownsRow base 5 1 (.slice A n c) n (bvl bs)) :
    Calls Try.prog 97 #[.slice A n c, .int .i64 at_, .int .i64 m, .int .u64 (x : Int)] w fun e w' => e = .returned (.int .i64 (putE n at_ m x)) ∧
      w'.ownsRow base 5 1 (.slice A n c) n (bvl (putB bs at_ m x)) ∧ w.grownBy w' (Value.slice A n c).ownBlock := by
  obtain ⟨A', c', e0, hby, hnc, hcm, _, _⟩ := own_slice hown
  obtain ⟨rfl, rfl⟩ : A = A' ∧ c = c' := by injection e0 with e1 e2 e3; exact ⟨e1, e3⟩
  have hn64 : n ≤ 9223372036854775807 := by unfold maxLen at hcm; omega
  cases hf : fits n at_ m
  · have e1 : putE n at_ m x = 22 := by simp [putE, hf]
    have e2 : putB bs at_ m x = bs := by simp [putB, hbl, hf]
    rw [e1, e2]
    exact (ref_put_no _ n c x at_ m w hn64 hf).mono fun e w' ⟨he, hb⟩ => by subst hb; exact ⟨he, hown, World.grownBy.refl _ _⟩
  · by_cases hx : x < 256 ^ m.toNat
    · obtain ⟨h1, h2, h3, h4, h5⟩ := fits_true hf
      have e1 : putE n at_ m x = 0 := by simp [putE, hf, hx]
      have e2 : putB bs at_ m x = lays bs at_.toNat (le m.toNat x) := by simp [putB, hbl, hf, hx]; rfl
      rw [e1, e2]
      obtain ⟨g, cap, cs, e3, _, hblk, _, _, hcs⟩ := own_form hown (by omega)
      obtain ⟨rfl, rfl⟩ : A = some ⟨g, 0, none⟩ ∧ c = cap := by injection e3 with e1 e2 e3; exact ⟨e1, e3⟩
      refine (ref_put_ok ⟨g, 0, none⟩ n c x at_ m cs w hnc (by unfold maxLen at hcm; omega) hf hx hx64 rfl (by simp; omega) hblk).mono fun e w' ⟨he, hb, hg⟩ => ⟨he, ?_, hg⟩
      refine own_put hown hblk (by rw [le_length]; omega) ?_
      rw [le_length]
      rw [show (⟨g, 0, none⟩ : Addr).off + at_.toNat = at_.toNat by simp] at hb
      exact hb
    · have e1 : putE n at_ m x = 34 := by simp [putE, hf, hx]
      have e2 : putB bs at_ m x = bs := by simp [putB, hbl, hf, hx]
      rw [e1, e2]
      exact (ref_put_big _ n c x at_ m w hn64 hf hx hx64).mono fun e w' ⟨he, hb⟩ => by subst hb; exact ⟨he, hown, World.grownBy.refl _ _⟩
end Go.Proofs.Ytafonjnanfekkaa.Wire
