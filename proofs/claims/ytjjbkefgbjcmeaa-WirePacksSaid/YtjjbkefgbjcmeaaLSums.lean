/-
  THE WALK of WireSums.
-/
import Derived.Test.YtjjbkefgbjcmeaaAwake
import Derived.Test.YtjjbkefgbjcmeaaLaw1
import Derived.Test.YtjjbkefgbjcmeaaI
namespace Go.Proofs.Ytjjbkefgbjcmeaa.Wire
open Go.RowKit
set_option maxHeartbeats 8000000
set_option maxRecDepth 100000
set_option linter.unusedVariables false
set_option linter.unusedSimpArgs false

theorem own_head {w : World} {base g n c : Nat} {bs : List UInt8} {x y : UInt8} (h : w.ownsRow base 5 1 (.slice (some ⟨g, 0, none⟩) (n + 2) c) (n + 2) (bvl (bs ++ [x, y]))) (hbl : bs.length = n) :
    BytesAt w (some ⟨g, 0, none⟩) n bs ∧ n ≤ c ∧ c ≤ 9223372036854775807 := by
  have hb := (BytesAt.of_own h).take_ n (by omega)
  rw [List.take_append_of_le_length (by omega), List.take_of_length_le (by omega)] at hb
  obtain ⟨cs, _, _, h1, h2, _⟩ := own_blk h
  exact ⟨hb, by omega, by unfold maxLen at h2; omega⟩

theorem wireSums_run (s : BitVec 32) (A : Option Addr) (n cap : Nat) (bs : List UInt8) (W : World) (hn : n ≤ 140737488351232) (hA : A = none → n = 0 ∧ cap = 0) (hb : BytesAt W A n bs) :
    Calls Try.prog 3 #[.int .u32 (s.toNat : Int), .slice A n cap] W fun e w' => e = .returned (.bool true) ∧ Below W.heap.size W w' := by
  have hbl := hb.len
  have HB := Lib.hid hb
  have HBL := Lib.hid hbl
  clear hb hbl
  go_enter Try.func3, Try.ntmps3
  go_wp2_with fail
  refine (awake_true _).mono ?_
  rintro e w1 ⟨rfl, hb1⟩
  have B1 := Lib.hid hb1
  clear hb1
  go_wp2_with fail
  refine (lent_any A n cap bs _ hn hA (HB.out.below B1.out)).mono ?_
  rintro e w2 ⟨g, c, rfl, hown, hb2⟩
  have HO := Lib.hid hown
  have B2 := Lib.hid (below_all B1.out B1.out.size hb2)
  obtain ⟨hk, hnc, hc64⟩ := own_head hown HBL.out
  have HK := Lib.hid hk
  clear hown hb2 hk
  go_wp2_with fail
  refine (crc_any s _ n c bs _ (by omega) HK.out).mono ?_
  rintro e w3 ⟨rfl, rfl⟩
  go_wp2_with fail
  refine (ref_crc s A n cap bs _ (by omega) (HB.out.below B2.out)).mono ?_
  rintro e w3 ⟨rfl, rfl⟩
  generalize crc s bs = cc
  go_wp2_with fail
  refine (same_any _ _ n n c cap bs bs _ (by omega) HK.out (HB.out.below B2.out)).mono ?_
  rintro e w4 ⟨rfl, q, rfl⟩
  rw [show (bs == bs) = true by simp]
  go_wp2_with fail
  refine (marked_any w1.heap.size g c n bs (w2.drewN q) HBL.out HO.out).mono ?_
  rintro e w5 ⟨rfl, rfl⟩
  go_wp2_with fail
  go_ret
  exact ⟨rfl, below_drewN B2.out _⟩

theorem wireSums_walk (w : World) (a0 : Int) (w0 : (Lit.int .u32 a0).wf = true) (a1 : Option Addr) (len1 cap1 : Nat) (z1 : List Int) (w1 : IsRow .u8 w a1 len1 cap1 z1) (e1 : cap1 * 1 ≤ 140737488351232) :
    Calls Try.prog 3 #[.int .u32 a0, .slice a1 len1 cap1] w fun e w' => e = .returned (.bool true) ∧ Below w.heap.size w w' := by
  obtain ⟨s, rfl⟩ := wf_u32 w0
  obtain ⟨bs, hb, hl, hA⟩ := row_bytes w1
  exact wireSums_run s a1 len1 cap1 bs w (by omega) hA hb
end Go.Proofs.Ytjjbkefgbjcmeaa.Wire
