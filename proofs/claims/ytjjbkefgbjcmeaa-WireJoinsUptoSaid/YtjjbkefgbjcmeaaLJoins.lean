/-
  THE WALK of WireJoins, where the two rows together are not too long.
-/
import Derived.Test.YtjjbkefgbjcmeaaLNumbers
namespace Go.Proofs.Ytjjbkefgbjcmeaa.Wire
open Go.RowKit
set_option maxHeartbeats 8000000
set_option maxRecDepth 100000
set_option linter.unusedVariables false
set_option linter.unusedSimpArgs false

theorem wireJoins_run (s : BitVec 32) (A B : Option Addr) (n ca m cb : Nat) (xs bs : List UInt8) (W : World) (hn : n ≤ 1048576) (hm : m ≤ 1048576) (hA : A = none → n = 0 ∧ ca = 0) (hB : B = none → m = 0 ∧ cb = 0)
    (ha : BytesAt W A n xs) (hb : BytesAt W B m bs) :
    Calls Try.prog 5 #[.int .u32 (s.toNat : Int), .slice A n ca, .slice B m cb] W fun e w' => e = .returned (.bool true) ∧ Below W.heap.size W w' := by
  have HAB := Lib.hid ha
  have HBB := Lib.hid hb
  clear ha hb
  go_enter Try.func5, Try.ntmps5
  go_wp2_with fail
  refine (awake_true _).mono ?_
  rintro e w1 ⟨rfl, hb1⟩
  have HA1 := Lib.hid ((HAB.out.below hb1).alloc (.cells #[] 5))
  have B1 := Lib.hid (hb1.alloc hb1.size (.cells #[] 5))
  have hlit : (w1.alloc (.cells #[] 5)).ownsRow w1.heap.size 5 1 (.slice (some ⟨w1.heap.size, 0, none⟩) 0 0) 0 [] := World.ownsRow_lit w1 #[] 0 (Nat.le_refl _) (by unfold maxLen; omega) rfl
  have HLIT := Lib.hid hlit
  have hw1 := hb1.size
  have HA := Lib.hid hA
  have HB := Lib.hid hB
  clear hb1 hlit hA hB
  go_wp2_with (first
    | (at_builtin
       refine app_u8 _ rfl (.tmp 10) (.tmp 11) rfl w1.heap.size (.slice (some ⟨w1.heap.size, 0, none⟩) 0 0) 0 [] rfl HLIT.out A n ca xs rfl HA.out HA1.out (by omega) (by simp) ?_
       intro v w2 hown hg
       rw [Nat.zero_add, List.nil_append] at hown
       have B2 := Lib.hid (below_own HLIT.out B1.out (by omega) hg)
       have hsz2 := hg.size
       have O2 := Lib.hid hown
       clear hown hg)
    | (at_builtin
       refine app_u8 _ rfl (.tmp 12) (.tmp 13) rfl w1.heap.size v n (bvl xs) rfl O2.out B m cb bs rfl HB.out (HBB.out.below B2.out) (by omega) (by simp at hsz2; omega) ?_
       intro v3 w3 hown hg
       rw [bvl, bvl, ← List.map_append] at hown
       have B3 := Lib.hid (below_own O2.out B2.out (by omega) hg)
       obtain ⟨A', c', rfl, hby, hnc', hcm', _, _⟩ := own_slice (bs := xs ++ bs) hown
       have hc64' : c' ≤ 9223372036854775807 := by unfold maxLen at hcm'; omega
       have O3 := Lib.hid hby
       clear hown hg hcm' hby)
    | fail)
  refine (crc_any s A' (n + m) c' (xs ++ bs) _ (by omega) O3.out).mono ?_
  rintro e w4 ⟨rfl, rfl⟩
  rw [crc_append]
  go_wp2_with fail
  refine (crc_any s A n ca xs _ (by omega) (HAB.out.below B3.out)).mono ?_
  rintro e w4 ⟨rfl, rfl⟩
  generalize crc s xs = t
  go_wp2_with fail
  refine (crc_any t B m cb bs _ (by omega) (HBB.out.below B3.out)).mono ?_
  rintro e w4 ⟨rfl, rfl⟩
  generalize crc t bs = u
  go_wp2_with fail
  go_ret
  exact ⟨rfl, B3.out⟩

theorem wireJoins_walk (w : World) (a0 : Int) (w0 : (Lit.int .u32 a0).wf = true) (a1 : Option Addr) (len1 cap1 : Nat) (z1 : List Int) (w1 : IsRow .u8 w a1 len1 cap1 z1) (e1 : cap1 * 1 ≤ 140737488351232 ∧ cap1 ≤ 1048576)
    (a2 : Option Addr) (len2 cap2 : Nat) (z2 : List Int) (w2 : IsRow .u8 w a2 len2 cap2 z2) (e2 : cap2 * 1 ≤ 140737488351232 ∧ cap2 ≤ 1048576) :
    Calls Try.prog 5 #[.int .u32 a0, .slice a1 len1 cap1, .slice a2 len2 cap2] w fun e w' => e = .returned (.bool true) ∧ Below w.heap.size w w' := by
  obtain ⟨s, rfl⟩ := wf_u32 w0
  obtain ⟨xs, ha, hl, hA⟩ := row_bytes w1
  obtain ⟨bs, hb, hl2, hB⟩ := row_bytes w2
  exact wireJoins_run s a1 a2 len1 cap1 len2 cap2 xs bs w (by omega) (by omega) hA hB ha hb
end Go.Proofs.Ytjjbkefgbjcmeaa.Wire
