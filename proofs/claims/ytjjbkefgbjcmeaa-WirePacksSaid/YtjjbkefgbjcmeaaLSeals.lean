/-
  THE WALK of WireSeals.
-/
import Derived.Test.YtjjbkefgbjcmeaaLNumbers
import Derived.Test.YtjjbkefgbjcmeaaLaw3
namespace Go.Proofs.Ytjjbkefgbjcmeaa.Wire
open Go.RowKit
set_option maxHeartbeats 8000000
set_option maxRecDepth 100000
set_option linter.unusedVariables false
set_option linter.unusedSimpArgs false

theorem own_bytes {w : World} {base n c : Nat} {A : Option Addr} {bs : List UInt8} (h : w.ownsRow base 5 1 (.slice A n c) n (bvl bs)) : BytesAt w A n bs := by
  obtain ⟨A2, c2, e2, h2, _⟩ := own_slice h
  injection e2 with e2 _ _
  rw [e2]; exact h2

theorem wireSeals_run (A : Option Addr) (n cap : Nat) (bs : List UInt8) (s o : BitVec 32) (W : World) (hn : n ≤ cap) (hc : cap ≤ 140737488351232) (hA : A = none → n = 0 ∧ cap = 0) (hb : BytesAt W A n bs) :
    Calls Try.prog 7 #[.slice A n cap, .int .u32 (s.toNat : Int), .int .u32 (o.toNat : Int)] W fun e w' => e = .returned (.bool true) ∧ Below W.heap.size W w' := by
  have hbl := hb.len
  have HB := Lib.hid hb
  have HBL := Lib.hid hbl
  clear hb hbl
  go_enter Try.func7, Try.ntmps7
  go_wp2_with fail
  refine (awake_true _).mono ?_
  rintro e w1 ⟨rfl, hb1⟩
  have B1 := Lib.hid hb1
  clear hb1
  go_wp2_with fail
  refine (lent_any A n cap bs _ (by omega) hA (HB.out.below B1.out)).mono ?_
  rintro e w2 ⟨g, c, rfl, hown, hb2⟩
  have hg2 : g < w2.heap.size := (own_blk hown).elim fun cs h => h.2.1.lt
  have B2 := Lib.hid (below_all B1.out B1.out.size hb2)
  obtain ⟨hk, hnc, hc64⟩ := own_head hown HBL.out
  have hg1 : w1.heap.size ≤ g := (own_blk hown).elim fun cs h => h.1
  have hw1 := B1.out.size
  have HO := Lib.hid hown
  clear hown hb2 hk
  go_wp2_with fail
  refine (copied_any A n cap bs _ (by omega) hA (HB.out.below B2.out)).mono ?_
  rintro e w3 ⟨v, rfl, hl3, hb3⟩
  have O3 := Lib.hid (own_below HO.out hb3)
  have B3 := Lib.hid (below_all B2.out B2.out.size hb3)
  obtain ⟨A', c', rfl, _, hnc', hcm', hA', _⟩ := own_slice hl3
  have L3 := Lib.hid hl3
  have hc64' : c' ≤ 9223372036854775807 := by unfold maxLen at hcm'; omega
  have hap : (Value.slice A' n c').ownBlock ≠ some g := own_apart O3.out hg2 hl3
  have HAP := Lib.hid hap
  clear hl3 hb3 hcm' hA' hap HO
  go_wp2_with fail
  refine (sealed_any _ n c s bs _ hnc hc64 (own_head O3.out HBL.out).1).mono ?_
  rintro e w4 ⟨rfl, hb4⟩
  have O4 := Lib.hid (own_below O3.out hb4)
  have L4 := Lib.hid (own_below L3.out hb4)
  have B4 := Lib.hid (below_all B3.out B3.out.size hb4)
  clear hb4 O3 L3
  go_wp2_with fail
  refine (ref_sealed_any A' n c' s bs _ hnc' hc64' (own_bytes L4.out)).mono ?_
  rintro e w5 ⟨rfl, rfl⟩
  generalize hsb : sealedB s bs = sb
  clear hsb
  go_wp2_with fail
  refine (seal_row _ g n c (n + 2) bs [201, 202] s _ HBL.out (by omega) O4.out).mono ?_
  rintro e w5 ⟨rfl, ho5, hg5⟩
  have O5 := Lib.hid ho5
  have L5 := Lib.hid (own_kept L4.out hg5 (fun e => HAP.out e.symm))
  have B5 := Lib.hid (below_own O4.out B4.out (by omega) hg5)
  clear ho5 hg5 O4 L4
  go_wp2_with fail
  refine (ref_seal_row _ n c' A' bs s _ HBL.out L5.out).mono ?_
  rintro e w6 ⟨rfl, hl6, hg6⟩
  have O6 := Lib.hid (own_kept O5.out hg6 HAP.out)
  have L6 := Lib.hid hl6
  have B6 := Lib.hid (below_own L5.out B5.out (by have := B2.out.size; omega) hg6)
  clear hl6 hg6 O5 L5
  generalize hpe : sealE n = pe
  generalize hpb : sealB s bs = bs' at O6 L6
  clear hpe hpb
  have hbl' := own_len (N := 0) O6.out
  have HBL' := Lib.hid hbl'
  clear hbl'
  cases sb
  all_goals
    go_wp2_with fail
    refine (same_any _ _ n n c c' bs' bs' _ (by omega) (own_head O6.out HBL'.out).1 (own_bytes L6.out)).mono ?_
    rintro e w7 ⟨rfl, q, rfl⟩
    rw [show (bs' == bs') = true by simp]
    go_wp2_with fail
    refine (marked_any w1.heap.size g c n bs' (w6.drewN q) HBL'.out O6.out).mono ?_
    rintro e w8 ⟨rfl, rfl⟩
    go_wp2_with fail
    refine (sealed_any _ n c o bs' (w6.drewN q) hnc hc64 (own_head O6.out HBL'.out).1).mono ?_
    rintro e w9 ⟨rfl, hb9⟩
    have B9 := Lib.hid (below_all (below_drewN B6.out q) B6.out.size hb9)
    have L9 := Lib.hid (own_below (w := w6.drewN q) L6.out hb9)
    clear hb9
    go_wp2_with fail
    refine (ref_sealed_any A' n c' o bs' _ hnc' hc64' (own_bytes L9.out)).mono ?_
    rintro e w10 ⟨rfl, rfl⟩
    generalize hsb2 : sealedB o bs' = sb2
    clear hsb2
    cases sb2
    all_goals
      go_wp2_with fail
      go_ret
      exact ⟨rfl, B9.out⟩

theorem wireSeals_walk (w : World) (a0 : Option Addr) (len0 cap0 : Nat) (z0 : List Int) (w0 : IsRow .u8 w a0 len0 cap0 z0) (e0 : cap0 * 1 ≤ 140737488351232)
    (a1 : Int) (w1 : (Lit.int .u32 a1).wf = true) (a2 : Int) (w2 : (Lit.int .u32 a2).wf = true) :
    Calls Try.prog 7 #[.slice a0 len0 cap0, .int .u32 a1, .int .u32 a2] w fun e w' => e = .returned (.bool true) ∧ Below w.heap.size w w' := by
  obtain ⟨s, rfl⟩ := wf_u32 w1
  obtain ⟨o, rfl⟩ := wf_u32 w2
  obtain ⟨bs, hb, hl, hA⟩ := row_bytes w0
  exact wireSeals_run a0 len0 cap0 bs s o w hl (by omega) hA hb
end Go.Proofs.Ytjjbkefgbjcmeaa.Wire
