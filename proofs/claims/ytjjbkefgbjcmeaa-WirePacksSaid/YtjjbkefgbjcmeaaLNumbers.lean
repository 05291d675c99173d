/-
  THE WALK of WireNumbers.
-/
import Derived.Test.YtjjbkefgbjcmeaaLSums
namespace Go.Proofs.Ytjjbkefgbjcmeaa.Wire
open Go.RowKit
set_option maxHeartbeats 8000000
set_option maxRecDepth 100000
set_option linter.unusedVariables false
set_option linter.unusedSimpArgs false

/-- Two rows made one behind the other lie apart. -/
theorem own_apart {w : World} {b1 b2 g n c m : Nat} {t : TypeId} {v : Value} {xs ys : List Value} (h : w.ownsRow b1 t 1 (.slice (some ⟨g, 0, none⟩) n c) n xs) (hlt : g < b2)
    (h2 : w.ownsRow b2 t 1 v m ys) : v.ownBlock ≠ some g := by
  intro e
  have := (h2.lt g e).1
  omega
theorem own_kept {w w' : World} {base : Nat} {t : TypeId} {v : Value} {n : Nat} {xs : List Value} {row : Option Nat} (h : w.ownsRow base t 1 v n xs) (hb : w.grownBy w' row) (hne : row ≠ v.ownBlock) : w'.ownsRow base t 1 v n xs :=
  h.kept hb (.inr fun e => hne e.symm)
theorem own_len {w : World} {base N n : Nat} {v : Value} {bs : List UInt8} {x y : UInt8} (h : w.ownsRow base 5 1 v (n + 2) (bvl (bs ++ [x, y]))) : bs.length = n := by
  have := h.1
  rw [bvl_length] at this
  simp at this; omega

theorem wireNumbers_run (A : Option Addr) (n cap : Nat) (bs : List UInt8) (at_ m : Int) (x : Nat) (W : World) (hn : n ≤ cap) (hc : cap ≤ 140737488351232) (hx : x < 18446744073709551616) (hA : A = none → n = 0 ∧ cap = 0) (hb : BytesAt W A n bs) :
    Calls Try.prog 4 #[.slice A n cap, .int .i64 at_, .int .i64 m, .int .u64 (x : Int)] W fun e w' => e = .returned (.bool true) ∧ Below W.heap.size W w' := by
  have hbl := hb.len
  have HB := Lib.hid hb
  have HBL := Lib.hid hbl
  clear hb hbl
  go_enter Try.func4, Try.ntmps4
  go_wp2_with fail
  refine (awake_true _).mono ?_
  rintro e w1 ⟨rfl, hb1⟩
  have B1 := Lib.hid hb1
  clear hb1
  go_wp2_with fail
  refine (lent_any A n cap bs _ (by omega) hA (HB.out.below B1.out)).mono ?_
  rintro e w2 ⟨g, c, rfl, hown, hb2⟩
  have hg2 : g < w2.heap.size := (own_blk hown).elim fun cs h => h.2.1.lt
  have B2 := Lib.hid (below_all B1.out B1.out.size hb2)
  obtain ⟨hk, hnc, hc64⟩ := own_head hown HBL.out
  have hg1 : w1.heap.size ≤ g := (own_blk hown).elim fun cs h => h.1
  have hw1 := B1.out.size
  have HO := Lib.hid hown
  clear hown hb2 hk
  go_wp2_with fail
  refine (copied_any A n cap bs _ (by omega) hA (HB.out.below B2.out)).mono ?_
  rintro e w3 ⟨v, rfl, hl3, hb3⟩
  have O3 := Lib.hid (own_below HO.out hb3)
  have B3 := Lib.hid (below_all B2.out B2.out.size hb3)
  obtain ⟨A', c', rfl, _, hnc', hcm', hA', _⟩ := own_slice hl3
  have L3 := Lib.hid hl3
  have hc64' : c' ≤ 9223372036854775807 := by unfold maxLen at hcm'; omega
  have hap : (Value.slice A' n c').ownBlock ≠ some g := own_apart O3.out hg2 hl3
  have HAP := Lib.hid hap
  clear hl3 hb3 hcm' hA' hap HO
  go_wp2_with fail
  refine (get_any _ n c at_ m bs _ hnc hc64 (own_head O3.out HBL.out).1).mono ?_
  rintro e w4 ⟨rfl, hb4⟩
  have O4 := Lib.hid (own_below O3.out hb4)
  have L4 := Lib.hid (own_below L3.out hb4)
  have B4 := Lib.hid (below_all B3.out B3.out.size hb4)
  clear hb4 O3 L3
  go_wp2_with fail
  refine (ref_get A n cap at_ m bs _ hn (by omega) (HB.out.below B4.out)).mono ?_
  rintro e w5 ⟨rfl, rfl⟩
  generalize hgx : getX bs at_ m = gx
  generalize hge : getE n at_ m = ge
  clear hgx hge
  go_wp2_with fail
  refine (put_row _ g n c (n + 2) bs [201, 202] at_ m x _ hx HBL.out (by omega) O4.out).mono ?_
  rintro e w5 ⟨rfl, ho5, hg5⟩
  have O5 := Lib.hid ho5
  have L5 := Lib.hid (own_kept L4.out hg5 (fun e => HAP.out e.symm))
  have B5 := Lib.hid (below_own O4.out B4.out (by omega) hg5)
  clear ho5 hg5 O4 L4
  go_wp2_with fail
  refine (ref_put_row _ n c' A' bs at_ m x _ hx HBL.out L5.out).mono ?_
  rintro e w6 ⟨rfl, hl6, hg6⟩
  have O6 := Lib.hid (own_kept O5.out hg6 HAP.out)
  have L6 := Lib.hid hl6
  have B6 := Lib.hid (below_own L5.out B5.out (by have := B2.out.size; omega) hg6)
  clear hl6 hg6 O5 L5
  generalize hpe : putE n at_ m x = pe
  generalize hpb : putB bs at_ m x = bs' at O6 L6
  clear hpe hpb
  have hbl' := own_len (N := 0) O6.out
  have HBL' := Lib.hid hbl'
  clear hbl'
  go_wp2_with fail
  refine (same_any _ _ n n c c' bs' bs' _ (by omega) (own_head O6.out HBL'.out).1 (by
    obtain ⟨A2, c2, e2, h2, _⟩ := own_slice L6.out
    injection e2 with e2 _ _
    rw [e2]; exact h2)).mono ?_
  rintro e w7 ⟨rfl, q, rfl⟩
  rw [show (bs' == bs') = true by simp]
  go_wp2_with fail
  refine (marked_any w1.heap.size g c n bs' (w6.drewN q) HBL'.out O6.out).mono ?_
  rintro e w8 ⟨rfl, rfl⟩
  go_wp2_with fail
  go_ret
  exact ⟨rfl, below_drewN B6.out _⟩

theorem wireNumbers_walk (w : World) (a0 : Option Addr) (len0 cap0 : Nat) (z0 : List Int) (w0 : IsRow .u8 w a0 len0 cap0 z0) (e0 : cap0 * 1 ≤ 140737488351232)
    (a1 : Int) (w1 : (Lit.int .i64 a1).wf = true) (a2 : Int) (w2 : (Lit.int .i64 a2).wf = true) (a3 : Int) (w3 : (Lit.int .u64 a3).wf = true) :
    Calls Try.prog 4 #[.slice a0 len0 cap0, .int .i64 a1, .int .i64 a2, .int .u64 a3] w fun e w' => e = .returned (.bool true) ∧ Below w.heap.size w w' := by
  obtain ⟨x, rfl, hx⟩ := wf_u64 w3
  obtain ⟨bs, hb, hl, hA⟩ := row_bytes w0
  exact wireNumbers_run a0 len0 cap0 bs a1 a2 x w hl (by omega) hx hA hb
end Go.Proofs.Ytjjbkefgbjcmeaa.Wire
