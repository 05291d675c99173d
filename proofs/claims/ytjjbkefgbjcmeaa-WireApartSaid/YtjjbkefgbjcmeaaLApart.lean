/-
  THE WALK of WireApart.
-/
import Derived.Test.YtjjbkefgbjcmeaaLNumbers
namespace Go.Proofs.Ytjjbkefgbjcmeaa.Wire
open Go.RowKit
set_option maxHeartbeats 8000000
set_option maxRecDepth 100000
set_option linter.unusedVariables false
set_option linter.unusedSimpArgs false

theorem sub_get {bs : List UInt8} {a n : Int} {i : Nat} : (sub bs a n)[i]? = if i < n.toNat then bs[a.toNat + i]? else none := by
  rw [sub, List.getElem?_take]
  split
  · rw [List.getElem?_drop]
  · rfl

/-- What stands elsewhere stays. -/
theorem get_apart (bs : List UInt8) (at_ n to m : Int) (x : Nat) (hf : fits bs.length at_ n = true) (hg : fits bs.length to m = true) (hap : to + m ≤ at_ ∨ at_ + n ≤ to) : getX (putB bs at_ n x) to m = getX bs to m := by
  by_cases hx : x < 256 ^ n.toNat
  · have e2 : putB bs at_ n x = lays bs at_.toNat (le n.toNat x) := by simp [putB, hf, hx]; rfl
    obtain ⟨h1, h2, h3, h4, h5⟩ := fits_true hf
    obtain ⟨k1, k2, k3, k4, k5⟩ := fits_true hg
    have hlen : (lays bs at_.toNat (le n.toNat x)).length = bs.length := lays_length (by rw [le_length]; omega)
    rw [e2, getX, getX, hlen, if_pos hg, if_pos hg]
    congr 1
    apply List.ext_getElem?
    intro i
    rw [sub_get, sub_get]
    split
    · rw [lays_get (by rw [le_length]; omega), if_neg (by rw [le_length]; omega)]
    · rfl
  · have e2 : putB bs at_ n x = bs := by simp [putB, hf, hx]
    rw [e2]

theorem put_row0 (base n c : Nat) (A : Option Addr) (bs : List UInt8) (at_ m : Int) (x : Nat) (w : World) (hx64 : x < 18446744073709551616) (hbl : bs.length = n)
    (hown : w.ownsRow base 5 1 (.slice A n c) n (bvl bs)) :
    Calls Try.prog 20 #[.slice A n c, .int .i64 at_, .int .i64 m, .int .u64 (x : Int)] w fun e w' => e = .returned (.int .i64 (putE n at_ m x)) ∧
      w'.ownsRow base 5 1 (.slice A n c) n (bvl (putB bs at_ m x)) ∧ w.grownBy w' (Value.slice A n c).ownBlock := by
  by_cases hn : 0 < n
  · obtain ⟨g, cap, cs, e3, _, _⟩ := own_form hown hn
    obtain ⟨rfl, rfl⟩ : A = some ⟨g, 0, none⟩ ∧ c = cap := by injection e3 with e1 e2 e3; exact ⟨e1, e3⟩
    have := put_row base g n c n bs [] at_ m x w hx64 hbl (Nat.le_refl _) (by rw [List.append_nil]; exact hown)
    rw [List.append_nil] at this
    exact this
  · obtain rfl : n = 0 := by omega
    have hf : fits 0 at_ m = false := by simp [fits]; omega
    have e1 : putE 0 at_ m x = 22 := by simp [putE, hf]
    have e2 : putB bs at_ m x = bs := by simp [putB, hbl, hf]
    rw [e1, e2]
    exact (put_no A 0 c at_ m x w (by omega) hf).mono fun e w' ⟨he, hb⟩ => ⟨he, own_below hown hb, only_of_below hb _⟩

theorem wireApart_run (A : Option Addr) (n cap : Nat) (bs : List UInt8) (at_ m : Int) (x : Nat) (to q : Int) (W : World) (hn : n ≤ cap) (hc : cap ≤ 140737488351232) (hx : x < 18446744073709551616) (hA : A = none → n = 0 ∧ cap = 0) (hb : BytesAt W A n bs) :
    Calls Try.prog 6 #[.slice A n cap, .int .i64 at_, .int .i64 m, .int .u64 (x : Int), .int .i64 to, .int .i64 q] W fun e w' => e = .returned (.bool true) ∧ Below W.heap.size W w' := by
  have hbl := hb.len
  have HB := Lib.hid hb
  have HBL := Lib.hid hbl
  clear hb hbl
  go_enter Try.func6, Try.ntmps6
  go_wp2_with fail
  refine (awake_true _).mono ?_
  rintro e w1 ⟨rfl, hb1⟩
  have HB1 := Lib.hid ((HB.out.below hb1).alloc (.cells #[] 5))
  have B1 := Lib.hid (hb1.alloc hb1.size (.cells #[] 5))
  have hlit : (w1.alloc (.cells #[] 5)).ownsRow w1.heap.size 5 1 (.slice (some ⟨w1.heap.size, 0, none⟩) 0 0) 0 [] := World.ownsRow_lit w1 #[] 0 (Nat.le_refl _) (by unfold maxLen; omega) rfl
  have HLIT := Lib.hid hlit
  have hw1 := hb1.size
  have HA := Lib.hid hA
  clear hb1 hlit hA
  go_wp2_with (first
    | (at_builtin
       refine app_u8 _ rfl (.tmp 22) (.tmp 23) rfl w1.heap.size (.slice (some ⟨w1.heap.size, 0, none⟩) 0 0) 0 [] rfl HLIT.out A n cap bs rfl HA.out HB1.out (by omega) (by simp) ?_
       intro v w2 hown hg
       rw [Nat.zero_add, List.nil_append] at hown
       have B2 := Lib.hid (below_own HLIT.out B1.out (by omega) hg)
       obtain ⟨A', c', rfl, _, hnc', hcm', _, _⟩ := own_slice hown
       have hc64' : c' ≤ 9223372036854775807 := by unfold maxLen at hcm'; omega
       have O2 := Lib.hid hown
       clear hown hg hcm'))
  clear HLIT HB1 B1
  refine (get_any A' n c' to q bs _ hnc' hc64' (BytesAt.of_row (by
    obtain ⟨A2, c2, e2, h2, _⟩ := own_slice O2.out
    injection e2 with e2 _ _
    rw [e2]; exact h2.row))).mono ?_
  rintro e w3 ⟨rfl, hb3⟩
  have O3 := Lib.hid (own_below O2.out hb3)
  have B3 := Lib.hid (below_all B2.out B2.out.size hb3)
  clear hb3 O2 B2
  go_wp2_with fail
  refine (put_row0 _ n c' A' bs at_ m x _ hx HBL.out O3.out).mono ?_
  rintro e w4 ⟨rfl, ho4, hg4⟩
  have O4 := Lib.hid ho4
  have B4 := Lib.hid (below_own O3.out B3.out hw1 hg4)
  clear ho4 hg4 O3 B3
  go_wp2_with fail
  refine (get_any A' n c' to q (putB bs at_ m x) _ hnc' hc64' (BytesAt.of_row (by
    obtain ⟨A2, c2, e2, h2, _⟩ := own_slice O4.out
    injection e2 with e2 _ _
    rw [e2]; exact h2.row))).mono ?_
  rintro e w5 ⟨rfl, hb5⟩
  have B5 := Lib.hid (below_all B4.out B4.out.size hb5)
  clear hb5 O4 B4
  cases hfp : fits n at_ m
  · have e1 : putE n at_ m x = 22 := by simp [putE, hfp]
    have e2 : putB bs at_ m x = bs := by simp [putB, HBL.out, hfp]
    rw [e1, e2]
    clear hfp e1 e2
    generalize getX bs to q = gx
    generalize hge : getE n to q = ge
    cases hz : (ge == 0)
    all_goals
      clear hge
      go_wp2_with fail
      go_ret
      exact ⟨rfl, B5.out⟩
  by_cases hxs : ¬ x < 256 ^ m.toNat
  · have e1 : putE n at_ m x = 34 := by simp [putE, hfp, hxs]
    have e2 : putB bs at_ m x = bs := by simp [putB, HBL.out, hfp, hxs]
    rw [e1, e2]
    clear hfp e1 e2 hxs
    generalize getX bs to q = gx
    generalize hge : getE n to q = ge
    cases hz : (ge == 0)
    all_goals
      clear hge
      go_wp2_with fail
      go_ret
      exact ⟨rfl, B5.out⟩
  replace hxs : x < 256 ^ m.toNat := by simpa using hxs
  have e1 : putE n at_ m x = 0 := by simp [putE, hfp, hxs]
  rw [e1]
  cases hfg : fits n to q
  · have e3 : getE n to q = 22 := by simp [getE, hfg]
    rw [e3]
    clear hfp e1 hxs hfg e3
    generalize getX bs to q = gx
    generalize getX (putB bs at_ m x) to q = gy
    go_wp2_with fail
    go_ret
    exact ⟨rfl, B5.out⟩
  have e3 : getE n to q = 0 := by simp [getE, hfg]
  rw [e3]
  obtain ⟨h1, h2, h3, h4, h5⟩ := fits_true hfp
  obtain ⟨k1, k2, k3, k4, k5⟩ := fits_true hfg
  have i1 : IntKind.i64.wrap (to + q) = to + q := by rw [IntKind.wrap_i64]; omega
  have i2 : IntKind.i64.wrap (at_ + m) = at_ + m := by rw [IntKind.wrap_i64]; omega
  by_cases hl1 : to + q ≤ at_
  · have hap := get_apart bs at_ m to q x (by rw [HBL.out]; exact hfp) (by rw [HBL.out]; exact hfg) (.inl hl1)
    rw [hap]
    have d1 : decide (to + q ≤ at_) = true := by simpa using hl1
    clear hap hfp hfg e1 e3 hxs
    generalize getX bs to q = gx
    go_wp2_with fail
    go_ret
    exact ⟨rfl, B5.out⟩
  have d1 : decide (to + q ≤ at_) = false := by simpa using hl1
  by_cases hl2 : at_ + m ≤ to
  · have hap := get_apart bs at_ m to q x (by rw [HBL.out]; exact hfp) (by rw [HBL.out]; exact hfg) (.inr hl2)
    rw [hap]
    have d2 : decide (at_ + m ≤ to) = true := by simpa using hl2
    clear hap hfp hfg e1 e3 hxs
    generalize getX bs to q = gx
    go_wp2_with fail
    go_ret
    exact ⟨rfl, B5.out⟩
  have d2 : decide (at_ + m ≤ to) = false := by simpa using hl2
  clear hfp hfg e1 e3 hxs
  generalize getX bs to q = gx
  generalize getX (putB bs at_ m x) to q = gy
  go_wp2_with fail
  go_ret
  exact ⟨rfl, B5.out⟩

theorem wireApart_walk (w : World) (a0 : Option Addr) (len0 cap0 : Nat) (z0 : List Int) (w0 : IsRow .u8 w a0 len0 cap0 z0) (e0 : cap0 * 1 ≤ 140737488351232)
    (a1 : Int) (w1 : (Lit.int .i64 a1).wf = true) (a2 : Int) (w2 : (Lit.int .i64 a2).wf = true) (a3 : Int) (w3 : (Lit.int .u64 a3).wf = true)
    (a4 : Int) (w4 : (Lit.int .i64 a4).wf = true) (a5 : Int) (w5 : (Lit.int .i64 a5).wf = true) :
    Calls Try.prog 6 #[.slice a0 len0 cap0, .int .i64 a1, .int .i64 a2, .int .u64 a3, .int .i64 a4, .int .i64 a5] w fun e w' => e = .returned (.bool true) ∧ Below w.heap.size w w' := by
  obtain ⟨x, rfl, hx⟩ := wf_u64 w3
  obtain ⟨bs, hb, hl, hA⟩ := row_bytes w0
  exact wireApart_run a0 len0 cap0 bs a1 a2 x a4 a5 w hl (by omega) hx hA hb
end Go.Proofs.Ytjjbkefgbjcmeaa.Wire
