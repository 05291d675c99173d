
/-
  THE WALKS of layer 1's reference: Same; the law's sameNumbers.
-/
import Derived.Test.YtafonjnanfekkaaProg
import Derived.Test.YtafonjnanfekkaaC
import Derived.Test.YtafonjnanfekkaaWireN
namespace Go.Proofs.Ytafonjnanfekkaa.Wire
open Go.RowKit
set_option maxHeartbeats 8000000
set_option maxRecDepth 100000
set_option linter.unusedVariables false
set_option linter.unusedSimpArgs false

theorem take_ne {α : Type} {x y : List α} {k : Nat} {c d : α} (hx : x[k]? = some c) (hy : y[k]? = some d) (h : c ≠ d) : x ≠ y := by
  rintro rfl; rw [hx] at hy; injection hy with hy; exact h hy
theorem take_eq {α : Type} {x y : List α} {k : Nat} {c : α} (hx : x[k]? = some c) (hy : y[k]? = some c) (h : x.take k = y.take k) : x.take (k + 1) = y.take (k + 1) := by
  rw [List.take_add_one, List.take_add_one, hx, hy, h]
theorem take_all {α : Type} {x y : List α} {n : Nat} (hx : x.length = n) (hy : y.length = n) (h : x.take n = y.take n) : x = y := by
  rw [List.take_of_length_le (by omega), List.take_of_length_le (by omega)] at h; exact h

theorem same_any (A B : Option Addr) (n m ca cb : Nat) (x y : List UInt8) (w : World) (hn : n ≤ 1125899906842624000) (ha : BytesAt w A n x) (hb : BytesAt w B m y) :
    Calls Try.prog 26 #[.slice A n ca, .slice B m cb] w fun e w' => e = .returned (.bool (x == y)) ∧ ∃ k, w' = w.drewN k := by
  have lx : x.length = n := by have := ha.len; exact this
  have ly : y.length = m := by have := hb.len; exact this
  by_cases hnm : n = m
  · subst hnm
    have HA := Lib.hid ha
    have HB := Lib.hid hb
    have HL := Lib.hid (And.intro lx ly)
    clear ha hb lx ly
    go_enter Try.func26, Try.ntmps26
    go_wp2_with fail
    go_loopw [5] (fun i wr => ∃ k : Nat, k ≤ n ∧ i = .int .i64 k ∧ x.take k = y.take k ∧ ∃ q, wr = w.drewN q) (fun i _ => n - (intOf i).toNat)
    case atStart => exact ⟨0, by omega, rfl, by simp, 0, rfl⟩
    case round =>
      obtain ⟨k, hk, rfl, htk, q, rfl⟩ := hrel
      have HT := Lib.hid htk
      clear htk
      by_cases hlt : k < n
      · obtain ⟨a, c, rfl, hx, hc⟩ := HA.out.at_ hlt
        obtain ⟨b, d, rfl, hy, hd⟩ := HB.out.at_ hlt
        have HX := Lib.hid hx
        have HY := Lib.hid hy
        clear hx hy
        by_cases hcd : c = d
        · subst hcd
          have hq : ((c.toNat : Int) != (c.toNat : Int)) = false := by simp
          go_wp2_with fail
          go_quiet (fail)
          go_wp2_with fail
          go_roundw
          case rel => exact ⟨k + 1, by omega, by go_num, take_eq HX.out HY.out HT.out, _, by first | rfl | rw [World.drewN_drewN]⟩
          case measure => simp [intOf]; omega
        · have hq : ((c.toNat : Int) != (d.toNat : Int)) = true := by
            simp only [bne_iff_ne, ne_eq]
            intro h; exact hcd (UInt8.toNat_inj.mp (by omega))
          have hxy := take_ne HX.out HY.out hcd
          go_wp2_with fail
          go_quiet (fail)
          go_wp2_with fail
          go_ret
          exact ⟨ret_bool (by simpa using hxy), _, by first | rfl | rw [World.drewN_drewN]⟩
      · obtain rfl : k = n := by omega
        have hxy := take_all HL.out.1 HL.out.2 HT.out
        go_wp2_with fail
        go_ret
        exact ⟨ret_bool (by simpa using hxy), _, by first | rfl | rw [World.drewN_drewN]⟩
  · have hd : ((n : Int) != (m : Int)) = true := by simp; omega
    have hxy : x ≠ y := by rintro rfl; omega
    have HXY := Lib.hid hxy
    clear hxy hnm ha hb
    go_enter Try.func26, Try.ntmps26
    go_wp2_with fail
    go_ret
    exact ⟨ret_bool (by simpa using HXY.out), 0, rfl⟩

theorem numbers_any (A B : Option Addr) (n m ca cb : Nat) (x y : List Nat) (w : World) (hn : n ≤ 1125899906842624000) (ha : RowAt w A n (nums x)) (hb : RowAt w B m (nums y)) :
    Calls Try.prog 18 #[.slice A n ca, .slice B m cb] w fun e w' => e = .returned (.bool (x == y)) ∧ ∃ k, w' = w.drewN k := by
  have lx : x.length = n := by have := ha.len; simpa [nums] using this
  have ly : y.length = m := by have := hb.len; simpa [nums] using this
  by_cases hnm : n = m
  · subst hnm
    have HA := Lib.hid ha
    have HB := Lib.hid hb
    have HL := Lib.hid (And.intro lx ly)
    clear ha hb lx ly
    go_enter Try.func18, Try.ntmps18
    go_wp2_with fail
    go_loopw [5] (fun i wr => ∃ k : Nat, k ≤ n ∧ i = .int .i64 k ∧ x.take k = y.take k ∧ ∃ q, wr = w.drewN q) (fun i _ => n - (intOf i).toNat)
    case atStart => exact ⟨0, by omega, rfl, by simp, 0, rfl⟩
    case round =>
      obtain ⟨k, hk, rfl, htk, q, rfl⟩ := hrel
      have HT := Lib.hid htk
      clear htk
      by_cases hlt : k < n
      · obtain ⟨a, c, rfl, hx, hc⟩ := HA.out.num_at hlt
        obtain ⟨b, d, rfl, hy, hd⟩ := HB.out.num_at hlt
        have HX := Lib.hid hx
        have HY := Lib.hid hy
        clear hx hy
        by_cases hcd : c = d
        · subst hcd
          have hq : ((c : Int) != (c : Int)) = false := by simp
          go_wp2_with fail
          go_quiet (fail)
          go_wp2_with fail
          go_roundw
          case rel => exact ⟨k + 1, by omega, by go_num, take_eq HX.out HY.out HT.out, _, by first | rfl | rw [World.drewN_drewN]⟩
          case measure => simp [intOf]; omega
        · have hq : ((c : Int) != (d : Int)) = true := by
            simp only [bne_iff_ne, ne_eq]
            intro h; exact hcd (by omega)
          have hxy := take_ne HX.out HY.out hcd
          go_wp2_with fail
          go_quiet (fail)
          go_wp2_with fail
          go_ret
          exact ⟨ret_bool (by simpa using hxy), _, by first | rfl | rw [World.drewN_drewN]⟩
      · obtain rfl : k = n := by omega
        have hxy := take_all HL.out.1 HL.out.2 HT.out
        go_wp2_with fail
        go_ret
        exact ⟨ret_bool (by simpa using hxy), _, by first | rfl | rw [World.drewN_drewN]⟩
  · have hd : ((n : Int) != (m : Int)) = true := by simp; omega
    have hxy : x ≠ y := by rintro rfl; omega
    have HXY := Lib.hid hxy
    clear hxy hnm ha hb
    go_enter Try.func18, Try.ntmps18
    go_wp2_with fail
    go_ret
    exact ⟨ret_bool (by simpa using HXY.out), 0, rfl⟩
end Go.Proofs.Ytafonjnanfekkaa.Wire
