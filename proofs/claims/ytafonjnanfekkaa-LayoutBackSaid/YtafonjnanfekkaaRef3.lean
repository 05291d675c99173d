
/-
  THE WALKS of layer 1's reference: fits, small, Get, sum.
-/
import Derived.Test.YtafonjnanfekkaaProg
import Derived.Test.YtafonjnanfekkaaC
import Derived.Test.YtafonjnanfekkaaWireP
namespace Go.Proofs.Ytafonjnanfekkaa.Wire
open Go.RowKit
set_option maxHeartbeats 8000000
set_option maxRecDepth 100000
set_option linter.unusedVariables false
set_option linter.unusedSimpArgs false

theorem ref_fits (A : Option Addr) (len cap : Nat) (at_ n : Int) (w : World) (hl : len ≤ 9223372036854775807) :
    Calls Try.prog 108 #[.slice A len cap, .int .i64 at_, .int .i64 n] w fun e w' => e = .returned (.bool (fits len at_ n)) ∧ w = w' := by
  cases hf : fits len at_ n
  · have h := fits_false hf
    clear hf
    by_cases h1 : n < 1
    · clear h
      have d1 : decide (1 ≤ n) = false := by simp; omega
      go_enter Try.func108, Try.ntmps108
      go_wp2_with fail
      go_ret
      exact ⟨rfl, rfl⟩
    have d1 : decide (1 ≤ n) = true := by simp; omega
    by_cases h2 : 8 < n
    · clear h
      have d2 : decide (n ≤ 8) = false := by simp; omega
      go_enter Try.func108, Try.ntmps108
      go_wp2_with fail
      go_ret
      exact ⟨rfl, rfl⟩
    have d2 : decide (n ≤ 8) = true := by simp; omega
    by_cases h3 : at_ < 0
    · clear h
      have d3 : decide (0 ≤ at_) = false := by simp; omega
      go_enter Try.func108, Try.ntmps108
      go_wp2_with fail
      go_ret
      exact ⟨rfl, rfl⟩
    have d3 : decide (0 ≤ at_) = true := by simp; omega
    by_cases h4 : (len : Int) < at_
    · clear h
      have d4 : decide (at_ ≤ (len : Int)) = false := by simp; omega
      go_enter Try.func108, Try.ntmps108
      go_wp2_with fail
      go_ret
      exact ⟨rfl, rfl⟩
    have d4 : decide (at_ ≤ (len : Int)) = true := by simp; omega
    have h5 : (len : Int) - at_ < n := by omega
    have d5 : decide (n ≤ (len : Int) - at_) = false := by simp; omega
    clear h
    go_enter Try.func108, Try.ntmps108
    go_wp2_with fail
    go_ret
    exact ⟨rfl, rfl⟩
  · obtain ⟨h1, h2, h3, h4, h5⟩ := fits_true hf
    have d1 : decide (1 ≤ n) = true := by simp; omega
    have d2 : decide (n ≤ 8) = true := by simp; omega
    have d3 : decide (0 ≤ at_) = true := by simp; omega
    have d4 : decide (at_ ≤ (len : Int)) = true := by simp; omega
    have d5 : decide (n ≤ (len : Int) - at_) = true := by simp; omega
    clear hf
    go_enter Try.func108, Try.ntmps108
    go_wp2_with fail
    go_ret
    exact ⟨rfl, rfl⟩

theorem div_step (x k : Nat) : x / 256 ^ k / 256 = x / 256 ^ (k + 1) := by rw [Nat.div_div_eq_div_mul, Nat.pow_succ]

theorem ref_small (x : Nat) (n : Nat) (w : World) (hx : x < 18446744073709551616) (hn : n ≤ 9223372036854775807) :
    Calls Try.prog 109 #[.int .u64 (x : Int), .int .i64 (n : Int)] w fun e w' => e = .returned (.bool (decide (x < 256 ^ n))) ∧ w = w' := by
  have HX := Lib.hid hx
  clear hx
  go_enter Try.func109, Try.ntmps109
  go_wp2_with fail
  go_loop [0, 5] (fun y i => ∃ k : Nat, k ≤ n ∧ i = .int .i64 k ∧ y = .int .u64 ((x / 256 ^ k : Nat) : Int)) (fun _ i => n - (intOf i).toNat)
  case atStart => exact ⟨0, by omega, rfl, by simp⟩
  case round =>
    obtain ⟨k, hk, rfl, rfl⟩ := hrel
    have hs := div_step x k
    have hlt64 : x / 256 ^ k < 18446744073709551616 := Nat.lt_of_le_of_lt (Nat.div_le_self _ _) HX.out
    have hz : x / 256 ^ n = 0 ↔ x < 256 ^ n := Nat.div_eq_zero_iff_lt (Nat.pow_pos (by omega))
    have HS := Lib.hid hs
    have HZ := Lib.hid hz
    clear hs hz
    by_cases hlt : k < n
    · generalize x / 256 ^ k = y at HS hlt64 ⊢
      have hq : (y : Int) / 256 = ((y / 256 : Nat) : Int) := by omega
      have HQ := Lib.hid hq
      clear hq
      go_wp2_with fail
      go_round
      case rel => exact ⟨k + 1, by omega, by go_num, by rw [HQ.out, HS.out]⟩
      case measure => simp [intOf]; omega
    · obtain rfl : k = n := by omega
      have hd : decide (x < 256 ^ k) = ((x / 256 ^ k : Nat) == 0) := by rw [Bool.eq_iff_iff]; simp [HZ.out]
      have HD := Lib.hid hd
      clear hd HZ
      generalize x / 256 ^ k = y at HS hlt64 HD ⊢
      cases hy : (y == 0)
      · have hy' : ((y : Int) == 0) = false := by simp at hy ⊢; omega
        have HY := Lib.hid hy
        clear hy
        go_wp2_with fail
        go_ret
        exact ⟨ret_bool (by rw [HD.out, HY.out]), rfl⟩
      · have hy' : ((y : Int) == 0) = true := by simp at hy ⊢; omega
        have HY := Lib.hid hy
        clear hy
        go_wp2_with fail
        go_ret
        exact ⟨ret_bool (by rw [HD.out, HY.out]), rfl⟩

theorem num_drop {bs : List UInt8} {k : Nat} {c : UInt8} (h : bs[k]? = some c) : num (bs.drop k) = c.toNat + 256 * num (bs.drop (k + 1)) := by
  rw [List.drop_eq_getElem_cons (List.getElem?_eq_some_iff.mp h).1, (List.getElem?_eq_some_iff.mp h).2]; rfl

theorem ref_get_loop (a : Addr) (len cap : Nat) (at_ n : Int) (bs : List UInt8) (w : World) (hl : len ≤ cap) (hcp : cap ≤ 9223372036854775807) (hby : BytesAt w (some a) len bs) (hf : fits len at_ n = true) :
    Calls Try.prog 98 #[.slice (some a) len cap, .int .i64 at_, .int .i64 n] w fun e w' => e = .returned (.tuple #[.int .u64 (num (sub bs at_ n) : Int), .int .i64 0]) ∧ w = w' := by
  obtain ⟨h1, h2, h3, h4, h5⟩ := fits_true hf
  have hlen := hby.len
  have hsl : (sub bs at_ n).length = n.toNat := sub_length (by rw [hlen]; exact hf)
  have hsub : BytesAt w (some (a.add at_.toNat)) n.toNat (sub bs at_ n) := by
    have := hby.cut at_.toNat (at_.toNat + n.toNat) (by omega) (by omega)
    rw [show at_.toNat + n.toNat - at_.toNat = n.toNat by omega] at this
    exact this
  generalize sub bs at_ n = ss at hsl hsub ⊢
  have HF := Lib.hid (ref_fits (some a) len cap at_ n w (by omega))
  rw [hf] at HF
  have HSUB := Lib.hid hsub
  have HSL := Lib.hid hsl
  clear hf hby hlen hsl hsub
  go_enter Try.func98, Try.ntmps98
  go_wp2_with (go_at_call 108; refine HF.out.mono ?_; rintro e w' ⟨rfl, rfl⟩)
  go_loop [8, 9] (fun x i => ∃ k : Nat, k ≤ n.toNat ∧ i = .int .i64 ((k : Int) - 1) ∧ x = .int .u64 (num (ss.drop k) : Int)) (fun _ i => (intOf i + 1).toNat)
  case atStart => exact ⟨n.toNat, by omega, by rw [show ((n.toNat : Nat) : Int) = n by omega], by rw [List.drop_of_length_le (by have := HSL.out; omega)]; rfl⟩
  case round =>
    obtain ⟨k, hk, rfl, rfl⟩ := hrel
    by_cases hk0 : k = 0
    · subst hk0
      simp only [List.drop_zero]
      go_wp2_with fail
      go_ret2
      exact ⟨rfl, rfl⟩
    · obtain ⟨j, rfl⟩ : ∃ j, k = j + 1 := ⟨k - 1, by omega⟩
      obtain ⟨a', c, e1, hx, hc⟩ := HSUB.out.at_ (k := j) (by omega)
      obtain rfl : a.add at_.toNat = a' := by simpa using e1
      rw [add_of_add] at hc
      have hnd := num_drop hx
      have hlt := num_lt64 (l := ss.drop j) (by rw [List.length_drop, HSL.out]; omega)
      rw [hnd] at hlt
      have HND := Lib.hid hnd
      clear hnd hx e1
      generalize num (ss.drop (j + 1)) = y at HND hlt ⊢
      have c1 : (c.toNat : Int) < 256 := by have := c.toNat_lt; omega
      have hto : (at_ + ((j + 1 : Nat) : Int) - 1).toNat = at_.toNat + j := by omega
      have hto2 : (at_ + (((j + 1 : Nat) : Int) - 1)).toNat = at_.toNat + j := by omega
      have hw0 : ((j + 1 : Nat) : Int) - 1 = (j : Int) := by omega
      rw [hw0]
      have hto3 : (at_ + (j : Int)).toNat = at_.toNat + j := by omega
      go_wp2_with fail
      go_round
      case rel => exact ⟨j, by omega, by go_num, by rw [HND.out]; congr 1; try omega⟩
      case measure => (simp [intOf]; try omega)

theorem ref_get (A : Option Addr) (len cap : Nat) (at_ n : Int) (bs : List UInt8) (w : World) (hl : len ≤ cap) (hcp : cap ≤ 9223372036854775807) (hby : BytesAt w A len bs) :
    Calls Try.prog 98 #[.slice A len cap, .int .i64 at_, .int .i64 n] w fun e w' => e = .returned (.tuple #[.int .u64 (getX bs at_ n : Int), .int .i64 (getE len at_ n)]) ∧ w = w' := by
  have hlen := hby.len
  cases hf : fits len at_ n
  · have hx : getX bs at_ n = 0 := by simp [getX, hlen, hf]
    have he : getE len at_ n = 22 := by simp [getE, hf]
    rw [hx, he]
    have HF := Lib.hid (ref_fits A len cap at_ n w (by omega))
    rw [hf] at HF
    clear hf hx he hby hlen
    go_enter Try.func98, Try.ntmps98
    go_wp2_with (go_at_call 108; refine HF.out.mono ?_; rintro e w' ⟨rfl, rfl⟩)
    go_ret2
    exact ⟨rfl, rfl⟩
  · have hx : getX bs at_ n = num (sub bs at_ n) := by simp [getX, hlen, hf]
    have he : getE len at_ n = 0 := by simp [getE, hf]
    rw [hx, he]
    obtain ⟨h1, h2, h3, h4, h5⟩ := fits_true hf
    obtain ⟨a, c, rfl, _, _⟩ := hby.at_ (k := at_.toNat) (by omega)
    exact ref_get_loop a len cap at_ n bs w hl hcp hby hf

theorem ref_sum (A : Option Addr) (n cap : Nat) (ws : List Int) (w : World) (hn : n ≤ 1125899906842624) (hr : RowAt w A n (ints ws)) :
    Calls Try.prog 96 #[.slice A n cap] w fun e w' => e = .returned (.tuple #[.int .i64 (if wok ws = true then ws.sum else 0), .bool (wok ws)]) ∧ w = w' := by
  have hlen : ws.length = n := by have := hr.len; simpa [ints] using this
  cases hw : wok ws
  · obtain ⟨j, y, hj, hy, hpre⟩ := wok_false ws hw
    have hjn : j < n := by rw [← hlen]; exact (List.getElem?_eq_some_iff.1 hj).1
    have HR := Lib.hid hr
    have HJ := Lib.hid hj
    have HP := Lib.hid hpre
    have hbad : y < 1 ∨ 8 < y := by simp [wok1] at hy; omega
    have HBAD := Lib.hid hbad
    have hif : (if false = true then ws.sum else 0) = 0 := by simp
    rw [hif]
    clear hr hw hj hpre hy hbad hif
    go_enter Try.func96, Try.ntmps96
    go_wp2_with fail
    go_loop [4, 5] (fun x i => ∃ k : Nat, k ≤ j ∧ i = .int .i64 k ∧ x = .int .i64 (ws.take k).sum) (fun _ i => n - (intOf i).toNat)
    case atStart => exact ⟨0, by omega, rfl, rfl⟩
    case round =>
      obtain ⟨k, hk, rfl, rfl⟩ := hrel
      have hlt : k < n := by omega
      have hsk : 0 ≤ (ws.take k).sum ∧ (ws.take k).sum ≤ 8 * k := by
        have h1 := wok_take HP.out k
        rw [List.take_take, Nat.min_eq_left hk] at h1
        have := wsum_le _ h1
        have h3 : (ws.take k).length ≤ k := List.length_take_le _ _
        omega
      obtain ⟨s0, s1⟩ := hsk
      by_cases hkj : k < j
      · obtain ⟨a, z, rfl, hz, hc⟩ := HR.out.int_at hlt
        have hz' : (ws.take j)[k]? = some z := by rw [List.getElem?_take, if_pos hkj]; exact hz
        obtain ⟨z1, z2⟩ := wok_at HP.out hz'
        have hs := wsum_succ hz
        have HS := Lib.hid hs
        have HZ := Lib.hid hz
        clear hs hz hz'
        have hd : decide (z < 1) = false := by simp; omega
        have hd2 : decide (8 < z) = false := by simp; omega
        go_wp2_with fail
        go_round
        case rel => exact ⟨k + 1, by omega, by go_num, by rw [HS.out]⟩
        case measure => simp [intOf]; omega
      · obtain rfl : k = j := by omega
        obtain ⟨a, z, rfl, hz, hc⟩ := HR.out.int_at hlt
        obtain rfl : z = y := by have := HJ.out; rw [hz] at this; injection this
        have HZ := Lib.hid hz
        clear hz
        rcases HBAD.out with hb | hb
        · have hd : decide (z < 1) = true := by simp; omega
          go_wp2_with fail
          go_ret2
          exact ⟨rfl, rfl⟩
        · have hd : decide (z < 1) = false := by simp; omega
          have hd2 : decide (8 < z) = true := by simp; omega
          go_wp2_with fail
          go_ret2
          exact ⟨rfl, rfl⟩
  · have HR := Lib.hid hr
    have HW := Lib.hid hw
    have hif : (if true = true then ws.sum else 0) = ws.sum := by simp
    rw [hif]
    clear hr hw hif
    go_enter Try.func96, Try.ntmps96
    go_wp2_with fail
    go_loop [4, 5] (fun x i => ∃ k : Nat, k ≤ n ∧ i = .int .i64 k ∧ x = .int .i64 (ws.take k).sum) (fun _ i => n - (intOf i).toNat)
    case atStart => exact ⟨0, by omega, rfl, rfl⟩
    case round =>
      obtain ⟨k, hk, rfl, rfl⟩ := hrel
      obtain ⟨s0, s1⟩ := wsum_mono HW.out k
      have s2 := (wsum_le _ HW.out).2
      by_cases hlt : k < n
      · obtain ⟨a, z, rfl, hz, hc⟩ := HR.out.int_at hlt
        obtain ⟨z1, z2⟩ := wok_at HW.out hz
        have hs := wsum_succ hz
        have HS := Lib.hid hs
        have HZ := Lib.hid hz
        clear hs hz
        have hd : decide (z < 1) = false := by simp; omega
        have hd2 : decide (8 < z) = false := by simp; omega
        go_wp2_with fail
        go_round
        case rel => exact ⟨k + 1, by omega, by go_num, by rw [HS.out]⟩
        case measure => simp [intOf]; omega
      · obtain rfl : k = n := by omega
        have hs : ws.take k = ws := List.take_of_length_le (by omega)
        rw [hs]
        clear hs
        go_wp2_with fail
        go_ret2
        exact ⟨rfl, rfl⟩
end Go.Proofs.Ytafonjnanfekkaa.Wire
