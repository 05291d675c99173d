
/-
  THE WALK of WireSums.
  THE WALK of WireNumbers.
  layer 1: the reference's Seal and Sealed, upon a row of one's own.
  THE WALKS of layer 1 (wire), the program's, ninth part: Unpack.
  THE WALKS of layer 1 (wire), the program's, tenth part: Unpack, whole.
  THE WALK of WireOnly.
  THE WALKS of layer 1's reference: Unpack, Pack.
  THE WALKS of layer 1's reference: Pack.
-/
import Derived.Test.YtifamhmiibhohaaKR5N3
import Derived.Test.YtifamhmiibhohaaKR5N2
import Derived.Deep.RegionLaw
namespace Go.Proofs.Ytifamhmiibhohaa.Wire
open Go.RowKit
set_option maxHeartbeats 8000000
set_option maxRecDepth 100000
set_option linter.unusedVariables false
set_option linter.unusedSimpArgs false

theorem own_head {w : World} {base g n c : Nat} {bs : List UInt8} {x y : UInt8} (h : w.ownsRow base 5 1 (.slice (some ⟨g, 0, none⟩) (n + 2) c) (n + 2) (bvl (bs ++ [x, y]))) (hbl : bs.length = n) :
    BytesAt w (some ⟨g, 0, none⟩) n bs ∧ n ≤ c ∧ c ≤ 9223372036854775807 := by
  have hb := (BytesAt.of_own h).take_ n (by omega)
  rw [List.take_append_of_le_length (by omega), List.take_of_length_le (by omega)] at hb
  obtain ⟨cs, _, _, h1, h2, _⟩ := own_blk h
  exact ⟨hb, by omega, by unfold maxLen at h2; omega⟩

end Go.Proofs.Ytifamhmiibhohaa.Wire

namespace Go.Proofs.Ytifamhmiibhohaa.Wire
open Go.RowKit
set_option maxHeartbeats 8000000
set_option maxRecDepth 100000
set_option linter.unusedVariables false
set_option linter.unusedSimpArgs false

/-- Two rows made one behind the other lie apart. -/
theorem own_apart {w : World} {b1 b2 g n c m : Nat} {t : TypeId} {v : Value} {xs ys : List Value} (h : w.ownsRow b1 t 1 (.slice (some ⟨g, 0, none⟩) n c) n xs) (hlt : g < b2)
    (h2 : w.ownsRow b2 t 1 v m ys) : v.ownBlock ≠ some g := by
  intro e
  have := (h2.lt g e).1
  omega
theorem own_kept {w w' : World} {base : Nat} {t : TypeId} {v : Value} {n : Nat} {xs : List Value} {row : Option Nat} (h : w.ownsRow base t 1 v n xs) (hb : w.grownBy w' row) (hne : row ≠ v.ownBlock) : w'.ownsRow base t 1 v n xs :=
  h.kept hb (.inr fun e => hne e.symm)
theorem own_len {w : World} {base N n : Nat} {v : Value} {bs : List UInt8} {x y : UInt8} (h : w.ownsRow base 5 1 v (n + 2) (bvl (bs ++ [x, y]))) : bs.length = n := by
  have := h.1
  rw [bvl_length] at this
  simp at this; omega

end Go.Proofs.Ytifamhmiibhohaa.Wire

namespace Go.Proofs.Ytifamhmiibhohaa.Wire
open Go.RowKit
set_option maxHeartbeats 8000000
set_option maxRecDepth 100000
set_option linter.unusedVariables false
set_option linter.unusedSimpArgs false

theorem ref_seal_row (base n c : Nat) (A : Option Addr) (bs : List UInt8) (seed : BitVec 32) (w : World) (hbl : bs.length = n)
    (hown : w.ownsRow base 5 1 (.slice A n c) n (bvl bs)) :
    Calls Try.prog 39 #[.slice A n c, .int .u32 (seed.toNat : Int)] w fun e w' => e = .returned (.int .i64 (sealE n)) ∧
      w'.ownsRow base 5 1 (.slice A n c) n (bvl (sealB seed bs)) ∧ w.grownBy w' (Value.slice A n c).ownBlock := by
  obtain ⟨A', c', e0, hby, hnc, hcm, _, _⟩ := own_slice hown
  obtain ⟨rfl, rfl⟩ : A = A' ∧ c = c' := by injection e0 with e1 e2 e3; exact ⟨e1, e3⟩
  have hc64 : c ≤ 9223372036854775807 := by unfold maxLen at hcm; omega
  by_cases h4 : 4 ≤ n
  · have e1 : sealE n = 0 := by simp [sealE, h4]
    rw [e1]
    obtain ⟨a, u, rfl, _, _⟩ := hby.at_ (k := 0) (by omega)
    have hx : (crc seed (bs.take (n - 4))).toNat < 256 ^ 4 := (crc seed (bs.take (n - 4))).isLt
    have hto : ((n : Int) - 4).toNat = n - 4 := by omega
    have hp := ref_put_row base n c (some a) bs ((n : Int) - 4) 4 (crc seed (bs.take (n - 4))).toNat w (by omega) hbl hown
    have hpe : putE n ((n : Int) - 4) 4 (crc seed (bs.take (n - 4))).toNat = 0 := by
      rw [putE, if_pos (fits4 h4), if_pos (show _ < 256 ^ Int.toNat 4 from hx)]
    have hpb : putB bs ((n : Int) - 4) 4 (crc seed (bs.take (n - 4))).toNat = sealB seed bs := by
      rw [sealB_lays seed bs (by omega), hbl, putB, hbl, if_pos (fits4 h4), if_pos (show _ < 256 ^ Int.toNat 4 from hx), hto]; rfl
    rw [hpe, hpb] at hp
    have HP := Lib.hid hp
    have HC := Lib.hid (ref_crc seed (some a) (n - 4) c (bs.take (n - 4)) w (by omega) (hby.take_ (n - 4) (by omega)))
    have h32 : IntKind.u64.wrap ((crc seed (bs.take (n - 4))).toNat : Int) = ((crc seed (bs.take (n - 4))).toNat : Int) := by
      have := (crc seed (bs.take (n - 4))).isLt
      rw [IntKind.wrap_u64]; omega
    have i0 : (0 : Int) ≤ (n : Int) - 4 := by omega
    have i1 : (n : Int) - 4 ≤ (c : Int) := by omega
    have i2 : ¬ (n : Int) < 4 := by omega
    have hd : decide ((n : Int) < 4) = false := by simp; omega
    clear hp hpe hpb hby hown hx hcm
    go_enter Try.func39, Try.ntmps39
    go_wp2_with (first | (go_at_call 12; refine HC.out.mono ?_; rintro e w' ⟨rfl, rfl⟩) | (go_at_call 52; refine HP.out.mono ?_; rintro e w' ⟨rfl, ho, hg⟩))
    go_ret
    exact ⟨rfl, ho, hg⟩
  · have e1 : sealE n = 22 := by simp [sealE, h4]
    have e2 : sealB seed bs = bs := by rw [sealB, if_neg (by omega)]
    rw [e1, e2]
    have HO := Lib.hid hown
    have hd : decide ((n : Int) < 4) = true := by simp; omega
    have hlt : (n : Int) < 4 := by omega
    clear hown hby
    go_enter Try.func39, Try.ntmps39
    go_wp2_with fail
    go_ret
    exact ⟨rfl, HO.out, World.grownBy.refl _ _⟩
end Go.Proofs.Ytifamhmiibhohaa.Wire

namespace Go.Proofs.Ytifamhmiibhohaa.Wire
open Go.RowKit
set_option maxHeartbeats 16000000
set_option maxRecDepth 100000
set_option linter.unusedVariables false
set_option linter.unusedSimpArgs false

theorem step_app_u64 (w : World) {ops : Array Oper} {o : Oper} {a : Act} {K : Act → World → Prop} {Q : Exit → Act → World → Prop} {E : Prop} (hgd : o.guard = none) (s x : Operand)
    (ho : o.op = .call { callee := .builtin .append, args := #[s, x], argTypes := #[68, 68] })
    (base : Nat) (v : Value) (n : Nat) (xs : List Value) (hs : a.eval s = v) (hown : w.ownsRow base 79 1 v n xs)
    (ad : Addr) (c : Nat) (y : Nat) (hx : a.eval x = .slice (some ad) 1 c) (hb : w.cell? ad = some (.int .u64 (y : Int)))
    (hbd : n + 1 ≤ 17592186044416) (hbase : base ≤ w.heap.size)
    (h : ∀ v' w', w'.ownsRow base 79 1 v' (n + 1) (xs ++ nums [y]) → w.grownBy w' v.ownBlock → K (a.put o.dst v') w') :
    if Region.wanted o (yielded ops a.tmps) = true then Oper.wp Try.prog o a w K Q else E := by
  have hw : Region.wanted o (yielded ops a.tmps) = true := by simp [Region.wanted, hgd]
  rw [if_pos hw]
  obtain ⟨i0, hi, hz0, hz1, hz2⟩ := info_parts infoU64
  refine wp_append_own w s x 68 ho base 79 i0 (.int .u64 0) 1 8 Try.underlying68 hi hz0 hz1 hz2 rfl (by decide) v n xs hs hown ad 1 c (nums [y]) hx (by simp [nums]) ?_ ?_ (by unfold maxLen; omega) (by omega) hbase (fun v' w' h1 h2 _ => h v' w' h1 h2)
  · intro j u hu
    cases j with
    | zero => simp [nums] at hu; subst hu; rw [show ad.add 0 = ad by unfold Addr.add; simp]; exact hb
    | succ j => simp [nums] at hu
  · intro u hu
    simp [nums] at hu; subst hu; rfl

theorem unpacks_length : ∀ (ws : List Int) (bs : List UInt8), (unpacks bs ws).length = ws.length
  | [], _ => rfl
  | z :: ws, bs => by simp [unpacks, unpacks_length ws]
theorem unpacks_at : ∀ (ws : List Int) (bs : List UInt8) (k : Nat) (z : Int), wok ws = true → ws[k]? = some z → (unpacks bs ws)[k]? = some (num ((bs.drop ((ws.take k).sum).toNat).take z.toNat))
  | [], _, _, _, _, h => by simp at h
  | y :: ws, bs, 0, z, _, h => by simp at h; subst h; simp [unpacks]
  | y :: ws, bs, k + 1, z, hw, h => by
    simp only [wok, List.all_cons, Bool.and_eq_true] at hw
    obtain ⟨h1, h2⟩ := wok1_true hw.1
    have hm := (wsum_mono (ws := ws) hw.2 k).1
    simp only [unpacks, List.getElem?_cons_succ, List.take_succ_cons, List.sum_cons]
    rw [unpacks_at ws (bs.drop y.toNat) k z hw.2 (by simpa using h), List.drop_drop]
    congr 4
    omega

theorem whole_q2 (A : Option Addr) (n cap : Nat) (ws : List Int) (S : Int) (w : World) (hn : n ≤ 1125899906842624) (hr : RowAt w A n (ints ws)) (hw : wok ws = true) (hs : ws.sum = S) :
    Calls Try.prog 47 #[.slice A n cap] w fun e w' => e = .returned (.int .i64 S) ∧ w' = w := by
  subst hs; exact whole_q A n cap ws w hn hr hw

theorem below_row {B : Nat} {a b c : World} {row : Option Nat} (h : Below B a b) (k : b.grownBy c row) (hr : ∀ g, row = some g → B ≤ g) (hs : B ≤ b.heap.size) : Below B a c :=
  ⟨k.os.trans h.os, k.tape.trans h.tape, k.output.trans h.output, Nat.le_trans h.size k.size, fun i hi => (k.block i (Nat.lt_of_lt_of_le hi hs) (fun e => by have := hr i e.symm; omega)).trans (h.block i hi)⟩

/-- All blocks that were there stay, but these two. -/
def Kept (g1 g2 : Nat) (w w' : World) : Prop := ∀ i, i < w.heap.size → i ≠ g1 → i ≠ g2 → w'.heap[i]? = w.heap[i]?

end Go.Proofs.Ytifamhmiibhohaa.Wire

namespace Go.Proofs.Ytifamhmiibhohaa.Wire
open Go.RowKit
set_option maxHeartbeats 16000000
set_option maxRecDepth 100000
set_option linter.unusedVariables false
set_option linter.unusedSimpArgs false

end Go.Proofs.Ytifamhmiibhohaa.Wire

namespace Go.Proofs.Ytifamhmiibhohaa.Wire
open Go.RowKit
set_option maxHeartbeats 8000000
set_option maxRecDepth 100000
set_option linter.unusedVariables false
set_option linter.unusedSimpArgs false

theorem packs_unpacks : ∀ (ws : List Int) (bs : List UInt8), wok ws = true → ws.sum = (bs.length : Int) → packs (unpacks bs ws) ws = some bs
  | [], bs, _, hs => by
    have : bs = [] := List.eq_nil_of_length_eq_zero (by simp at hs; omega)
    subst this; rfl
  | z :: ws, bs, hw, hs => by
    simp only [wok, List.all_cons, Bool.and_eq_true] at hw
    obtain ⟨h1, h2⟩ := wok1_true hw.1
    have hm := wsum_le ws hw.2
    simp only [List.sum_cons] at hs
    have hl : (bs.take z.toNat).length = z.toNat := by rw [List.length_take]; omega
    have hn := num_lt (bs.take z.toNat)
    rw [hl] at hn
    have hle := le_num (bs.take z.toNat)
    rw [hl] at hle
    have ih := packs_unpacks ws (bs.drop z.toNat) hw.2 (by rw [List.length_drop]; omega)
    simp only [unpacks, packs, if_pos hn, ih, Option.map_some, hle, List.take_append_drop]
theorem unpacks_lt (ws : List Int) (bs : List UInt8) (hw : wok ws = true) : ∀ x ∈ unpacks bs ws, x < 18446744073709551616 := by
  induction ws generalizing bs with
  | nil => intro x h; simp [unpacks] at h
  | cons z ws ih =>
    intro x h
    simp only [wok, List.all_cons, Bool.and_eq_true] at hw
    obtain ⟨h1, h2⟩ := wok1_true hw.1
    simp only [unpacks, List.mem_cons] at h
    rcases h with rfl | h
    · exact num_lt64 (by rw [List.length_take]; omega)
    · exact ih _ hw.2 x h
theorem pack_back (ws : List Int) (bs : List UInt8) (hw : wok ws = true) (hs : ws.sum = (bs.length : Int)) (h : bs.length ≤ 4096) :
    packE (unpacks bs ws) ws (bs.length : Int) = 0 ∧ packB (unpacks bs ws) ws (bs.length : Int) = bs := by
  have hm : pmay (unpacks bs ws) ws (bs.length : Int) = true := by
    simp [pmay, unpacks_length, hw]; omega
  have hp := packs_unpacks ws bs hw hs
  exact ⟨by simp [packE, hm, hp], by simp [packB, hm, hp]⟩

end Go.Proofs.Ytifamhmiibhohaa.Wire

namespace Go.Proofs.Ytifamhmiibhohaa.Wire
open Go.RowKit
set_option maxHeartbeats 16000000
set_option maxRecDepth 100000
set_option linter.unusedVariables false
set_option linter.unusedSimpArgs false

end Go.Proofs.Ytifamhmiibhohaa.Wire

namespace Go.Proofs.Ytifamhmiibhohaa.Wire
open Go.RowKit
set_option maxHeartbeats 16000000
set_option maxRecDepth 100000
set_option linter.unusedVariables false
set_option linter.unusedSimpArgs false

theorem ref_pack_no (A0 A1 : Option Addr) (n0 c0 n1 c1 : Nat) (l : List Nat) (ws : List Int) (size : Int) (w : World) (hn : n1 ≤ 1125899906842624) (hr : RowAt w A1 n1 (ints ws)) (hll : l.length = n0) (hm : pmay l ws size = false) :
    Calls Try.prog 38 #[.slice A0 n0 c0, .slice A1 n1 c1, .int .i64 size] w fun e w' => e = .returned (.tuple #[.slice none 0 0, .int .i64 22]) ∧ w = w' := by
  have hlw : ws.length = n1 := by have := hr.len; simpa [ints] using this
  have HS := Lib.hid (ref_sum A1 n1 c1 ws w hn hr)
  clear hr
  by_cases hne : n0 = n1
  · subst hne
    have hd0 : ((n0 : Int) != (n0 : Int)) = false := by simp
    cases hw : wok ws
    · rw [hw] at HS
      simp only [Bool.false_eq_true, if_false] at HS
      clear hm hw
      go_enter Try.func38, Try.ntmps38
      go_wp2_with (go_at_call 51; refine HS.out.mono ?_; rintro e w' ⟨rfl, rfl⟩)
      go_ret2
      exact ⟨rfl, rfl⟩
    · rw [hw] at HS
      simp only [if_true] at HS
      have hs0 := (wsum_le ws hw).1
      have hor : size < ws.sum ∨ 4096 < size := by
        simp [pmay, hw, hll, hlw] at hm; omega
      by_cases h1 : size < 0
      · have hd1 : decide (size < 0) = true := by simpa using h1
        clear hm hw hor hs0
        go_enter Try.func38, Try.ntmps38
        go_wp2_with (go_at_call 51; refine HS.out.mono ?_; rintro e w' ⟨rfl, rfl⟩)
        go_ret2
        exact ⟨rfl, rfl⟩
      have hd1 : decide (size < 0) = false := by simpa using h1
      by_cases h2 : 4096 < size
      · have hd2 : decide (4096 < size) = true := by simpa using h2
        clear hm hw hor hs0
        go_enter Try.func38, Try.ntmps38
        go_wp2_with (go_at_call 51; refine HS.out.mono ?_; rintro e w' ⟨rfl, rfl⟩)
        go_ret2
        exact ⟨rfl, rfl⟩
      have hd2 : decide (4096 < size) = false := by simpa using h2
      have h3 : size < ws.sum := by omega
      have hd3 : decide (size < ws.sum) = true := by simpa using h3
      clear hm hw hor hs0
      go_enter Try.func38, Try.ntmps38
      go_wp2_with (go_at_call 51; refine HS.out.mono ?_; rintro e w' ⟨rfl, rfl⟩)
      go_ret2
      exact ⟨rfl, rfl⟩
  · have hd0 : ((n0 : Int) != (n1 : Int)) = true := by simp; omega
    clear hm
    generalize (if wok ws = true then ws.sum else 0) = s at HS
    generalize wok ws = b at HS
    go_enter Try.func38, Try.ntmps38
    go_wp2_with (go_at_call 51; refine HS.out.mono ?_; rintro e w' ⟨rfl, rfl⟩)
    go_ret2
    exact ⟨rfl, rfl⟩

/-- How it ends: all numbers went in, or the one at j did not. -/
def PackEnd (j n N g : Nat) (e : Ending) : Prop :=
  (j = n → e = .returned (.tuple #[.slice (some ⟨g, 0, none⟩) N N, .int .i64 0])) ∧ (j < n → e = .returned (.tuple #[.slice none 0 0, .int .i64 34]))

/-- All numbers go in (j = n), or the one at j is the first that does not. -/
theorem ref_pack_may (A0 A1 : Option Addr) (n c0 c1 N j : Nat) (l : List Nat) (ws : List Int) (w : World) (hn : n ≤ 1125899906842624)
    (hl : RowAt w A0 n (nums l)) (hr : RowAt w A1 n (ints ws)) (hw : wok ws = true) (hs : ws.sum ≤ (N : Int)) (hN : N ≤ 4096) (h64 : ∀ x ∈ l, x < 18446744073709551616) (hj : j ≤ n)
    (hbig : ∀ (k x : Nat) (z : Int), k < j → l[k]? = some x → ws[k]? = some z → x < 256 ^ z.toNat)
    (hend : j < n → ∀ (x : Nat) (z : Int), l[j]? = some x → ws[j]? = some z → ¬ x < 256 ^ z.toNat) :
    Calls Try.prog 38 #[.slice A0 n c0, .slice A1 n c1, .int .i64 (N : Int)] w fun e w' =>
      PackEnd j n N w.heap.size e ∧
      Blk w' w.heap.size 5 (roomOf (pre l ws j) N) ∧ Below w.heap.size w w' := by
  have hll : l.length = n := by have := hl.len; simpa [nums] using this
  have hlw : ws.length = n := by have := hr.len; simpa [ints] using this
  have HS := Lib.hid (ref_sum A1 n c1 ws w hn hr)
  rw [hw] at HS
  simp only [if_true] at HS
  have hmk := make_bytes N (by omega)
  have hsl := (wsum_le ws hw).1
  have hd0 : ((n : Int) != (n : Int)) = false := by simp
  have hd1 : decide ((N : Int) < 0) = false := decide_eq_false (by omega)
  have hd2 : decide ((4096 : Int) < (N : Int)) = false := by simp; omega
  have hd3 : decide ((N : Int) < ws.sum) = false := by simp; omega
  have HW := Lib.hid hw
  have HBIG := Lib.hid hbig
  have HEND := Lib.hid hend
  have H64 := Lib.hid h64
  have HL := Lib.hid hl
  have HR := Lib.hid hr
  have HLL := Lib.hid hll
  have HLW := Lib.hid hlw
  have hsN := Lib.hid hs
  clear hw hbig hend h64 hl hr hll hlw hs
  go_enter Try.func38, Try.ntmps38
  go_wp2_with (go_at_call 51; refine HS.out.mono ?_; rintro e w' ⟨rfl, rfl⟩)
  clear hmk hd0 hd1 hd2 hd3 HS
  go_loopw [11, 12] (fun a i wr => ∃ (k s : Nat), k ≤ j ∧ i = .int .i64 k ∧ (s : Int) = (ws.take k).sum ∧ a = .int .i64 s ∧ Blk wr w.heap.size 5 (roomOf (pre l ws k) N) ∧ Below w.heap.size w wr) (fun _ i _ => n - (intOf i).toNat)
  case atStart => exact ⟨0, 0, by omega, rfl, by simp, rfl, by rw [pre_zero]; exact Blk.new w _ _, (Below.refl _ w).alloc (Nat.le_refl _) _⟩
  case round =>
    obtain ⟨k, s, hk, rfl, hs, rfl, hblk, hbel⟩ := hrel
    obtain ⟨s0, s1⟩ := wsum_mono HW.out k
    have hSN := hsN.out
    by_cases hlt : k < n
    · obtain ⟨aw, z, rfl, hz, hcz0⟩ := HR.out.int_at hlt
      obtain ⟨al, x, rfl, hx, hcx0⟩ := HL.out.num_at hlt
      have lw := World.block_lt_of_cell? w _ hcz0
      have ll := World.block_lt_of_cell? w _ hcx0
      have hcz := (hbel.cell lw).trans hcz0
      have hcx := (hbel.cell ll).trans hcx0
      obtain ⟨z1, z2⟩ := wok_at HW.out hz
      obtain ⟨zn, rfl⟩ := Int.eq_ofNat_of_zero_le (by omega : 0 ≤ z)
      obtain ⟨s3, s4⟩ := wsum_mono HW.out (k + 1)
      have hss := wsum_succ hz
      have hrest : s + zn ≤ N := by omega
      have hx64 := H64.out x (List.mem_of_getElem? hx)
      have hf : fits N (s : Int) (zn : Int) = true := fits_mk (by omega) (by omega) (by omega) (by omega)
      have hlen := pre_length l ws k (by rw [HLL.out, HLW.out]) HW.out
      have hpl : (pre l ws k).length = s := by omega
      have B := Lib.hid hblk
      have BL := Lib.hid hbel
      have f4 : (0 : Int) ≤ (k : Int) := by omega
      have f5 : (k : Int) < (n : Int) := by omega
      by_cases hkj : k < j
      · have hxb := HBIG.out k x _ hkj hx hz
        have hps := pre_succ l ws k x _ hx hz
        rw [Int.toNat_natCast] at hps
        have hput := roomOf_put (bs := pre l ws k) (new := le zn x) (size := N) (by rw [le_length]; omega)
        rw [le_length, hpl, ← hps] at hput
        have hcall := ref_put_ok ⟨w.heap.size, 0, none⟩ N N x (s : Int) (zn : Int) (roomOf (pre l ws k) N) wr.drew (Nat.le_refl _) (by omega) hf hxb hx64 rfl (by rw [roomOf_size (by omega)]; simp) hblk
        simp only [Int.toNat_natCast, Nat.zero_add, hput] at hcall
        have HC := Lib.hid hcall
        have HSS := Lib.hid hss
        have XS := Lib.hid hs
        have i1 : IntKind.i64.wrap ((s : Int) + (zn : Int)) = (s : Int) + (zn : Int) := by rw [IntKind.wrap_i64]; omega
        clear hcall hput hps hxb hss hs hx hz hblk hbel hlen hpl hf hSN
        go_wp2_with fail
        go_region_held3 (fun w' => w'.cell? (al.add k) = some (.int .u64 (x : Int)) ∧ w'.cell? (aw.add k) = some (.int .i64 (zn : Int)))
          (first | go_keep | exact ⟨q1, q2⟩)
          (first | (go_simp; go_at_call 52; refine HC.out.mono ?_; rintro e w2 ⟨rfl, hbk, hg⟩
                    have bel2 := below_row BL.out (only_of_drew hg) (fun g e => by injection e with e; omega) BL.out.size
                    have q1 := (bel2.cell ll).trans hcx0
                    have q2 := (bel2.cell lw).trans hcz0
                    have Y1 := Lib.hid hbk
                    have Y2 := Lib.hid bel2
                    clear hbk hg bel2))
        go_wp2_with fail
        go_roundw
        case rel => exact ⟨k + 1, s + zn, by omega, by go_num, by rw [HSS.out, ← XS.out]; omega, by go_num, Y1.out, Y2.out⟩
        case measure => simp [intOf]; omega
      · obtain rfl : k = j := by omega
        have hxb := HEND.out hlt x _ hx hz
        have hcall := ref_put_big (some ⟨w.heap.size, 0, none⟩) N N x (s : Int) (zn : Int) wr.drew (by omega) hf hxb hx64
        have HC := Lib.hid hcall
        clear hcall hxb hss hs hx hz hblk hbel hlen hpl hf hSN
        go_wp2_with fail
        go_region_held3 (fun w' => w'.cell? (al.add k) = some (.int .u64 (x : Int)) ∧ w'.cell? (aw.add k) = some (.int .i64 (zn : Int)))
          (first | go_keep)
          (first | (go_simp; go_at_call 52; refine HC.out.mono ?_; rintro e w2 ⟨rfl, rfl⟩))
        go_wp2_with fail
        go_ret2
        exact ⟨⟨fun h => by omega, fun _ => rfl⟩, B.out, below_drewN BL.out 1⟩
    · obtain rfl : k = n := by omega
      obtain rfl : j = k := by omega
      have B := Lib.hid hblk
      have BL := Lib.hid hbel
      clear hblk hbel hs
      go_wp2_with fail
      go_ret2
      exact ⟨⟨fun _ => rfl, fun h => by omega⟩, B.out, BL.out⟩

theorem ref_pack_any (A0 A1 : Option Addr) (n0 c0 n1 c1 : Nat) (l : List Nat) (ws : List Int) (size : Int) (w : World) (hn : n1 ≤ 1125899906842624) (h64 : ∀ x ∈ l, x < 18446744073709551616)
    (hl : RowAt w A0 n0 (nums l)) (hr : RowAt w A1 n1 (ints ws)) :
    Calls Try.prog 38 #[.slice A0 n0 c0, .slice A1 n1 c1, .int .i64 size] w fun e w' => ∃ v, e = .returned (.tuple #[v, .int .i64 (packE l ws size)]) ∧ Below w.heap.size w w' ∧
      w'.ownsRow w.heap.size 5 1 v (packB l ws size).length (bvl (packB l ws size)) := by
  have hll : l.length = n0 := by have := hl.len; simpa [nums] using this
  have hlw : ws.length = n1 := by have := hr.len; simpa [ints] using this
  cases hm : pmay l ws size
  · have hE : packE l ws size = 22 := by simp [packE, hm]
    have hB : packB l ws size = [] := by simp [packB, hm]
    rw [hE, hB]
    exact (ref_pack_no A0 A1 n0 c0 n1 c1 l ws size w hn hr hll hm).mono fun e w' ⟨he, hb⟩ => ⟨_, he, hb ▸ Below.refl _ _, World.ownsRow_nil _ _ _ _⟩
  · have hm' := hm
    simp only [pmay, Bool.and_eq_true, decide_eq_true_eq] at hm'
    obtain ⟨m1, m2, m3, m4⟩ := hm'
    obtain rfl : n0 = n1 := by omega
    have hsum := wsum_le ws m2
    obtain ⟨N, rfl⟩ := Int.eq_ofNat_of_zero_le (by omega : 0 ≤ size)
    rcases first_big l ws m1 with hbig | ⟨j, x, z, j1, j2, j3, j4⟩
    · have hp := packs_some l ws m1 hbig
      have hE : packE l ws (N : Int) = 0 := by simp [packE, hm, hp]
      have hB : packB l ws (N : Int) = pre l ws l.length ++ List.replicate (N - (pre l ws l.length).length) 0 := by simp [packB, hm, hp]
      have hpl := pre_length l ws l.length m1 m2
      rw [m1, List.take_length, ← m1] at hpl
      have hBl : (packB l ws (N : Int)).length = N := by rw [hB]; simp; omega
      rw [hE]
      refine (ref_pack_may A0 A1 n0 c0 c1 N n0 l ws w hn hl hr m2 m3 (by omega) h64 (Nat.le_refl _) (fun k x z _ => hbig k x z) (fun h => by omega)).mono fun e w' ⟨⟨he, _⟩, hk, hb⟩ => ⟨_, he rfl, hb, ?_⟩
      rw [hBl]
      refine ⟨by rw [bvl_length, hBl]; omega, .inr ⟨_, N, _, rfl, by omega, hk, Nat.le_refl _, by unfold maxLen; omega, by rw [roomOf_size (by rw [← hll]; omega)]; omega, ?_⟩⟩
      rw [← hll, hB, roomOf]
      simp only [Nat.mul_one]
      exact List.take_of_length_le (by rw [bvl_length, List.length_append, List.length_replicate]; omega)
    · have hp := packs_none l ws j x z j1 j2 j3
      have hE : packE l ws (N : Int) = 34 := by simp [packE, hm, hp]
      have hB : packB l ws (N : Int) = [] := by simp [packB, hm, hp]
      have hjn : j < n0 := by rw [← hll]; exact (List.getElem?_eq_some_iff.1 j1).1
      rw [hE, hB]
      refine (ref_pack_may A0 A1 n0 c0 c1 N j l ws w hn hl hr m2 m3 (by omega) h64 (by omega) j4 (fun _ x' z' h1 h2 => ?_)).mono fun e w' ⟨⟨_, he⟩, hk, hb⟩ => ⟨_, he hjn, hb, World.ownsRow_nil _ _ _ _⟩
      rw [j1] at h1; rw [j2] at h2
      injection h1 with h1; injection h2 with h2
      subst h1 h2; exact j3
end Go.Proofs.Ytifamhmiibhohaa.Wire
