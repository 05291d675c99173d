
/-
  THE ROW of hayricklaw05.BitsBack: for every input the law returns true, and its arguments read as they did. No condition.
-/
import Derived.Test.YtcmpkcmfhfajpaaDoorKR4N7
import Derived.Test.YtcmpkcmfhfajpaaDoorKR4N4
import Derived.Test.YtcmpkcmfhfajpaaDoorRows
import Derived.ProofKit
import Derived.OpenShut
import Derived.ShutString
import Derived.ChangeOld
import Derived.SizedLaws
import Derived.Lib.SmallJoins
import Derived.Test.YtcmpkcmfhfajpaaDoorTie
import Derived.Test.YtcmpkcmfhfajpaaDoorCards
import Derived.LaidMore
import Derived.Stop.Joined
import Derived.SevenTiedAt
namespace Go.Proofs.YtcmpkcmfhfajpaaDoor.Bits
open Go.RowKit Go.Proofs.YtcmpkcmfhfajpaaDoor.Wire
set_option maxHeartbeats 16000000
set_option maxRecDepth 100000
set_option linter.unusedVariables false
set_option linter.unusedSimpArgs false

theorem zerosZ_le' (bs : List UInt8) : 0 ≤ zerosZ bs ∧ zerosZ bs ≤ 2016 := by
  rw [zerosZ_zc]
  have := zc_le (setN bs) 2016
  omega
theorem seal_sealed {seed : BitVec 32} {bs : List UInt8} (h : sealedB seed bs = true) : sealB seed bs = bs := by
  unfold sealedB at h
  simp only [Bool.and_eq_true, decide_eq_true_eq, beq_iff_eq] at h
  obtain ⟨h4, hn⟩ := h
  rw [sealB, if_pos h4]
  have hl : (bs.drop (bs.length - 4)).length = 4 := by rw [List.length_drop]; omega
  have := le_num (bs.drop (bs.length - 4))
  rw [hl, hn] at this
  rw [this, List.take_append_drop]
/-- Turned on and off again. -/
theorem turn_back {bs : List UInt8} {n f c : Int} {seed : BitVec 32} (hck : chkE bs n seed = 0) (h : turnE bs n f c true seed = 0) :
    turnE (turnB bs n f c true seed) n f c false seed = 0 ∧ turnB (turnB bs n f c true seed) n f c false seed = bs := by
  obtain ⟨p, m, ht⟩ := turned_of h
  have hf := ht.hf
  have hc := ht.hc
  subst hf hc
  have h1 : turnE (turnB bs n (p : Int) (m : Int) true seed) n (p : Int) (m : Int) false seed = 0 := by
    refine turnE_ok (chk_turned ht) ht.hm ht.hn.1 fun i h1 h2 => ?_
    rw [ht.now, if_pos ⟨h1, h2⟩]; rfl
  refine ⟨h1, ?_⟩
  obtain ⟨p', m', hd⟩ := turned_of h1
  have e1 := hd.hf
  have e2 := hd.hc
  obtain rfl : p = p' := by omega
  obtain rfl : m = m' := by omega
  have hs := (chkE_zero hck).2.2.2.1
  have hb := seal_sealed hs
  rw [hd.out]
  refine Eq.trans (seal_bits seed (by rw [turns_length]; exact ht.olen) ht.len fun i hi => ?_) hb
  have hb1 := hd.now i
  rw [hd.out, setN_seal seed (by rw [turns_length]; exact ht.olen) hi] at hb1
  rw [hb1, ← setN_256 ht.len hi]
  by_cases hin : p ≤ i ∧ i < p + m
  · rw [if_pos hin, ht.was i hin.1 hin.2]; rfl
  · rw [if_neg hin, ht.now, if_neg hin]
theorem i64_and65535 (n : Int) : bits .and .i64 n 65535 = n % 65536 := by
  have h127 : (BitVec.ofInt 64 65535).toNat = 2 ^ 16 - 1 := by decide
  have key : (BitVec.ofInt 64 n &&& BitVec.ofInt 64 65535).toNat = (n % ((2 ^ 64 : Nat) : Int)).toNat % 2 ^ 16 := by
    rw [BitVec.toNat_and, BitVec.toNat_ofInt, h127, Nat.and_two_pow_sub_one_eq_mod]
  show IntKind.i64.wrap ((BitVec.ofInt 64 n &&& BitVec.ofInt 64 65535).toNat : Nat) = n % 65536
  rw [key, IntKind.wrap_i64]
  omega
theorem and_mask (x : Int) : ∃ k : Nat, bits .and .i64 x 65535 = (k : Int) ∧ k ≤ 65535 := ⟨(x % 65536).toNat, by rw [i64_and65535]; omega, by omega⟩
/-- A bitmap that may be: sealed, of the row's size. -/
structure Map (S : Nat) (seed : BitVec 32) (bs : List UInt8) : Prop where
  ck : chkE bs (S : Int) seed = 0
  len : bs.length = 256
theorem Map.of {S : Nat} {seed : BitVec 32} {bs : List UInt8} (h : chkE bs (S : Int) seed = 0) : Map S seed bs := ⟨h, (chkE_zero h).2.2.1⟩
theorem Map.turn {S : Nat} {seed : BitVec 32} {bs : List UInt8} {f c : Int} {on : Bool} (h : turnE bs S f c on seed = 0) : Map S seed (turnB bs S f c on seed) := by
  obtain ⟨p, m, ht⟩ := turned_of h
  exact ⟨chk_turned ht, ht.olen⟩
theorem Map.found {S : Nat} {seed : BitVec 32} {bs : List UInt8} {goal want i n : Int} (h : Map S seed bs) (hf : findX bs goal want = (i, n, true)) : turnE bs S i n true seed = 0 := by
  obtain ⟨f0, f1, f2, f3⟩ := find_found hf
  obtain ⟨p, rfl⟩ := Int.eq_ofNat_of_zero_le f0
  obtain ⟨m, rfl⟩ := Int.eq_ofNat_of_zero_le (show 0 ≤ n by omega)
  have hfree : ∀ q, p ≤ q → q < p + m → setN bs q = false := fun q h1 h2 => by
    rw [← setZ_nat]; exact f3 _ (by omega) (by omega)
  have hall := (chkE_zero h.ck).2.2.2.2
  refine turnE_ok h.ck (by omega) ?_ (fun q h1 h2 => by rw [hfree q h1 h2]; rfl)
  rcases Int.lt_or_le (S : Int) ((p : Int) + m) with h1 | h1
  · exfalso
    have h2 := hfree (p + m - 1) (by omega) (by omega)
    rw [allSet_spec hall (by simp; omega)] at h2
    cases h2
  · exact h1
theorem bitsBack_run (n goal want : Int) (A : Option Addr) (l cap : Nat) (ms : List Int) (seed : BitVec 32) (W : World) (hT : Tab W) (hl : l ≤ cap) (hc : cap ≤ 140737488351232) (hr : RowAt W A l (ints ms)) (hms : ∀ z ∈ ms, -9223372036854775808 ≤ z ∧ z ≤ 9223372036854775807)
    (hg : goal ≤ 9223372036854775807) :
    Calls Tryd.prog 4 #[.int .i64 n, .slice A l cap, .int .i64 goal, .int .i64 want, .int .u32 (seed.toNat : Int)] W fun e w' => e = .returned (.bool true) ∧ Below W.heap.size W w' := by
  have HA := Lib.hid (awake_any W hT)
  have HT := Lib.hid hT
  have HR := Lib.hid hr
  have HM := Lib.hid hms
  obtain ⟨k, hk, hk2⟩ := and_mask n
  have hkm : k % 2016 < 2016 := Nat.mod_lt _ (by omega)
  have e1 : (k : Int).tmod 2016 = ((k % 2016 : Nat) : Int) := by rw [Int.tmod_eq_emod_of_nonneg (by omega)]; omega
  have e2 : (k : Int) % 2016 = ((k % 2016 : Nat) : Int) := by omega
  have e3 : IntKind.i64.wrap ((k % 2016 : Nat) : Int) = ((k % 2016 : Nat) : Int) := by rw [IntKind.wrap_i64]; omega
  obtain ⟨r, hr'⟩ : ∃ r, k % 2016 = r := ⟨_, rfl⟩
  rw [hr'] at e1 e2 e3 hkm
  clear hr'
  obtain ⟨S, hS⟩ : ∃ S, 1 + r = S := ⟨_, rfl⟩
  have hS2 : 1 ≤ S ∧ S ≤ 2016 := by omega
  have e4 : IntKind.i64.wrap (1 + (r : Int)) = (S : Int) := by rw [IntKind.wrap_i64]; omega
  have e5 : 1 + (r : Int) = (S : Int) := by omega
  have HNE := Lib.hid (show newE (S : Int) = 0 by rw [newE, if_neg (by omega)])
  have HN := Lib.hid (fun w => new_any (S : Int) seed w)
  rw [HNE.out] at HN
  have HCN := Lib.hid (chk_new (n := S) seed hS2.2)
  have HLN := Lib.hid (show (newB (S : Int) seed).length = 256 from (chkE_zero HCN.out).2.2.1)
  rw [HLN.out] at HN
  obtain ⟨b0, hb0⟩ : ∃ b0, newB (S : Int) seed = b0 := ⟨_, rfl⟩
  rw [hb0] at HN HCN
  clear hT hr hms hS hb0 HLN HNE
  go_enter Tryd.func4, Tryd.ntmps4
  go_wp2_with fail
  refine HA.out.mono ?_
  rintro e w1 ⟨rfl, hb1⟩
  have B1' := Lib.hid hb1
  have R1 := Lib.hid (HR.out.below hb1)
  have T1 := Lib.hid (HT.out.below hb1)
  clear hb1 HA
  go_wp2_with fail
  refine (HN.out w1).mono ?_
  rintro e w2 ⟨v2, rfl, hb2, ho2⟩
  have B2' := Lib.hid (below_all B1'.out B1'.out.size hb2)
  have R2 := Lib.hid (R1.out.below hb2)
  have T2' := Lib.hid (T1.out.below hb2)
  have O2 := Lib.hid (own_monoB ho2 B1'.out.size)
  clear hb2 ho2 HN hk e1 e2 e3 e4 e5 hkm
  have M2 := Lib.hid (Map.of HCN.out)
  go_wp2_with fail
  go_loopw [13, 15, 16, 17] (fun v i _ _ wr => ∃ (j : Nat) (zs : List UInt8), i = .int .i64 j ∧ j ≤ 200 ∧ j ≤ l ∧ Map S seed zs ∧ wr.ownsRow W.heap.size 5 1 v 256 (bvl zs) ∧ Below W.heap.size W wr) (fun _ i _ _ _ => 200 - (intOf i).toNat)
  case atStart => exact ⟨0, b0, rfl, by omega, by omega, M2.out, O2.out, B2'.out⟩
  case round =>
    obtain ⟨j, zs, rfl, hj, hjl, hmap, ho, hbel⟩ := hrel
    have M4 := Lib.hid hmap
    obtain ⟨g, cc, cur, rfl, hg0, _, hgc, hgm, _⟩ := own_form ho (by omega)
    unfold maxLen at hgm
    have BY4 := Lib.hid (BytesAt.of_own ho)
    have O4 := Lib.hid ho
    have B4 := Lib.hid hbel
    clear hmap ho hbel
    by_cases hlt : j < l ∧ j < 200
    · obtain ⟨hl1, hl2⟩ := hlt
      obtain ⟨a, z, rfl, hz, hcell⟩ := (HR.out.below B4.out).int_at hl1
      obtain ⟨k, hk, hk2⟩ := and_mask z
      have hkm : k % S < S := Nat.mod_lt _ (by omega)
      have e1 : (k : Int).tmod (S : Int) = ((k % S : Nat) : Int) := by rw [Int.tmod_eq_emod_of_nonneg (by omega), Int.natCast_emod]
      have e2 : (k : Int) % (S : Int) = ((k % S : Nat) : Int) := by rw [Int.natCast_emod]
      obtain ⟨r, hr'⟩ : ∃ r, k % S = r := ⟨_, rfl⟩
      rw [hr'] at e1 e2 hkm
      have e3 : IntKind.i64.wrap (r : Int) = (r : Int) := by rw [IntKind.wrap_i64]; omega
      have z1 : ((S : Int) == 0) = false := by simp; omega
      clear hr' hz
      have HTU := Lib.hid (turn_any (some ⟨g, 0, none⟩) 256 cc (S : Int) (r : Int) 1 true seed zs wr hgc (by omega) (fun e => by cases e) BY4.out)
      by_cases hte : turnE zs (S : Int) (r : Int) 1 true seed = 0
      · have MT := Lib.hid (Map.turn hte)
        rw [hte, MT.out.len] at HTU
        generalize turnB zs (S : Int) (r : Int) 1 true seed = zs' at *
        clear hte
        go_wp2_with fail
        refine HTU.out.mono ?_
        rintro e w5 ⟨v5, rfl, hb5, ho5⟩
        have B5 := Lib.hid (below_all B4.out B4.out.size hb5)
        have O5 := Lib.hid (own_monoB ho5 B4.out.size)
        clear hb5 ho5 HTU hk e1 e2 e3
        go_wp2_with fail
        go_roundw
        case rel => exact ⟨j + 1, zs', by go_num, by omega, by omega, MT.out, O5.out, B5.out⟩
        case measure => simp [intOf]; omega
      · have hne : (turnE zs (S : Int) (r : Int) 1 true seed == 0) = false := by simpa using hte
        generalize turnE zs (S : Int) (r : Int) 1 true seed = te at *
        clear hte
        go_wp2_with fail
        refine HTU.out.mono ?_
        rintro e w5 ⟨v5, rfl, hb5, _⟩
        have B5 := Lib.hid (below_all B4.out B4.out.size hb5)
        have O5 := Lib.hid (own_below O4.out hb5)
        clear hb5 HTU hk e1 e2 e3
        go_wp2_with fail
        go_roundw
        case rel => exact ⟨j + 1, zs, by go_num, by omega, by omega, M4.out, O5.out, B5.out⟩
        case measure => simp [intOf]; omega
    · have T4 := Lib.hid (HT.out.below B4.out)
      have HFA := Lib.hid (find_any (some ⟨g, 0, none⟩) 256 cc zs goal want wr BY4.out T4.out hg)
      have hlt2 : ¬ j < l ∨ j < l ∧ ¬ j < 200 := by omega
      obtain ⟨⟨i, m, ok⟩, hfx⟩ : ∃ fx, findX zs goal want = fx := ⟨_, rfl⟩
      rw [hfx] at HFA
      dsimp only at HFA
      clear hlt
      cases ok with
      | false =>
        clear hfx
        rcases hlt2 with hlt2 | ⟨hlt1, hlt2⟩
        all_goals
          go_wp2_with fail
          refine HFA.out.mono ?_
          rintro e w5 ⟨rfl, hb5⟩
          have B5 := Lib.hid (below_all B4.out B4.out.size hb5)
          clear hb5
          go_wp2_with fail
          go_ret
          exact ⟨rfl, B5.out⟩
      | true =>
        have ht := M4.out.found hfx
        have MT := Lib.hid (Map.turn ht)
        obtain ⟨tb1, tb2⟩ := turn_back M4.out.ck ht
        obtain ⟨p, m', hT'⟩ := turned_of ht
        have hmm := hT'.hc
        have hzc := zc_turned hT'
        have hzl := zerosZ_le' zs
        rw [← hmm] at hzc
        have HT1 := Lib.hid (fun w hb => turn_any (some ⟨g, 0, none⟩) 256 cc (S : Int) i m true seed zs w hgc (by omega) (fun e => by cases e) hb)
        rw [ht, MT.out.len] at HT1
        have HT2 := Lib.hid (fun (A : Option Addr) (c2 : Nat) w h1 h2 h3 hb => turn_any A 256 c2 (S : Int) i m false seed (turnB zs (S : Int) i m true seed) w h1 h2 h3 hb)
        rw [tb1, tb2, M4.out.len] at HT2
        obtain ⟨C, hC⟩ : ∃ C, turnB zs (S : Int) i m true seed = C := ⟨_, rfl⟩
        rw [hC] at HT1 HT2 hzc
        obtain ⟨zz, hzz⟩ : ∃ zz, zerosZ zs = zz := ⟨_, rfl⟩
        rw [hzz] at hzc hzl
        have HZ1 := Lib.hid hzz
        have HZ2 := Lib.hid (show zerosZ C = zz - m by rw [hzc]; simp; omega)
        have hzl2 := zerosZ_le' C
        rw [HZ2.out] at hzl2
        have wz : IntKind.i64.wrap (zz - m) = zz - m := by rw [IntKind.wrap_i64]; omega
        clear ht tb1 tb2 hT' hmm hzc hC hzz hfx
        have HWZ := Lib.hid wz
        clear wz
        rcases hlt2 with hlt2 | ⟨hlt1, hlt2⟩
        all_goals
          go_wp2_with fail
          refine HFA.out.mono ?_
          rintro e w5 ⟨rfl, hb5⟩
          have B5 := Lib.hid (below_all B4.out B4.out.size hb5)
          have BY5 := Lib.hid (BY4.out.below hb5)
          clear hb5
          go_wp2_with fail
          refine (HT1.out w5 BY5.out).mono ?_
          rintro e w6 ⟨v6, rfl, hb6, ho6⟩
          obtain ⟨g6, c6, cs6, rfl, _, _, hc6, hm6, _⟩ := own_form ho6 (by omega)
          unfold maxLen at hm6
          have B6 := Lib.hid (below_all B5.out B5.out.size hb6)
          have BY6 := Lib.hid (BY5.out.below hb6)
          have CY6 := Lib.hid (BytesAt.of_own ho6)
          clear hb6 ho6
          go_wp2_with fail
          refine (HT2.out (some ⟨g6, 0, none⟩) c6 w6 hc6 (by omega) (fun e => by cases e) CY6.out).mono ?_
          rintro e w7 ⟨v7, rfl, hb7, ho7⟩
          obtain ⟨g7, c7, cs7, rfl, _, _, hc7, hm7, _⟩ := own_form ho7 (by omega)
          have B7 := Lib.hid (below_all B6.out B6.out.size hb7)
          have BY7 := Lib.hid (BY6.out.below hb7)
          have CY7 := Lib.hid (CY6.out.below hb7)
          have DY7 := Lib.hid (BytesAt.of_own ho7)
          clear hb7 ho7
          go_wp2_with fail
          refine (same_any (some ⟨g, 0, none⟩) (some ⟨g7, 0, none⟩) 256 256 cc c7 zs zs w7 (by omega) BY7.out DY7.out).mono ?_
          rintro e w8 ⟨rfl, q8, rfl⟩
          rw [show (zs == zs) = true by simp]
          have B8 := Lib.hid (below_drewN B7.out q8)
          have BY8 := Lib.hid (BY7.out.drewN q8)
          have CY8 := Lib.hid (CY7.out.drewN q8)
          have HZZ1 := Lib.hid (zeros_any (some ⟨g6, 0, none⟩) 256 c6 C _ hc6 (by omega) (fun e => by cases e) CY8.out)
          rw [HZ2.out] at HZZ1
          have HZZ2 := Lib.hid (zeros_any (some ⟨g, 0, none⟩) 256 cc zs _ hgc (by omega) (fun e => by cases e) BY8.out)
          rw [HZ1.out] at HZZ2
          go_wp2_with fail
          refine HZZ1.out.mono ?_
          rintro e w' ⟨rfl, rfl⟩
          go_wp2_with fail
          refine HZZ2.out.mono ?_
          rintro e w' ⟨rfl, rfl⟩
          have wz := HWZ.out
          go_wp2_with fail
          go_ret
          exact ⟨rfl, B8.out⟩
theorem bitsBack_walk (w : World) (hT : Tab w) (a0 : Int) (w0 : (Lit.int .i64 a0).wf = true) (a1 : Option Addr) (len1 cap1 : Nat) (z1 : List Int) (w1 : IsRow .i64 w a1 len1 cap1 z1) (e1 : cap1 * 8 ≤ 140737488351232) (a2 : Int) (w2 : (Lit.int .i64 a2).wf = true)
    (a3 : Int) (w3 : (Lit.int .i64 a3).wf = true) (a4 : Int) (w4 : (Lit.int .u32 a4).wf = true) :
    Calls Tryd.prog 4 #[.int .i64 a0, .slice a1 len1 cap1, .int .i64 a2, .int .i64 a3, .int .u32 a4] w fun e w' => e = .returned (.bool true) ∧ Below w.heap.size w w' := by
  obtain ⟨ws, hb, hl, hA, hz⟩ := row_ints w1
  obtain ⟨s, rfl⟩ := wf_u32 w4
  exact bitsBack_run a0 a2 a3 a1 len1 cap1 ws s w hT hl (by omega) hb hz (wf_int w2).2
end Go.Proofs.YtcmpkcmfhfajpaaDoor.Bits

namespace Go.Proofs.YtcmpkcmfhfajpaaDoor.bitsBack
open Go.ChangeShapes Go.WideShapes Go.ChangeAt Go.RowKit Go.Joins
set_option linter.unusedVariables false
set_option linter.unusedSimpArgs false

open Go.Proofs.YtcmpkcmfhfajpaaDoor.Bits
theorem own : ownKnob Tryd.prog.godebug = none := by kernel_rfl
theorem laidOut : laidOutB Tryd.prog = true := by kernel_rfl

theorem door_met (os : Os) (args : Array Value) : laidMetH Tryd.prog Bits.laidL ((World.doorLaid Tryd.prog 400 os).forCall (fun _ _ => 0) ⟨#[], args, []⟩).memory :=
  laidMetH_of_parts3 (fuel := 8) (laidMet_of_run' 8 (by kernel_rfl) (by kernel_rfl)) (by kernel_rfl) (by kernel_rfl)

set_option maxRecDepth 100000 in
theorem lifted (os : Os) (started : os.Started) (H : Type) (enc : TypeId × Value → H) :
    ReturnsInHanded {} Tryd.checked os 4 .any (fun w args => (Rows.bitsBackSpec.pre enc Tryd.prog Tryd.f4 Rows.bitsBackRow.domain false w args ∧ laidMetH Tryd.prog Bits.laidL w) ∧ sizedMet enc Tryd.prog Tryd.f4 (OpenSpec.ofChange Rows.bitsBackSpec) false w args) (Rows.bitsBackSpec.post enc Tryd.prog Tryd.f4 false true false false) := by
  refine returnsInHanded_of_change_and (C := Tryd.checked) (X := fun w _ => laidMetH Tryd.prog Bits.laidL w) (fun _ _ _ hh h => h.of_heap hh) own started (by kernel_rfl) Tryd.func4
    (ChangeSpec.witness_shaped (enc := enc) (C := Tryd.checked) (os := os) (X := fun w _ => laidMetH Tryd.prog Bits.laidL w) false (World.doorLaid Tryd.prog 400 os) #[.int .i64 0, .slice none 0 0, .int .i64 0, .int .i64 0, .int .u32 0] 8 rfl (World.shaped_of_RefB (by kernel_rfl) (by kernel_rfl)) (by kernel_rfl) (by kernel_rfl) (by kernel_rfl) (door_met os _)) ?_
  intro W base args ds gs before hval0 hW hcnd hsz0 hL _
  have hval : ∀ (j : Nat) t v, Tryd.f4.params[j]? = some t → args[j]? = some v → Value.okWide Tryd.prog W .any base t v := hval0
  have hW' := hW
  obtain ⟨p, q, hA0, hV, rfl, hfz, hnd⟩ := hW
  have hA : DataW.TrodAll enc Tryd.prog W 0 (fun _ => true) true Tryd.f4.params.toList args.toList ds p := hA0
  have hsz : (DataW.weightsEach Tryd.prog (Tryd.f4.params.toList ++ Rows.bitsBackSpec.plain.varTypes Tryd.prog) (ds ++ gs)).all (· ≤ reachBytes) = true := hsz0
  rw [Tryd.params4] at hA hval hsz
  obtain ⟨v0, vs0, d0, ds0, p0, q0, hargs, rfl, rfl, h0, r0⟩ := trodAll_cons hA
  obtain ⟨v1, vs1, d1, ds1, p1, q1, rfl, rfl, rfl, h1, r1⟩ := trodAll_cons r0
  obtain ⟨v2, vs2, d2, ds2, p2, q2, rfl, rfl, rfl, h2, r2⟩ := trodAll_cons r1
  obtain ⟨v3, vs3, d3, ds3, p3, q3, rfl, rfl, rfl, h3, r3⟩ := trodAll_cons r2
  obtain ⟨v4, vs4, d4, ds4, p4, q4, rfl, rfl, rfl, h4, r4⟩ := trodAll_cons r3
  obtain ⟨rfl, rfl, rfl⟩ := trodAll_nil r4
  obtain rfl : args = #[v0, v1, v2, v3, v4] := by cases args; simp_all
  obtain ⟨rfl, rfl⟩ := trodVars_none hV
  obtain ⟨a0, rfl, rfl, rfl, w0⟩ := open_int Tryd.underlying3 (hval 0 3 v0 rfl rfl) h0
  obtain ⟨a1, len1, cap1, rfl⟩ := okWide_slice Tryd.underlying30 (hval 1 30 v1 rfl rfl)
  have k1 := h1
  have lt1 : ∀ x ∈ p1, x.block < W.heap.size := by obtain ⟨m, hm⟩ := k1; exact DataW.trod_lt m _ _ _ hm
  obtain ⟨z1, w1, e1⟩ : ∃ zs, IsRow .i64 W a1 len1 cap1 zs ∧ cap1 * 8 ≤ 140737488351232 := by
    obtain ⟨fuel, hf⟩ := h1
    rcases open_ints Tryd.underlying30 Tryd.underlying3 (by kernel_rfl) hf with ⟨hcs, _⟩ | ⟨x, l, c, zs, hcs, _, hl, hm, hz, hx, hcell, hwz⟩
    · simp [Value.cells] at hcs
      obtain ⟨rfl, rfl, rfl⟩ := hcs
      exact ⟨[], .inl ⟨rfl, rfl, rfl, rfl⟩, by omega⟩
    · simp [Value.cells] at hcs
      obtain ⟨rfl, rfl, rfl⟩ := hcs
      refine ⟨zs, .inr ⟨_, rfl, hl, hm, by simpa using hz, hcell, hwz⟩, ?_⟩
      simp only [Prod.mk.injEq] at hx
      rw [hx.1] at hsz
      have := sized_slice hsz (j := 1) (t := 30) (e := 3) rfl rfl Tryd.underlying30
      rw [show Tryd.prog.bytesOf 3 = 8 from by kernel_rfl] at this
      simp [lits, List.length_map, List.length_take, List.length_drop, reachBytes] at this
      simp at hz
      omega
  obtain ⟨a2, rfl, rfl, rfl, w2⟩ := open_int Tryd.underlying3 (hval 2 3 v2 rfl rfl) h2
  obtain ⟨a3, rfl, rfl, rfl, w3⟩ := open_int Tryd.underlying3 (hval 3 3 v3 rfl rfl) h3
  obtain ⟨a4, rfl, rfl, rfl, w4⟩ := open_int Tryd.underlying31 (hval 4 31 v4 rfl rfl) h4
  clear hA0 hval0
  refine (bitsBack_walk W (Bits.tab_of_laid hL) a0 w0 a1 len1 cap1 z1 w1 e1 a2 w2 a3 w3 a4 w4).mono fun e W' ⟨he, bel⟩ => ?_
  subst he
  exact ⟨_, rfl, _, _, _, [], _, [], hW', trodAll_mk1 (shut_bool Tryd.underlying4 _), (trodAll_cons_mk (shut_int Tryd.underlying3 w0) (trodAll_cons_mk (Below.trod laidOut (by kernel_rfl) (of_decide_eq_true (by kernel_rfl)) k1 bel lt1) (trodAll_cons_mk (shut_int Tryd.underlying3 w2) (trodAll_cons_mk (shut_int Tryd.underlying3 w3) (trodAll_cons_mk (shut_int Tryd.underlying31 w4) trodAll_mk0))))), rfl, bel.frame _, fun h => by cases h⟩

theorem over : Rows.bitsBackRow.holds Tryd.pinned (OpenSpec.ofChange Rows.bitsBackSpec) :=
  OpenClaim.holds_of_wide 4 Tryd.f4 rfl rfl rfl rfl rfl rfl rfl ⟨rfl, rfl, rfl, rfl, rfl⟩ rfl rfl rfl rfl rfl (by kernel_rfl) Tryd.func4 (by kernel_rfl)
    (of_decide_eq_true (by kernel_rfl)) (by unfold Func.isWrapper; first | (rw [if_pos (by decide +kernel)]; kernel_rfl) | (rw [if_neg (by decide +kernel)]; exact ⟨rfl, rfl⟩))
    (fun os started H enc _ => lifted os started H enc)

theorem proved : Rows.BitsBackCardSaid :=
  Claim7.holds_tied_plain_at .later [] [.data, .data] true (true, "96ebdc0b6590c3421474a3afdebc92b9620e8281886a65cccbfbd02a6d73769d") true
    over (fun _ h => by cases h) (by kernel_rfl) (fun _ h => by cases h) bitsBack_row_tie rfl ⟨rfl, rfl⟩ (by kernel_rfl) rfl
    (fun f fn hf hfn => by
      obtain rfl : f = 4 := Option.some.inj ((show Tryd.prog.funcNamed "hayrick/hayricklaw05.BitsBack" = some 4 by kernel_rfl).symm.trans hf) |>.symm
      obtain rfl : fn = Tryd.f4 := (Option.some.inj (Tryd.func4.symm.trans hfn)).symm
      exact ⟨by kernel_rfl, fun j t ht => by
        have ha : (Tryd.f4.params.all fun t => !Tryd.prog.wantsStandIn t) = true := by kernel_rfl
        have hb := Array.all_eq_true_iff_forall_mem.1 ha t (Array.mem_of_getElem? ht)
        exact Bool.not_eq_true' _ ▸ hb⟩)
    (by kernel_rfl)
#print axioms proved
end Go.Proofs.YtcmpkcmfhfajpaaDoor.bitsBack
