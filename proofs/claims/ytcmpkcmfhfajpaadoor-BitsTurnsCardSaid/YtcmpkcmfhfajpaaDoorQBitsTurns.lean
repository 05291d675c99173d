
/-
  THE ROW of hayricklaw05.BitsTurns: for every input the law returns true, and its arguments read as they did. No condition.
-/
import Derived.Test.YtcmpkcmfhfajpaaDoorKR4N7
import Derived.Test.YtcmpkcmfhfajpaaDoorKR4N4
import Derived.Test.YtcmpkcmfhfajpaaDoorRows
import Derived.ProofKit
import Derived.OpenShut
import Derived.ShutString
import Derived.ChangeOld
import Derived.SizedLaws
import Derived.Lib.SmallJoins
import Derived.Test.YtcmpkcmfhfajpaaDoorTie
import Derived.Test.YtcmpkcmfhfajpaaDoorCards
import Derived.LaidMore
import Derived.Stop.Joined
import Derived.SevenTiedAt
namespace Go.Proofs.YtcmpkcmfhfajpaaDoor.Bits
open Go.RowKit Go.Proofs.YtcmpkcmfhfajpaaDoor.Wire
set_option maxHeartbeats 16000000
set_option maxRecDepth 100000
set_option linter.unusedVariables false
set_option linter.unusedSimpArgs false

def flip (x : UInt8) : UInt8 := ⟨x.toBitVec ^^^ 255#8⟩
theorem flip_f : ∀ x : BitVec 8, bits .xor .u8 (x.toNat : Int) 255 = ((x ^^^ 255#8).toNat : Int) := by decide +kernel
theorem flip_bit (x : UInt8) : bits .xor .u8 (x.toNat : Int) 255 = ((flip x).toNat : Int) := flip_f x.toBitVec
theorem keep_far {w5 wK wr : World} {A : Option Addr} {n : Nat} {bs : List UInt8} {row : Option Nat} (h5 : BytesAt w5 A n bs) (hK : BytesAt wK A n bs) (hgr : wK.grownBy wr row) (hg : ∀ g, row = some g → w5.heap.size ≤ g) : BytesAt wr A n bs :=
  hK.grown hgr fun a e hn e2 => by
    subst e
    have h1 := h5.lt hn
    have h2 := hg _ e2.symm
    omega
theorem bitsTurns_run (A : Option Addr) (l cap : Nat) (bs : List UInt8) (n f c : Int) (on : Bool) (seed : BitVec 32) (W : World) (hT : Tab W) (hn : l ≤ cap) (hc : cap ≤ 140737488351232) (hA : A = none → l = 0 ∧ cap = 0) (hb : BytesAt W A l bs) :
    Calls Tryd.prog 6 #[.slice A l cap, .int .i64 n, .int .i64 f, .int .i64 c, .bool on, .int .u32 (seed.toNat : Int)] W fun e w' => e = .returned (.bool true) ∧ Below W.heap.size W w' := by
  have HA := Lib.hid (awake_any W hT)
  have HT := Lib.hid hT
  have HB := Lib.hid hb
  have HAA := Lib.hid hA
  clear hT hb hA
  go_enter Tryd.func6, Tryd.ntmps6
  go_wp2_with fail
  refine HA.out.mono ?_
  rintro e w1 ⟨rfl, hb1⟩
  have B1' := Lib.hid hb1
  have BY1 := Lib.hid (HB.out.below hb1)
  clear hb1 HA
  go_wp2_with fail
  refine (copied_any A l cap bs w1 (by omega) HAA.out BY1.out).mono ?_
  rintro e w2 ⟨v0, rfl, ho2, hb2⟩
  obtain ⟨A0, c0, rfl, hy0, hn0, hm0, _, _⟩ := own_slice ho2
  unfold maxLen at hm0
  have B2' := Lib.hid (below_all B1'.out B1'.out.size hb2)
  have BY2 := Lib.hid (BY1.out.below hb2)
  have CP2 := Lib.hid hy0
  clear hb2 ho2 hy0
  go_wp2_with fail
  refine (new_any n seed w2).mono ?_
  rintro e w3 ⟨v1, rfl, hb3, ho3⟩
  obtain ⟨A1, c1, rfl, hy1, hn1, hm1, _, _⟩ := own_slice ho3
  unfold maxLen at hm1
  have B3' := Lib.hid (below_all B2'.out B2'.out.size hb3)
  have BY3 := Lib.hid (BY2.out.below hb3)
  have CP3 := Lib.hid (CP2.out.below hb3)
  have P3 := Lib.hid hy1
  clear hb3 ho3 hy1
  go_wp2_with fail
  refine (ref_new_any n seed w3).mono ?_
  rintro e w4 ⟨v2, rfl, hb4, ho4⟩
  obtain ⟨A2, c2, rfl, hy2, hn2, hm2, _, _⟩ := own_slice ho4
  unfold maxLen at hm2
  have B4' := Lib.hid (below_all B3'.out B3'.out.size hb4)
  have BY4 := Lib.hid (BY3.out.below hb4)
  have CP4 := Lib.hid (CP3.out.below hb4)
  have P4 := Lib.hid (P3.out.below hb4)
  have Q4 := Lib.hid hy2
  clear hb4 ho4 hy2
  have hNl : (newB n seed).length ≤ 256 := by unfold newB; split; simp; rw [sealB_len8, newL_length]; omega
  generalize newB n seed = NB at *
  generalize newE n = ne at *
  go_wp2_with fail
  refine (turn_any A l cap n f c on seed bs w4 hn (by omega) HAA.out BY4.out).mono ?_
  rintro e w5 ⟨v3, rfl, hb5, ho5⟩
  have B5' := Lib.hid (below_all B4'.out B4'.out.size hb5)
  have BY5 := Lib.hid (BY4.out.below hb5)
  have CP5 := Lib.hid (CP4.out.below hb5)
  have P5 := Lib.hid (P4.out.below hb5)
  have Q5 := Lib.hid (Q4.out.below hb5)
  have O5 := Lib.hid ho5
  clear hb5 ho5
  go_wp2_with fail
  refine (ref_turn_any A l cap n f c on seed bs w5 hn (by omega) BY5.out).mono ?_
  rintro e w6 ⟨v4, rfl, hb6, ho6⟩
  obtain ⟨A4, c4, rfl, hy4, hn4, hm4, _, _⟩ := own_slice ho6
  unfold maxLen at hm4
  have B6' := Lib.hid (below_all B5'.out B5'.out.size hb6)
  have BY6 := Lib.hid (BY5.out.below hb6)
  have CP6 := Lib.hid (CP5.out.below hb6)
  have P6 := Lib.hid (P5.out.below hb6)
  have Q6 := Lib.hid (Q5.out.below hb6)
  have O6 := Lib.hid (own_below O5.out hb6)
  have D6 := Lib.hid hy4
  clear hb6 ho6 hy4 O5
  have hTl : (turnB bs n f c on seed).length ≤ 256 := by
    unfold turnB
    split
    · rename_i h
      obtain ⟨p, m, ht⟩ := turned_of h
      rw [sealB_len8, turns_length, ht.len]; omega
    · simp
  generalize turnB bs n f c on seed = TB at *
  generalize turnE bs n f c on seed = te at *
  obtain ⟨L, hL⟩ : ∃ L, TB.length = L := ⟨_, rfl⟩
  rw [hL] at O6 D6 hTl hn4 ⊢
  have HLL := Lib.hid hL
  clear hL
  go_wp2_with fail
  refine (test_any A l cap bs f w6 BY6.out).mono ?_
  rintro e w' ⟨rfl, rfl⟩
  go_wp2_with fail
  refine (ref_test_any A l cap bs f w6 BY6.out).mono ?_
  rintro e w' ⟨rfl, rfl⟩
  generalize testX bs f = tx at *
  generalize testE f = tf at *
  obtain ⟨A3, c3, rfl, hy3, hn3, hm3, _, _⟩ := own_slice O6.out
  unfold maxLen at hm3
  have C6 := Lib.hid hy3
  clear hy3
  go_wp2_with fail
  refine (same_any A3 A4 L L c3 c4 TB TB w6 (by omega) C6.out D6.out).mono ?_
  rintro e w7 ⟨rfl, q, rfl⟩
  rw [show (TB == TB) = true by simp]
  go_wp2_with fail
  go_loopw [28] (fun kk wr => ∃ (k : Nat) (zs : List UInt8), kk = .int .i64 k ∧ k ≤ L ∧ zs.length = L ∧ wr.ownsRow w4.heap.size 5 1 (.slice A3 L c3) L (bvl zs) ∧ w6.grownBy wr (Value.slice A3 L c3).ownBlock) (fun kk _ => L - (intOf kk).toNat)
  case atStart => exact ⟨0, TB, rfl, Nat.zero_le _, HLL.out, O6.out, only_drewN (World.grownBy.refl _ _) q⟩
  case round =>
    obtain ⟨k, zs, rfl, hk, hzl, ho, hgr⟩ := hrel
    have O7 := Lib.hid ho
    have G7 := Lib.hid hgr
    clear ho hgr
    by_cases hlt : k < L
    · obtain ⟨g, cc, cur, hg, hgb, _⟩ := own_form O7.out (by omega)
      injection hg with hg _ hcc
      subst hg hcc
      obtain ⟨x, hx⟩ : ∃ x, zs[k]? = some x := ⟨_, List.getElem?_eq_getElem (by omega)⟩
      have hcx : wr.cell? ⟨g, k, none⟩ = some (.int .u8 (x.toNat : Int)) := by
        rw [O7.out.cellAt k (by omega), bvl_get, hx]; rfl
      have hfx : wr.frozen? ⟨g, k, none⟩ = false := O7.out.frozenAt k
      have HY := Lib.hid (flip_bit x)
      have O9 := Lib.hid (own_set8 O7.out k (flip x))
      have G9 := Lib.hid (only_setCell (show w6.grownBy wr (some g) from G7.out) (p := ⟨g, k, none⟩) (.inl rfl) (.int .u8 ((flip x).toNat : Int)))
      have HL2 := Lib.hid (show (zs.set k (flip x)).length = L by rw [List.length_set]; exact hzl)
      generalize flip x = y at *
      clear hx O7 G7
      go_wp2_with (simp only [HY.out])
      go_roundw
      case rel => exact ⟨k + 1, zs.set k y, by go_num, by omega, HL2.out, O9.out, G9.out⟩
      case measure => simp [intOf]; omega
    · have F5 := Lib.hid (fun g (e : (Value.slice A3 L c3).ownBlock = some g) => (O7.out.lt g e).1)
      have BY8 := Lib.hid (keep_far BY4.out BY6.out G7.out F5.out)
      have CP8 := Lib.hid (keep_far CP4.out CP6.out G7.out F5.out)
      have P8 := Lib.hid (keep_far P4.out P6.out G7.out F5.out)
      have Q8 := Lib.hid (keep_far Q4.out Q6.out G7.out F5.out)
      have B8 := Lib.hid (show Below W.heap.size W wr from below_row1 B6'.out G7.out (fun g e => Nat.le_trans B4'.out.size (F5.out g e)) B6'.out.size)
      clear F5 G7 O7
      have hne : (ne == ne) = true := by simp
      have hte : (te == te) = true := by simp
      have htx : (tx == tx) = true := by simp
      have htf : (tf == tf) = true := by simp
      go_wp2_with fail
      refine (same_any A1 A2 _ _ c1 c2 NB NB wr (by omega) P8.out Q8.out).mono ?_
      rintro e w9 ⟨rfl, q2, rfl⟩
      rw [show (NB == NB) = true by simp]
      have B9 := Lib.hid (below_drewN B8.out q2)
      have BY9 := Lib.hid (BY8.out.drewN q2)
      have CP9 := Lib.hid (CP8.out.drewN q2)
      go_wp2_with fail
      refine (check_any A l cap n seed bs _ hn (by omega) BY9.out).mono ?_
      rintro e w10 ⟨rfl, hb10⟩
      have B10 := Lib.hid (below_all B9.out B9.out.size hb10)
      have BY10 := Lib.hid (BY9.out.below hb10)
      have CP10 := Lib.hid (CP9.out.below hb10)
      clear hb10
      have HRC := Lib.hid (ref_check_any A l cap n seed bs w10 hn (by omega) BY10.out)
      generalize chkE bs n seed = ck at *
      have hck : (ck == ck) = true := by simp
      go_wp2_with fail
      refine HRC.out.mono ?_
      rintro e w' ⟨rfl, rfl⟩
      go_wp2_with fail
      refine (same_any A A0 l l cap c0 bs bs w10 (by omega) BY10.out CP10.out).mono ?_
      rintro e w11 ⟨rfl, q3, rfl⟩
      rw [show (bs == bs) = true by simp]
      have B11 := Lib.hid (below_drewN B10.out q3)
      go_wp2_with fail
      go_ret
      exact ⟨rfl, B11.out⟩
theorem bitsTurns_walk (w : World) (hT : Tab w) (a0 : Option Addr) (len0 cap0 : Nat) (z0 : List Int) (w0 : IsRow .u8 w a0 len0 cap0 z0) (e0 : cap0 * 1 ≤ 140737488351232) (a1 : Int) (w1 : (Lit.int .i64 a1).wf = true) (a2 : Int) (w2 : (Lit.int .i64 a2).wf = true)
    (a3 : Int) (w3 : (Lit.int .i64 a3).wf = true) (a4 : Bool) (a5 : Int) (w5 : (Lit.int .u32 a5).wf = true) :
    Calls Tryd.prog 6 #[.slice a0 len0 cap0, .int .i64 a1, .int .i64 a2, .int .i64 a3, .bool a4, .int .u32 a5] w fun e w' => e = .returned (.bool true) ∧ Below w.heap.size w w' := by
  obtain ⟨bs, hb, hl, hA⟩ := row_bytes w0
  obtain ⟨s, rfl⟩ := wf_u32 w5
  exact bitsTurns_run a0 len0 cap0 bs a1 a2 a3 a4 s w hT hl (by omega) hA hb
end Go.Proofs.YtcmpkcmfhfajpaaDoor.Bits

namespace Go.Proofs.YtcmpkcmfhfajpaaDoor.bitsTurns
open Go.ChangeShapes Go.WideShapes Go.ChangeAt Go.RowKit Go.Joins
set_option linter.unusedVariables false
set_option linter.unusedSimpArgs false

open Go.Proofs.YtcmpkcmfhfajpaaDoor.Bits
theorem own : ownKnob Tryd.prog.godebug = none := by kernel_rfl
theorem laidOut : laidOutB Tryd.prog = true := by kernel_rfl

theorem door_met (os : Os) (args : Array Value) : laidMetH Tryd.prog Bits.laidL ((World.doorLaid Tryd.prog 400 os).forCall (fun _ _ => 0) ⟨#[], args, []⟩).memory :=
  laidMetH_of_parts3 (fuel := 8) (laidMet_of_run' 8 (by kernel_rfl) (by kernel_rfl)) (by kernel_rfl) (by kernel_rfl)

set_option maxRecDepth 100000 in
theorem lifted (os : Os) (started : os.Started) (H : Type) (enc : TypeId × Value → H) :
    ReturnsInHanded {} Tryd.checked os 6 .any (fun w args => (Rows.bitsTurnsSpec.pre enc Tryd.prog Tryd.f6 Rows.bitsTurnsRow.domain false w args ∧ laidMetH Tryd.prog Bits.laidL w) ∧ sizedMet enc Tryd.prog Tryd.f6 (OpenSpec.ofChange Rows.bitsTurnsSpec) false w args) (Rows.bitsTurnsSpec.post enc Tryd.prog Tryd.f6 false true false false) := by
  refine returnsInHanded_of_change_and (C := Tryd.checked) (X := fun w _ => laidMetH Tryd.prog Bits.laidL w) (fun _ _ _ hh h => h.of_heap hh) own started (by kernel_rfl) Tryd.func6
    (ChangeSpec.witness_shaped (enc := enc) (C := Tryd.checked) (os := os) (X := fun w _ => laidMetH Tryd.prog Bits.laidL w) false (World.doorLaid Tryd.prog 400 os) #[.slice none 0 0, .int .i64 0, .int .i64 0, .int .i64 0, .bool false, .int .u32 0] 8 rfl (World.shaped_of_RefB (by kernel_rfl) (by kernel_rfl)) (by kernel_rfl) (by kernel_rfl) (by kernel_rfl) (door_met os _)) ?_
  intro W base args ds gs before hval0 hW hcnd hsz0 hL _
  have hval : ∀ (j : Nat) t v, Tryd.f6.params[j]? = some t → args[j]? = some v → Value.okWide Tryd.prog W .any base t v := hval0
  have hW' := hW
  obtain ⟨p, q, hA0, hV, rfl, hfz, hnd⟩ := hW
  have hA : DataW.TrodAll enc Tryd.prog W 0 (fun _ => true) true Tryd.f6.params.toList args.toList ds p := hA0
  have hsz : (DataW.weightsEach Tryd.prog (Tryd.f6.params.toList ++ Rows.bitsTurnsSpec.plain.varTypes Tryd.prog) (ds ++ gs)).all (· ≤ reachBytes) = true := hsz0
  rw [Tryd.params6] at hA hval hsz
  obtain ⟨v0, vs0, d0, ds0, p0, q0, hargs, rfl, rfl, h0, r0⟩ := trodAll_cons hA
  obtain ⟨v1, vs1, d1, ds1, p1, q1, rfl, rfl, rfl, h1, r1⟩ := trodAll_cons r0
  obtain ⟨v2, vs2, d2, ds2, p2, q2, rfl, rfl, rfl, h2, r2⟩ := trodAll_cons r1
  obtain ⟨v3, vs3, d3, ds3, p3, q3, rfl, rfl, rfl, h3, r3⟩ := trodAll_cons r2
  obtain ⟨v4, vs4, d4, ds4, p4, q4, rfl, rfl, rfl, h4, r4⟩ := trodAll_cons r3
  obtain ⟨v5, vs5, d5, ds5, p5, q5, rfl, rfl, rfl, h5, r5⟩ := trodAll_cons r4
  obtain ⟨rfl, rfl, rfl⟩ := trodAll_nil r5
  obtain rfl : args = #[v0, v1, v2, v3, v4, v5] := by cases args; simp_all
  obtain ⟨rfl, rfl⟩ := trodVars_none hV
  obtain ⟨a0, len0, cap0, rfl⟩ := okWide_slice Tryd.underlying22 (hval 0 22 v0 rfl rfl)
  have k0 := h0
  have lt0 : ∀ x ∈ p0, x.block < W.heap.size := by obtain ⟨m, hm⟩ := k0; exact DataW.trod_lt m _ _ _ hm
  obtain ⟨z0, w0, e0⟩ : ∃ zs, IsRow .u8 W a0 len0 cap0 zs ∧ cap0 * 1 ≤ 140737488351232 := by
    obtain ⟨fuel, hf⟩ := h0
    rcases open_ints Tryd.underlying22 Tryd.underlying5 (by kernel_rfl) hf with ⟨hcs, _⟩ | ⟨x, l, c, zs, hcs, _, hl, hm, hz, hx, hcell, hwz⟩
    · simp [Value.cells] at hcs
      obtain ⟨rfl, rfl, rfl⟩ := hcs
      exact ⟨[], .inl ⟨rfl, rfl, rfl, rfl⟩, by omega⟩
    · simp [Value.cells] at hcs
      obtain ⟨rfl, rfl, rfl⟩ := hcs
      refine ⟨zs, .inr ⟨_, rfl, hl, hm, by simpa using hz, hcell, hwz⟩, ?_⟩
      simp only [Prod.mk.injEq] at hx
      rw [hx.1] at hsz
      have := sized_slice hsz (j := 0) (t := 22) (e := 5) rfl rfl Tryd.underlying22
      rw [show Tryd.prog.bytesOf 5 = 1 from by kernel_rfl] at this
      simp [lits, List.length_map, List.length_take, List.length_drop, reachBytes] at this
      simp at hz
      omega
  obtain ⟨a1, rfl, rfl, rfl, w1⟩ := open_int Tryd.underlying3 (hval 1 3 v1 rfl rfl) h1
  obtain ⟨a2, rfl, rfl, rfl, w2⟩ := open_int Tryd.underlying3 (hval 2 3 v2 rfl rfl) h2
  obtain ⟨a3, rfl, rfl, rfl, w3⟩ := open_int Tryd.underlying3 (hval 3 3 v3 rfl rfl) h3
  obtain ⟨a4, rfl, rfl, rfl⟩ := open_bool Tryd.underlying4 (hval 4 4 v4 rfl rfl) h4
  obtain ⟨a5, rfl, rfl, rfl, w5⟩ := open_int Tryd.underlying31 (hval 5 31 v5 rfl rfl) h5
  clear hA0 hval0
  refine (bitsTurns_walk W (Bits.tab_of_laid hL) a0 len0 cap0 z0 w0 e0 a1 w1 a2 w2 a3 w3 a4 a5 w5).mono fun e W' ⟨he, bel⟩ => ?_
  subst he
  exact ⟨_, rfl, _, _, _, [], _, [], hW', trodAll_mk1 (shut_bool Tryd.underlying4 _), (trodAll_cons_mk (Below.trod laidOut (by kernel_rfl) (of_decide_eq_true (by kernel_rfl)) k0 bel lt0) (trodAll_cons_mk (shut_int Tryd.underlying3 w1) (trodAll_cons_mk (shut_int Tryd.underlying3 w2) (trodAll_cons_mk (shut_int Tryd.underlying3 w3) (trodAll_cons_mk (shut_bool Tryd.underlying4 _) (trodAll_cons_mk (shut_int Tryd.underlying31 w5) trodAll_mk0)))))), rfl, bel.frame _, fun h => by cases h⟩

theorem over : Rows.bitsTurnsRow.holds Tryd.pinned (OpenSpec.ofChange Rows.bitsTurnsSpec) :=
  OpenClaim.holds_of_wide 6 Tryd.f6 rfl rfl rfl rfl rfl rfl rfl ⟨rfl, rfl, rfl, rfl, rfl⟩ rfl rfl rfl rfl rfl (by kernel_rfl) Tryd.func6 (by kernel_rfl)
    (of_decide_eq_true (by kernel_rfl)) (by unfold Func.isWrapper; first | (rw [if_pos (by decide +kernel)]; kernel_rfl) | (rw [if_neg (by decide +kernel)]; exact ⟨rfl, rfl⟩))
    (fun os started H enc _ => lifted os started H enc)

theorem proved : Rows.BitsTurnsCardSaid :=
  Claim7.holds_tied_plain_at .later [] [.data, .data] true (true, "96ebdc0b6590c3421474a3afdebc92b9620e8281886a65cccbfbd02a6d73769d") true
    over (fun _ h => by cases h) (by kernel_rfl) (fun _ h => by cases h) bitsTurns_row_tie rfl ⟨rfl, rfl⟩ (by kernel_rfl) rfl
    (fun f fn hf hfn => by
      obtain rfl : f = 6 := Option.some.inj ((show Tryd.prog.funcNamed "hayrick/hayricklaw05.BitsTurns" = some 6 by kernel_rfl).symm.trans hf) |>.symm
      obtain rfl : fn = Tryd.f6 := (Option.some.inj (Tryd.func6.symm.trans hfn)).symm
      exact ⟨by kernel_rfl, fun j t ht => by
        have ha : (Tryd.f6.params.all fun t => !Tryd.prog.wantsStandIn t) = true := by kernel_rfl
        have hb := Array.all_eq_true_iff_forall_mem.1 ha t (Array.mem_of_getElem? ht)
        exact Bool.not_eq_true' _ ▸ hb⟩)
    (by kernel_rfl)
#print axioms proved
end Go.Proofs.YtcmpkcmfhfajpaaDoor.bitsTurns
