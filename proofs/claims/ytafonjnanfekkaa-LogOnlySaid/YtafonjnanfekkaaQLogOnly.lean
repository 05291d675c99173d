
/-
  THE ROW of hayricklaw07.LogOnly: for every input the law returns true, and its arguments read as they did. No condition.
-/
import Derived.Test.YtafonjnanfekkaaK9
import Derived.Test.YtafonjnanfekkaaK3
import Derived.Test.YtafonjnanfekkaaRows
import Derived.ProofKit
import Derived.OpenShut
import Derived.ShutString
import Derived.ChangeOld
import Derived.SizedLaws
import Derived.Lib.SmallJoins
namespace Go.Proofs.Ytafonjnanfekkaa.LLogOnly
open Go.RowKit Go.Proofs.Ytafonjnanfekkaa.Wire Go.Proofs.Ytafonjnanfekkaa.Lay Go.Proofs.Ytafonjnanfekkaa.Log
set_option maxHeartbeats 8000000
set_option maxRecDepth 100000
set_option linter.unusedVariables false
set_option linter.unusedSimpArgs false

theorem logOnly_run (A : Option Addr) (n cap : Nat) (bs : List UInt8) (w : World) (hnc : n ≤ cap) (hn : cap ≤ 140737488351232) (hA : A = none → n = 0 ∧ cap = 0) (hb : BytesAt w A n bs) :
    Calls Try.prog 8 #[.slice A n cap] w fun e w' => e = .returned (.bool true) ∧ Below w.heap.size w w' := by
  have HB := Lib.hid hb
  have HU := Lib.hid (fun w1 => logUnpack_any A n cap bs w1 hnc (by omega))
  clear hb
  cases huo : uOk bs
  · have HUE := Lib.hid (show uE bs = 117 by simp [uE, huo])
    have HUV := Lib.hid (show ∀ v, uV bs v = #[.int .i64 0, .int .i64 0, .slice none 0 0, .int .u32 0, .int .i64 0] from fun v => by simp [uV, huo])
    clear huo
    go_enter Try.func8, Try.ntmps8
    go_wp2_with fail
    refine (logAwake_true w).mono ?_
    rintro e w1 ⟨rfl, hb1⟩
    have B1 := Lib.hid hb1
    clear hb1
    go_wp2_with fail
    refine (HU.out w1 (HB.out.below B1.out)).mono ?_
    rintro e w2 ⟨v2, rfl, hb2, _⟩
    rw [HUE.out, HUV.out]
    have B2 := Lib.hid (below_all B1.out B1.out.size hb2)
    have r0 := Blk.new w2 57 #[.int .i64 0, .int .i64 0, .slice none 0 0, .int .u32 0, .int .i64 0]
    have f0 := r0.cell 0
    have f2 := r0.cell 2
    have B3 := Lib.hid (B2.out.alloc B2.out.size (.cells #[.int .i64 0, .int .i64 0, .slice none 0 0, .int .u32 0, .int .i64 0] 57))
    clear hb2 r0
    go_wp2_with fail
    go_ret
    exact ⟨rfl, B3.out⟩
  · have huo' := huo
    simp only [uOk, Bool.and_eq_true, beq_iff_eq] at huo'
    obtain ⟨hmay, hrb⟩ := huo'
    have hg := rGood (show rMay _ _ _ _ _ = true from hmay)
    have hk : 1 ≤ uf bs 4 1 ∧ uf bs 4 1 ≤ 4 := by rcases hg.kind with ⟨h, _⟩ | ⟨h, _⟩ | ⟨h, _⟩ | ⟨h, _⟩ <;> omega
    have hre : rE (uf bs 4 1) (uf bs 5 4) (uEs bs) (uSum bs (uP bs)) (uSt bs (uP bs)) = 0 := if_pos hmay
    have hrb' : rB (uf bs 4 1) (uf bs 5 4) (uEs bs) (uSum bs (uP bs)) (uSt bs (uP bs)) = bs := hrb
    have HSL := Lib.hid (uSum_lt bs (uP bs))
    have HUE := Lib.hid (show uE bs = 0 by simp [uE, huo])
    have HUV := Lib.hid (show ∀ v, uV bs v = #[.int .i64 (uf bs 4 1), .int .i64 (uf bs 5 4), v, .int .u32 (uSum bs (uP bs) : Int), .int .i64 (uSt bs (uP bs))] from fun v => by rw [uV, if_pos huo])
    have HUX := Lib.hid (show uXs bs = uEs bs by simp [uXs, huo])
    have HLN := Lib.hid (uEs_length bs)
    have HLE := Lib.hid (uN_le bs)
    have hbl := HB.out.len
    generalize uf bs 4 1 = k at *
    generalize uf bs 5 4 = s at *
    generalize uSum bs (uP bs) = sum at *
    generalize uSt bs (uP bs) = st at *
    have HP := Lib.hid fun (A2 : Option Addr) (c2 : Nat) (w2 : World) (h : RowAt w2 A2 ((uEs bs).length * 2) (ecells (uEs bs))) => logPack_any k s A2 (uEs bs).length c2 sum st (uEs bs) w2 (by have := HLN.out; have := HLE.out; omega) HSL.out h
    rw [hre, hrb', hbl] at HP
    clear huo hmay hrb hg hre hrb' hbl
    go_enter Try.func8, Try.ntmps8
    go_wp2_with fail
    refine (logAwake_true w).mono ?_
    rintro e w1 ⟨rfl, hb1⟩
    have B1 := Lib.hid hb1
    clear hb1
    go_wp2_with fail
    refine (HU.out w1 (HB.out.below B1.out)).mono ?_
    rintro e w2 ⟨v2, rfl, hb2, ho2⟩
    rw [HUE.out, HUV.out]
    rw [HUX.out] at ho2
    obtain ⟨A2, c2, rfl, hr2, _, _, _, _⟩ := own_sliceN ho2
    have B2 := Lib.hid (below_all B1.out B1.out.size hb2)
    have r0 := Blk.new w2 57 #[.int .i64 k, .int .i64 s, .slice A2 (uEs bs).length c2, .int .u32 (sum : Int), .int .i64 st]
    have R0 := Lib.hid r0
    have f0 := r0.cell 0
    have f1 := r0.cell 1
    have f2 := r0.cell 2
    have f3 := r0.cell 3
    have f4 := r0.cell 4
    have B3 := Lib.hid (B2.out.alloc B2.out.size (.cells #[.int .i64 k, .int .i64 s, .slice A2 (uEs bs).length c2, .int .u32 (sum : Int), .int .i64 st] 57))
    have HP2 := Lib.hid (HP.out A2 c2 _ (hr2.below ((Below.refl w2.heap.size w2).alloc (Nat.le_refl _) (.cells #[.int .i64 k, .int .i64 s, .slice A2 (uEs bs).length c2, .int .u32 (sum : Int), .int .i64 st] 57))))
    clear hb2 ho2 hr2 r0 HP HU
    go_wp2_with fail
    refine HP2.out.mono ?_
    rintro e w4 ⟨v4, rfl, hb4, ho4⟩
    clear f0 f1 f2 f3 f4
    have B4 := Lib.hid (below_all B3.out B3.out.size hb4)
    have g0 := (R0.out.belowAll hb4).cell 0
    obtain ⟨A4, c4, rfl, hy4, _, _, _, _⟩ := own_slice ho4
    have HS := Lib.hid (same_any A A4 n n cap c4 bs bs w4 (by omega) (HB.out.below B4.out) hy4)
    rw [show (bs == bs) = true by simp] at HS
    clear hb4 ho4 hy4
    go_wp2_with fail
    refine HS.out.mono ?_
    rintro e w5 ⟨rfl, q, rfl⟩
    have g1 : (w4.drewN q).cell? ⟨w2.heap.size, 0, none⟩ = some (.int .i64 k) := g0
    clear g0
    go_wp2_with fail
    go_ret
    exact ⟨rfl, below_drewN B4.out _⟩

theorem logOnly_walk (w : World) (a0 : Option Addr) (len0 cap0 : Nat) (z0 : List Int) (w0 : IsRow .u8 w a0 len0 cap0 z0) (e0 : cap0 * 1 ≤ 140737488351232) :
    Calls Try.prog 8 #[.slice a0 len0 cap0] w fun e w' => e = .returned (.bool true) ∧ Below w.heap.size w w' := by
  obtain ⟨bs, hb, hl, hA⟩ := row_bytes w0
  exact logOnly_run a0 len0 cap0 bs w hl (by omega) hA hb
end Go.Proofs.Ytafonjnanfekkaa.LLogOnly

namespace Go.Proofs.Ytafonjnanfekkaa.logOnly
open Go.ChangeShapes Go.WideShapes Go.ChangeAt Go.RowKit Go.Joins
set_option linter.unusedVariables false
set_option linter.unusedSimpArgs false

open Go.Proofs.Ytafonjnanfekkaa.LLogOnly
theorem own : ownKnob Try.prog.godebug = none := by kernel_rfl
theorem laidOut : laidOutB Try.prog = true := by kernel_rfl

set_option maxRecDepth 100000 in
theorem lifted (os : Os) (started : os.Started) (H : Type) (enc : TypeId × Value → H) :
    ReturnsInHanded {} Try.checked os 8 .any (Rows.logOnlySpec.pre6 enc Try.prog Try.f8 Rows.logOnlyRow.domain false) (Rows.logOnlySpec.post enc Try.prog Try.f8 false true false false) := by
  refine returnsInHanded_of_change_sized (C := Try.checked) own started (by kernel_rfl) Try.func8
    (ChangeSpec.witness6 (enc := enc) (C := Try.checked) false ⟨#[], #[.slice none 0 0], []⟩ 8 (by kernel_rfl) (by kernel_rfl) (by kernel_rfl) (by kernel_rfl)) ?_
  intro W base args ds gs before hval0 hW hcnd hsz0 _
  have hval : ∀ (j : Nat) t v, Try.f8.params[j]? = some t → args[j]? = some v → Value.okWide Try.prog W .any base t v := hval0
  have hW' := hW
  obtain ⟨p, q, hA0, hV, rfl, hfz, hnd⟩ := hW
  have hA : DataW.TrodAll enc Try.prog W 0 (fun _ => true) true Try.f8.params.toList args.toList ds p := hA0
  have hsz : (DataW.weightsEach Try.prog (Try.f8.params.toList ++ Rows.logOnlySpec.plain.varTypes Try.prog) (ds ++ gs)).all (· ≤ reachBytes) = true := hsz0
  rw [Try.params8] at hA hval hsz
  obtain ⟨v0, vs0, d0, ds0, p0, q0, hargs, rfl, rfl, h0, r0⟩ := trodAll_cons hA
  obtain ⟨rfl, rfl, rfl⟩ := trodAll_nil r0
  obtain rfl : args = #[v0] := by cases args; simp_all
  obtain ⟨rfl, rfl⟩ := trodVars_none hV
  obtain ⟨a0, len0, cap0, rfl⟩ := okWide_slice Try.underlying26 (hval 0 26 v0 rfl rfl)
  have k0 := h0
  have lt0 : ∀ x ∈ p0, x.block < W.heap.size := by obtain ⟨m, hm⟩ := k0; exact DataW.trod_lt m _ _ _ hm
  obtain ⟨z0, w0, e0⟩ : ∃ zs, IsRow .u8 W a0 len0 cap0 zs ∧ cap0 * 1 ≤ 140737488351232 := by
    obtain ⟨fuel, hf⟩ := h0
    rcases open_ints Try.underlying26 Try.underlying5 (by kernel_rfl) hf with ⟨hcs, _⟩ | ⟨x, l, c, zs, hcs, _, hl, hm, hz, hx, hcell, hwz⟩
    · simp [Value.cells] at hcs
      obtain ⟨rfl, rfl, rfl⟩ := hcs
      exact ⟨[], .inl ⟨rfl, rfl, rfl, rfl⟩, by omega⟩
    · simp [Value.cells] at hcs
      obtain ⟨rfl, rfl, rfl⟩ := hcs
      refine ⟨zs, .inr ⟨_, rfl, hl, hm, by simpa using hz, hcell, hwz⟩, ?_⟩
      simp only [Prod.mk.injEq] at hx
      rw [hx.1] at hsz
      have := sized_slice hsz (j := 0) (t := 26) (e := 5) rfl rfl Try.underlying26
      rw [show Try.prog.bytesOf 5 = 1 from by kernel_rfl] at this
      simp [lits, List.length_map, List.length_take, List.length_drop, reachBytes] at this
      simp at hz
      omega
  clear hA0 hval0
  refine (logOnly_walk W a0 len0 cap0 z0 w0 e0).mono fun e W' ⟨he, bel⟩ => ?_
  subst he
  exact ⟨_, rfl, _, _, _, [], _, [], hW', trodAll_mk1 (shut_bool Try.underlying4 _), (trodAll_cons_mk (Below.trod laidOut (by kernel_rfl) (of_decide_eq_true (by kernel_rfl)) k0 bel lt0) trodAll_mk0), rfl, bel.frame _, fun h => by cases h⟩

theorem over : Rows.logOnlyRow.holds Try.pinned (OpenSpec.ofChange Rows.logOnlySpec) :=
  OpenClaim.holds_of_wide 8 Try.f8 rfl rfl rfl rfl rfl rfl rfl ⟨rfl, rfl, rfl, rfl, rfl⟩ rfl rfl rfl rfl rfl (by kernel_rfl) Try.func8 (by kernel_rfl)
    (of_decide_eq_true (by kernel_rfl)) (by unfold Func.isWrapper; first | (rw [if_pos (by decide +kernel)]; kernel_rfl) | (rw [if_neg (by decide +kernel)]; exact ⟨rfl, rfl⟩))
    (fun os started H enc _ => lifted os started H enc)

theorem proved : Rows.LogOnlySaid := over
#print axioms proved
end Go.Proofs.Ytafonjnanfekkaa.logOnly
