/-
  THE WALK of WirePacks.
-/
import Derived.Test.YtjjbkefgbjcmeaaLOnly
import Derived.Test.YtjjbkefgbjcmeaaRef5
import Derived.Test.YtjjbkefgbjcmeaaLSeals
namespace Go.Proofs.Ytjjbkefgbjcmeaa.Wire
open Go.RowKit
set_option maxHeartbeats 8000000
set_option maxRecDepth 100000
set_option linter.unusedVariables false
set_option linter.unusedSimpArgs false

theorem packB_len (l : List Nat) (ws : List Int) (size : Int) (hn : ws.length ≤ 17592186044415) : (packB l ws size).length ≤ 1125899906842624 := by
  unfold packB
  split
  · rename_i hm
    simp only [pmay, Bool.and_eq_true, decide_eq_true_eq] at hm
    obtain ⟨m1, m2, m3, m4⟩ := hm
    cases hp : packs l ws with
    | none => simp
    | some bs =>
      have hbl : bs = pre l ws l.length := by
        rcases first_big l ws m1 with hbig | ⟨j, x, z, j1, j2, j3, _⟩
        · have := packs_some l ws m1 hbig
          rw [hp] at this; injection this
        · have := packs_none l ws j x z j1 j2 j3
          rw [hp] at this; cases this
      have hpl := pre_length l ws l.length m1 m2
      rw [m1, List.take_length, ← m1, ← hbl] at hpl
      simp; omega
  · simp
theorem unpackX_len (bs : List UInt8) (ws : List Int) : (unpackX bs ws).length ≤ ws.length := by
  unfold unpackX
  split
  · rw [unpacks_length]; exact Nat.le_refl _
  · simp

theorem wirePacks_run (A0 A1 A3 : Option Addr) (n0 c0 n1 c1 n3 c3 : Nat) (l : List Nat) (ws : List Int) (size : Int) (bs : List UInt8) (W : World) (hn : n1 ≤ 17592186044415) (h64 : ∀ x ∈ l, x < 18446744073709551616) (hl3 : n3 ≤ c3) (hc3 : c3 ≤ 140737488351232)
    (hl : RowAt W A0 n0 (nums l)) (hr : RowAt W A1 n1 (ints ws)) (hb : BytesAt W A3 n3 bs) :
    Calls Try.prog 8 #[.slice A0 n0 c0, .slice A1 n1 c1, .int .i64 size, .slice A3 n3 c3] W fun e w' => e = .returned (.bool true) ∧ Below W.heap.size W w' := by
  have hlw : ws.length = n1 := by have := hr.len; simpa [ints] using this
  have hpn := packB_len l ws size (by omega)
  have hun := unpackX_len bs ws
  have HL := Lib.hid hl
  have HR := Lib.hid hr
  have HB := Lib.hid hb
  have H64 := Lib.hid h64
  clear hl hr hb h64
  go_enter Try.func8, Try.ntmps8
  go_wp2_with fail
  refine (awake_true _).mono ?_
  rintro e w1 ⟨rfl, hb1⟩
  have B1 := Lib.hid hb1
  clear hb1
  go_wp2_with fail
  refine (pack_any A0 A1 n0 c0 n1 c1 l ws size _ (by omega) H64.out (HL.out.below B1.out) (HR.out.below B1.out)).mono ?_
  rintro e w2 ⟨v, rfl, hb2, ho2⟩
  have B2 := Lib.hid (below_all B1.out B1.out.size hb2)
  have O2 := Lib.hid ho2
  obtain ⟨A4, c4, rfl, _, hc4, hm4, _, _⟩ := own_slice ho2
  clear hb2 ho2 hm4 B1
  go_wp2_with fail
  refine (ref_pack_any A0 A1 n0 c0 n1 c1 l ws size _ (by omega) H64.out (HL.out.below B2.out) (HR.out.below B2.out)).mono ?_
  rintro e w3 ⟨v, rfl, hb3, ho3⟩
  have B3 := Lib.hid (below_all B2.out B2.out.size hb3)
  have P2 := Lib.hid (own_below O2.out hb3)
  have P3 := Lib.hid ho3
  obtain ⟨A5, c5, rfl, _, hc5, hm5, _, _⟩ := own_slice ho3
  clear hb3 ho3 hm5 B2 O2
  go_wp2_with fail
  refine (unpack_any A1 A3 n1 c1 n3 c3 ws bs _ hn hl3 (by omega) (HR.out.below B3.out) (HB.out.below B3.out)).mono ?_
  rintro e w4 ⟨v, rfl, hb4, ho4⟩
  have B4 := Lib.hid (below_all B3.out B3.out.size hb4)
  have R2 := Lib.hid (own_below P2.out hb4)
  have R3 := Lib.hid (own_below P3.out hb4)
  have R4 := Lib.hid ho4
  obtain ⟨A6, c6, rfl, _, hc6, hm6, _⟩ := own_slice64 ho4
  clear hb4 ho4 hm6 B3 P2 P3
  go_wp2_with fail
  refine (ref_unpack_any A1 A3 n1 c1 n3 c3 ws bs _ hn hl3 (by omega) (HR.out.below B4.out) (HB.out.below B4.out)).mono ?_
  rintro e w5 ⟨v, rfl, hb5, ho5⟩
  have B5 := Lib.hid (below_all B4.out B4.out.size hb5)
  have S2 := Lib.hid (own_bytes (own_below R2.out hb5))
  have S3 := Lib.hid (own_bytes (own_below R3.out hb5))
  have S4 := Lib.hid (own_below R4.out hb5)
  obtain ⟨A7, c7, rfl, hrow7, hc7, hm7, _⟩ := own_slice64 ho5
  have S5 := Lib.hid hrow7
  clear hb5 ho5 hm7 hrow7 B4 R2 R3 R4
  obtain ⟨A8, c8, e8, hrow4, _, _, _⟩ := own_slice64 S4.out
  obtain ⟨rfl, rfl⟩ : A6 = A8 ∧ c6 = c8 := by injection e8 with x1 x2 x3; exact ⟨x1, x3⟩
  have S6 := Lib.hid hrow4
  clear e8 hrow4 S4
  generalize packE l ws size = pe
  generalize unpackE bs ws = ue
  generalize hpb : packB l ws size = pb at *
  generalize hux : unpackX bs ws = ux at *
  clear hpb hux
  generalize hnp : pb.length = np at *
  generalize hnu : ux.length = nu at *
  clear hnp hnu
  go_wp2_with fail
  refine (same_any _ _ np np c4 c5 pb pb _ (by omega) S2.out S3.out).mono ?_
  rintro e w6 ⟨rfl, q, rfl⟩
  rw [show (pb == pb) = true by simp]
  go_wp2_with fail
  refine (numbers_any _ _ nu nu c6 c7 ux ux (w5.drewN q) (by omega) S6.out S5.out).mono ?_
  rintro e w7 ⟨rfl, q2, rfl⟩
  rw [show (ux == ux) = true by simp]
  go_wp2_with fail
  go_ret
  exact ⟨rfl, below_drewN B5.out _⟩

theorem wirePacks_walk (w : World) (a0 : Option Addr) (len0 cap0 : Nat) (z0 : List Int) (w0 : IsRow .u64 w a0 len0 cap0 z0) (e0 : cap0 * 8 ≤ 140737488351232)
    (a1 : Option Addr) (len1 cap1 : Nat) (z1 : List Int) (w1 : IsRow .i64 w a1 len1 cap1 z1) (e1 : cap1 * 8 ≤ 140737488351232) (a2 : Int) (w2 : (Lit.int .i64 a2).wf = true)
    (a3 : Option Addr) (len3 cap3 : Nat) (z3 : List Int) (w3 : IsRow .u8 w a3 len3 cap3 z3) (e3 : cap3 * 1 ≤ 140737488351232) :
    Calls Try.prog 8 #[.slice a0 len0 cap0, .slice a1 len1 cap1, .int .i64 a2, .slice a3 len3 cap3] w fun e w' => e = .returned (.bool true) ∧ Below w.heap.size w w' := by
  obtain ⟨l, hl, hl0, hA0, h64⟩ := row_nums w0
  obtain ⟨ws, hr, hl1, hA1, _⟩ := row_ints w1
  obtain ⟨bs, hb, hl3, hA3⟩ := row_bytes w3
  exact wirePacks_run a0 a1 a3 len0 cap0 len1 cap1 len3 cap3 l ws a2 bs w (by omega) h64 hl3 (by omega) hl hr hb
end Go.Proofs.Ytjjbkefgbjcmeaa.Wire
