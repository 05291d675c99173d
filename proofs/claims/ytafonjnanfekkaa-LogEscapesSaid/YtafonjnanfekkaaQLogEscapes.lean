
/-
  THE ROW of hayricklaw07.LogEscapes: for every input the law returns true, and its arguments read as they did. No condition.
-/
import Derived.Test.YtafonjnanfekkaaK9
import Derived.Test.YtafonjnanfekkaaK3
import Derived.Test.YtafonjnanfekkaaRows
import Derived.ProofKit
import Derived.OpenShut
import Derived.ShutString
import Derived.ChangeOld
import Derived.SizedLaws
import Derived.Lib.SmallJoins
namespace Go.Proofs.Ytafonjnanfekkaa.LLogEscapes
open Go.RowKit Go.Proofs.Ytafonjnanfekkaa.Wire Go.Proofs.Ytafonjnanfekkaa.Lay Go.Proofs.Ytafonjnanfekkaa.Log
set_option maxHeartbeats 8000000
set_option maxRecDepth 100000
set_option linter.unusedVariables false
set_option linter.unusedSimpArgs false

theorem xor_byte (x : UInt8) : ∃ y : UInt8, bits .xor .u8 (x.toNat : Int) 255 = (y.toNat : Int) := by
  refine ⟨⟨x.toBitVec ^^^ 255#8⟩, ?_⟩
  show IntKind.u8.wrap ((BitVec.ofInt 8 (x.toNat : Int) ^^^ BitVec.ofInt 8 255).toNat : Int) = _
  have h1 : BitVec.ofInt 8 (x.toNat : Int) = x.toBitVec := by rw [BitVec.ofInt_natCast]; exact BitVec.eq_of_toNat_eq (by rw [BitVec.toNat_ofNat]; exact Nat.mod_eq_of_lt x.toNat_lt)
  have h2 : BitVec.ofInt 8 (255 : Int) = 255#8 := by decide
  rw [h1, h2]
  have h3 := (x.toBitVec ^^^ 255#8).isLt
  show IntKind.u8.wrap ((x.toBitVec ^^^ 255#8).toNat : Int) = ((x.toBitVec ^^^ 255#8).toNat : Int)
  generalize (x.toBitVec ^^^ 255#8).toNat = m at *
  rw [IntKind.wrap_u8]
  omega
/-- A record begins with the magic. -/
theorem rB_magic {k s : Int} {es : List Ent} {sum : Nat} {st : Int} (h : rMay k s es sum st = true) (hs : sum < 4294967296) : (rB k s es sum st).take 4 = magicB := by
  obtain ⟨t, _, h1, _, _⟩ := (rGood h).packed hs
  rw [rB, if_pos h, h1]
  have hl : (rL k s es sum st).length = ([k.toNat, s.toNat, es.length] ++ esL k es ++ tL k sum st).length + 1 := by simp [rL, hL]
  have e : pre (rL k s es sum st) (rW k es.length) (rL k s es sum st).length = le 4 1213813321 ++ pre ([k.toNat, s.toNat, es.length] ++ esL k es ++ tL k sum st) ([1, 4, 2] ++ esW k es.length ++ tW k) ([k.toNat, s.toNat, es.length] ++ esL k es ++ tL k sum st).length := by
    rw [hl]; rfl
  rw [e, List.append_assoc, List.take_append_of_le_length (by rw [le_length]; omega), List.take_of_length_le (by rw [le_length]; omega)]
  decide
theorem esc_none (bs : List UInt8) : uOk (escB bs) = false := by
  cases h : uOk (escB bs)
  · rfl
  · exfalso
    simp only [uOk, Bool.and_eq_true, beq_iff_eq] at h
    have hm := rB_magic h.1 (uSum_lt _ _)
    have h2 : (escB bs).take 4 = magicB := by rw [← h.2]; exact hm
    cases hi : escIs bs
    · rw [escB, hi] at h2
      have h3 := congrArg List.length h2
      simp only [Bool.false_eq_true, if_false] at h2 h3
      rw [List.length_take] at h3
      have h4 : 4 ≤ bs.length := by simp only [magicB, List.length_cons, List.length_nil] at h3; omega
      simp [escIs, h4, h2] at hi
    · rw [escB, if_pos hi] at h2
      simp [magicB] at h2
theorem esc_back (bs : List UInt8) : unescB (escB bs) (escIs bs) = bs := by
  cases hi : escIs bs
  · simp [unescB, escB, hi]
  · have hi' := hi
    simp only [escIs, Bool.and_eq_true, decide_eq_true_eq, beq_iff_eq] at hi'
    have hl := escB_length bs
    rw [unescB, hl, Bool.true_and, if_pos (by simpa using hi'.1), escB, if_pos hi, List.drop_append_of_le_length (by simp), ← hi'.2]
    simp
/-- Laid down it does not begin with the magic. -/
theorem esc_begins (bs : List UInt8) (n : Nat) (hn : bs.length = n) : n < 4 ∨ ∃ c0 c1 c2 c3, (escB bs)[0]? = some c0 ∧ (escB bs)[1]? = some c1 ∧ (escB bs)[2]? = some c2 ∧ (escB bs)[3]? = some c3 ∧ 4 ≤ n ∧
    (c0 ≠ 73 ∨ c0 = 73 ∧ (c1 ≠ 82 ∨ c1 = 82 ∧ (c2 ≠ 89 ∨ c2 = 89 ∧ c3 ≠ 72))) := by
  by_cases h4 : n < 4
  · exact .inl h4
  · right
    have hl := escB_length bs
    obtain ⟨c0, c1, c2, c3, r, he⟩ : ∃ c0 c1 c2 c3 r, escB bs = c0 :: c1 :: c2 :: c3 :: r := by
      match h : escB bs with
      | [] => rw [h] at hl; simp at hl; omega
      | [_] => rw [h] at hl; simp at hl; omega
      | [_, _] => rw [h] at hl; simp at hl; omega
      | [_, _, _] => rw [h] at hl; simp at hl; omega
      | c0 :: c1 :: c2 :: c3 :: r => exact ⟨c0, c1, c2, c3, r, rfl⟩
    refine ⟨c0, c1, c2, c3, by simp [he], by simp [he], by simp [he], by simp [he], by omega, ?_⟩
    by_cases h0 : c0 = 73
    · by_cases h1 : c1 = 82
      · by_cases h2 : c2 = 89
        · refine .inr ⟨h0, .inr ⟨h1, .inr ⟨h2, fun h3 => ?_⟩⟩⟩
          subst h0 h1 h2 h3
          cases hi : escIs bs
          · rw [escB, hi] at he
            simp only [Bool.false_eq_true, if_false] at he
            simp [escIs, he, magicB] at hi
          · rw [escB, if_pos hi] at he
            simp at he
        · exact .inr ⟨h0, .inr ⟨h1, .inl h2⟩⟩
      · exact .inr ⟨h0, .inl h1⟩
    · exact .inl h0
theorem byte_ne {c : UInt8} {m : UInt8} (h : c ≠ m) : ((c.toNat : Int) == (m.toNat : Int)) = false := by
  rw [beq_eq_false_iff_ne]
  intro e
  exact h (UInt8.toNat_inj.mp (by omega))
theorem logEscapes_run (A : Option Addr) (n cap : Nat) (bs : List UInt8) (w : World) (hnc : n ≤ cap) (hn : cap ≤ 140737488351232) (hA : A = none → n = 0 ∧ cap = 0) (hb : BytesAt w A n bs) :
    Calls Try.prog 10 #[.slice A n cap] w fun e w' => e = .returned (.bool true) ∧ Below w.heap.size w w' := by
  have hlen := hb.len
  have HB := Lib.hid hb
  have HL := Lib.hid hlen
  have HA := Lib.hid hA
  have HBG := Lib.hid (esc_begins bs n hlen)
  have huo := esc_none bs
  have HUE := Lib.hid (show uE (escB bs) = 117 by simp [uE, huo])
  have HUV := Lib.hid (show ∀ v, uV (escB bs) v = #[.int .i64 0, .int .i64 0, .slice none 0 0, .int .u32 0, .int .i64 0] from fun v => by simp [uV, huo])
  have HBK := Lib.hid (esc_back bs)
  have HPL := Lib.hid (show unescB bs false = bs by simp [unescB])
  have HEL := Lib.hid (escB_length bs)
  clear hb hlen hA huo
  go_enter Try.func10, Try.ntmps10
  go_wp2_with fail
  refine (logAwake_true w).mono ?_
  rintro e w1 ⟨rfl, hb1⟩
  have B1 := Lib.hid hb1
  have HB1 := Lib.hid (HB.out.below hb1)
  clear hb1
  go_wp2_with fail
  refine (escape_any A n cap bs w1 hnc (by omega) (by omega) HA.out HB1.out).mono ?_
  rintro e w2 ⟨v2, rfl, hb2, ho2⟩
  have B2 := Lib.hid (below_all B1.out B1.out.size hb2)
  obtain ⟨A2, c2, rfl, hy2, h2l, h2c, h2n, h2b⟩ := own_slice ho2
  have hz1 := B1.out.size
  have hz2 := B2.out.size
  have O2 := Lib.hid ho2
  have Y2 := Lib.hid hy2
  have N2 := Lib.hid h2n
  clear hb2 ho2 hy2 h2n
  have h2c' : c2 ≤ 9223372036854775807 := by unfold maxLen at h2c; omega
  clear h2c h2b
  go_wp2_with fail
  refine (unescape_any A2 n c2 (escB bs) (escIs bs) w2 h2l (by omega) h2c' N2.out Y2.out).mono ?_
  rintro e w3 ⟨v3, rfl, hb3, ho3⟩
  rw [HBK.out] at ho3
  have B3 := Lib.hid (below_all B2.out B2.out.size hb3)
  have O3 := Lib.hid ho3
  have O2a := Lib.hid (own_belowN O2.out hb3)
  have Y2a := Lib.hid (Y2.out.below hb3)
  have hz3 := hb3.size
  have HG2 := Lib.hid (fun g (e : (Value.slice A2 n c2).ownBlock = some g) => O2.out.lt g e)
  clear hb3 ho3 O2 Y2
  go_wp2_with fail
  refine (logUnpack_any A2 n c2 (escB bs) w3 h2l h2c' Y2a.out).mono ?_
  rintro e w4 ⟨v4, rfl, hb4, _⟩
  rw [HUE.out, HUV.out]
  have B4 := Lib.hid ((below_all B3.out B3.out.size hb4).alloc (below_all B3.out B3.out.size hb4).size (.cells #[.int .i64 0, .int .i64 0, .slice none 0 0, .int .u32 0, .int .i64 0] 57))
  have O3b := Lib.hid ((own_belowN O3.out hb4).alloc (.cells #[.int .i64 0, .int .i64 0, .slice none 0 0, .int .u32 0, .int .i64 0] 57))
  have O2b := Lib.hid ((own_belowN O2a.out hb4).alloc (.cells #[.int .i64 0, .int .i64 0, .slice none 0 0, .int .u32 0, .int .i64 0] 57))
  obtain ⟨w5, hw5⟩ : ∃ w5, w4.alloc (.cells #[.int .i64 0, .int .i64 0, .slice none 0 0, .int .u32 0, .int .i64 0] 57) = w5 := ⟨_, rfl⟩
  have HW5 := Lib.hid hw5
  rw [hw5] at B4 O3b O2b
  have HB5 := Lib.hid (HB.out.below B4.out)
  have hz5 : w2.heap.size ≤ w5.heap.size := by have h1 := hb4.size; rw [← hw5]; simp; omega
  clear hb4 O3 O2a Y2a hw5
  go_wp2_with fail
  rw [HW5.out]
  refine (unescape_any A n cap bs false w5 hnc (by omega) (by omega) HA.out HB5.out).mono ?_
  rintro e w6 ⟨v6, rfl, hb6, ho6⟩
  rw [HPL.out] at ho6
  have B6 := Lib.hid (below_all B4.out B4.out.size hb6)
  have O3c := Lib.hid (own_belowN O3b.out hb6)
  have O2c := Lib.hid (own_belowN O2b.out hb6)
  have HB6 := Lib.hid (HB.out.below B6.out)
  obtain ⟨A6, c6, rfl, hy6, _, _, _, _⟩ := own_slice ho6
  obtain ⟨A3, c3, rfl, hy3, _, _, h3n, h3b⟩ := own_slice O3c.out
  have Y6 := Lib.hid hy6
  have Y3 := Lib.hid hy3
  have HS := Lib.hid (same_any A3 A n n c3 cap bs bs w6 (by omega) Y3.out HB6.out)
  rw [show (bs == bs) = true by simp] at HS
  clear hb6 ho6 hy6 hy3 O3b O2b HW5
  have HXB := Lib.hid xor_byte
  rcases HBG.out with h4 | ⟨b0, b1, b2, b3, e0, e1, e2, e3, h4, hne⟩
  rotate_left
  · obtain ⟨g, cp, cs, ev, _, hblk, _, _, _⟩ := own_form O2c.out (by omega)
    injection ev with ev1 ev2 ev3
    subst ev1 ev3
    clear ev2
    have f0 : w6.cell? ⟨g, 0, none⟩ = some (.int .u8 (b0.toNat : Int)) := by rw [O2c.out.cellAt 0 (by omega), bvl_get, e0]; rfl
    have f1 : w6.cell? ⟨g, 1, none⟩ = some (.int .u8 (b1.toNat : Int)) := by rw [O2c.out.cellAt 1 (by omega), bvl_get, e1]; rfl
    have f2 : w6.cell? ⟨g, 2, none⟩ = some (.int .u8 (b2.toNat : Int)) := by rw [O2c.out.cellAt 2 (by omega), bvl_get, e2]; rfl
    have f3 : w6.cell? ⟨g, 3, none⟩ = some (.int .u8 (b3.toNat : Int)) := by rw [O2c.out.cellAt 3 (by omega), bvl_get, e3]; rfl
    have h4a : (4 : Int) ≤ (n : Int) := by omega
    have i0 : (0 : Int) < (n : Int) := by omega
    have i1 : (1 : Int) < (n : Int) := by omega
    have i2 : (2 : Int) < (n : Int) := by omega
    have i3 : (3 : Int) < (n : Int) := by omega
    clear e0 e1 e2 e3 hblk
    rcases hne with hn0 | ⟨rfl, hn1 | ⟨rfl, hn2 | ⟨rfl, hn3⟩⟩⟩
    · have q := byte_ne hn0
      rw [show (((73 : UInt8).toNat : Nat) : Int) = 73 from rfl] at q
      clear hn0 f1 f2 f3 i1 i2 i3
      go_wp2_with fail
      refine HS.out.mono ?_
      rintro e w7 ⟨rfl, q7, rfl⟩
      clear HS
      clear f0 i0 q
      have HS2 := Lib.hid (same_any A6 A n n c6 cap bs bs (w6.drewN q7) (by omega) (Y6.out.drewN _) (HB6.out.drewN _))
      rw [show (bs == bs) = true by simp] at HS2
      go_wp2_with fail
      refine HS2.out.mono ?_
      rintro e w8 ⟨rfl, q8, rfl⟩
      clear HS2
      have B8 := Lib.hid (below_drewN B6.out (q7 + q8))
      have O3d := Lib.hid (show (w6.drewN (q7 + q8)).ownsRow w2.heap.size 5 1 (.slice A3 n c3) n (bvl bs) from O3c.out)
      have O2d := Lib.hid (show (w6.drewN (q7 + q8)).ownsRow w1.heap.size 5 1 (.slice (some ⟨g, 0, none⟩) n c2) n (bvl (escB bs)) from O2c.out)
      go_wp2_with fail
      go_loopw [12] (fun i wr => ∃ (k : Nat) (zs : List UInt8), k ≤ n ∧ i = .int .i64 k ∧ wr.ownsRow w1.heap.size 5 1 (.slice (some ⟨g, 0, none⟩) n c2) n (bvl zs) ∧ wr.ownsRow w2.heap.size 5 1 (.slice A3 n c3) n (bvl bs) ∧ Below w.heap.size w wr) (fun i _ => n - (intOf i).toNat)
      case atStart => exact ⟨0, _, by omega, rfl, O2d.out, O3d.out, B8.out⟩
      case round =>
        obtain ⟨k, zs, hk, rfl, ho, ho3, hbel⟩ := hrel
        have X1 := Lib.hid ho
        have X2 := Lib.hid ho3
        have X3 := Lib.hid hbel
        clear ho ho3 hbel
        by_cases hlt : k < n
        · obtain ⟨g', cp', cs', ev', hg', hblk', _, _, hcs'⟩ := own_form X1.out (by omega)
          injection ev' with ev1' ev2' ev3'
          obtain rfl : g = g' := by injection ev1' with h1; injection h1
          clear ev1' ev2' ev3'
          have hzl := X1.out.1
          rw [bvl_length] at hzl
          obtain ⟨x, hx⟩ : ∃ x, zs[k]? = some x := ⟨_, List.getElem?_eq_getElem (by omega)⟩
          obtain ⟨y, hy⟩ := HXB.out x
          have fk : wr.cell? ⟨g, k, none⟩ = some (.int .u8 (x.toNat : Int)) := by rw [X1.out.cellAt k (by omega), bvl_get, hx]; rfl
          have zk : wr.frozen? ⟨g, k, none⟩ = false := hblk'.frozen k
          have hk0 : (0 : Int) ≤ (k : Int) := by omega
          have hkn : (k : Int) < (n : Int) := by omega
          have X4 := Lib.hid (own_set X1.out k y)
          have hne' : (Value.slice A3 n c3).ownBlock ≠ some g := fun e => by
            have h1 := (X2.out.lt _ e).1
            have h2 := (HG2.out g rfl).2
            omega
          have X5 := Lib.hid (X2.out.kept (only_setCell (World.grownBy.refl wr (some g)) (p := ⟨g, k, none⟩) (.inl rfl) (.int .u8 (y.toNat : Int))) (.inr hne'))
          have X6 := Lib.hid (X3.out.setCell (p := ⟨g, k, none⟩) (Nat.le_trans hz1 hg') (.int .u8 (y.toNat : Int)))
          clear hblk' hne' X1 X2 hx hg'
          go_wp2
          go_roundw
          case rel => exact ⟨k + 1, _, by omega, by go_num, X4.out, X5.out, X6.out⟩
          case measure => simp [intOf]; omega
        · obtain rfl : k = n := by omega
          obtain ⟨A9, c9, ev9, hy9, _, _, _, _⟩ := own_slice X2.out
          injection ev9 with ev91 ev92 ev93
          subst ev91 ev93
          have HS3 := Lib.hid (same_any A3 A k k c3 cap bs bs wr (by omega) hy9 (HB.out.below X3.out))
          rw [show (bs == bs) = true by simp] at HS3
          clear hy9
          go_wp2_with fail
          refine HS3.out.mono ?_
          rintro e w9 ⟨rfl, q9, rfl⟩
          go_wp2_with fail
          go_ret
          exact ⟨rfl, below_drewN X3.out _⟩
    · have q := byte_ne hn1
      rw [show (((82 : UInt8).toNat : Nat) : Int) = 82 from rfl] at q
      clear hn1 f2 f3 i2 i3
      go_wp2_with fail
      refine HS.out.mono ?_
      rintro e w7 ⟨rfl, q7, rfl⟩
      clear HS
      clear f0 f1 i0 i1 q
      have HS2 := Lib.hid (same_any A6 A n n c6 cap bs bs (w6.drewN q7) (by omega) (Y6.out.drewN _) (HB6.out.drewN _))
      rw [show (bs == bs) = true by simp] at HS2
      go_wp2_with fail
      refine HS2.out.mono ?_
      rintro e w8 ⟨rfl, q8, rfl⟩
      clear HS2
      have B8 := Lib.hid (below_drewN B6.out (q7 + q8))
      have O3d := Lib.hid (show (w6.drewN (q7 + q8)).ownsRow w2.heap.size 5 1 (.slice A3 n c3) n (bvl bs) from O3c.out)
      have O2d := Lib.hid (show (w6.drewN (q7 + q8)).ownsRow w1.heap.size 5 1 (.slice (some ⟨g, 0, none⟩) n c2) n (bvl (escB bs)) from O2c.out)
      go_wp2_with fail
      go_loopw [12] (fun i wr => ∃ (k : Nat) (zs : List UInt8), k ≤ n ∧ i = .int .i64 k ∧ wr.ownsRow w1.heap.size 5 1 (.slice (some ⟨g, 0, none⟩) n c2) n (bvl zs) ∧ wr.ownsRow w2.heap.size 5 1 (.slice A3 n c3) n (bvl bs) ∧ Below w.heap.size w wr) (fun i _ => n - (intOf i).toNat)
      case atStart => exact ⟨0, _, by omega, rfl, O2d.out, O3d.out, B8.out⟩
      case round =>
        obtain ⟨k, zs, hk, rfl, ho, ho3, hbel⟩ := hrel
        have X1 := Lib.hid ho
        have X2 := Lib.hid ho3
        have X3 := Lib.hid hbel
        clear ho ho3 hbel
        by_cases hlt : k < n
        · obtain ⟨g', cp', cs', ev', hg', hblk', _, _, hcs'⟩ := own_form X1.out (by omega)
          injection ev' with ev1' ev2' ev3'
          obtain rfl : g = g' := by injection ev1' with h1; injection h1
          clear ev1' ev2' ev3'
          have hzl := X1.out.1
          rw [bvl_length] at hzl
          obtain ⟨x, hx⟩ : ∃ x, zs[k]? = some x := ⟨_, List.getElem?_eq_getElem (by omega)⟩
          obtain ⟨y, hy⟩ := HXB.out x
          have fk : wr.cell? ⟨g, k, none⟩ = some (.int .u8 (x.toNat : Int)) := by rw [X1.out.cellAt k (by omega), bvl_get, hx]; rfl
          have zk : wr.frozen? ⟨g, k, none⟩ = false := hblk'.frozen k
          have hk0 : (0 : Int) ≤ (k : Int) := by omega
          have hkn : (k : Int) < (n : Int) := by omega
          have X4 := Lib.hid (own_set X1.out k y)
          have hne' : (Value.slice A3 n c3).ownBlock ≠ some g := fun e => by
            have h1 := (X2.out.lt _ e).1
            have h2 := (HG2.out g rfl).2
            omega
          have X5 := Lib.hid (X2.out.kept (only_setCell (World.grownBy.refl wr (some g)) (p := ⟨g, k, none⟩) (.inl rfl) (.int .u8 (y.toNat : Int))) (.inr hne'))
          have X6 := Lib.hid (X3.out.setCell (p := ⟨g, k, none⟩) (Nat.le_trans hz1 hg') (.int .u8 (y.toNat : Int)))
          clear hblk' hne' X1 X2 hx hg'
          go_wp2
          go_roundw
          case rel => exact ⟨k + 1, _, by omega, by go_num, X4.out, X5.out, X6.out⟩
          case measure => simp [intOf]; omega
        · obtain rfl : k = n := by omega
          obtain ⟨A9, c9, ev9, hy9, _, _, _, _⟩ := own_slice X2.out
          injection ev9 with ev91 ev92 ev93
          subst ev91 ev93
          have HS3 := Lib.hid (same_any A3 A k k c3 cap bs bs wr (by omega) hy9 (HB.out.below X3.out))
          rw [show (bs == bs) = true by simp] at HS3
          clear hy9
          go_wp2_with fail
          refine HS3.out.mono ?_
          rintro e w9 ⟨rfl, q9, rfl⟩
          go_wp2_with fail
          go_ret
          exact ⟨rfl, below_drewN X3.out _⟩
    · have q := byte_ne hn2
      rw [show (((89 : UInt8).toNat : Nat) : Int) = 89 from rfl] at q
      clear hn2 f3 i3
      go_wp2_with fail
      refine HS.out.mono ?_
      rintro e w7 ⟨rfl, q7, rfl⟩
      clear HS
      clear f0 f1 f2 i0 i1 i2 q
      have HS2 := Lib.hid (same_any A6 A n n c6 cap bs bs (w6.drewN q7) (by omega) (Y6.out.drewN _) (HB6.out.drewN _))
      rw [show (bs == bs) = true by simp] at HS2
      go_wp2_with fail
      refine HS2.out.mono ?_
      rintro e w8 ⟨rfl, q8, rfl⟩
      clear HS2
      have B8 := Lib.hid (below_drewN B6.out (q7 + q8))
      have O3d := Lib.hid (show (w6.drewN (q7 + q8)).ownsRow w2.heap.size 5 1 (.slice A3 n c3) n (bvl bs) from O3c.out)
      have O2d := Lib.hid (show (w6.drewN (q7 + q8)).ownsRow w1.heap.size 5 1 (.slice (some ⟨g, 0, none⟩) n c2) n (bvl (escB bs)) from O2c.out)
      go_wp2_with fail
      go_loopw [12] (fun i wr => ∃ (k : Nat) (zs : List UInt8), k ≤ n ∧ i = .int .i64 k ∧ wr.ownsRow w1.heap.size 5 1 (.slice (some ⟨g, 0, none⟩) n c2) n (bvl zs) ∧ wr.ownsRow w2.heap.size 5 1 (.slice A3 n c3) n (bvl bs) ∧ Below w.heap.size w wr) (fun i _ => n - (intOf i).toNat)
      case atStart => exact ⟨0, _, by omega, rfl, O2d.out, O3d.out, B8.out⟩
      case round =>
        obtain ⟨k, zs, hk, rfl, ho, ho3, hbel⟩ := hrel
        have X1 := Lib.hid ho
        have X2 := Lib.hid ho3
        have X3 := Lib.hid hbel
        clear ho ho3 hbel
        by_cases hlt : k < n
        · obtain ⟨g', cp', cs', ev', hg', hblk', _, _, hcs'⟩ := own_form X1.out (by omega)
          injection ev' with ev1' ev2' ev3'
          obtain rfl : g = g' := by injection ev1' with h1; injection h1
          clear ev1' ev2' ev3'
          have hzl := X1.out.1
          rw [bvl_length] at hzl
          obtain ⟨x, hx⟩ : ∃ x, zs[k]? = some x := ⟨_, List.getElem?_eq_getElem (by omega)⟩
          obtain ⟨y, hy⟩ := HXB.out x
          have fk : wr.cell? ⟨g, k, none⟩ = some (.int .u8 (x.toNat : Int)) := by rw [X1.out.cellAt k (by omega), bvl_get, hx]; rfl
          have zk : wr.frozen? ⟨g, k, none⟩ = false := hblk'.frozen k
          have hk0 : (0 : Int) ≤ (k : Int) := by omega
          have hkn : (k : Int) < (n : Int) := by omega
          have X4 := Lib.hid (own_set X1.out k y)
          have hne' : (Value.slice A3 n c3).ownBlock ≠ some g := fun e => by
            have h1 := (X2.out.lt _ e).1
            have h2 := (HG2.out g rfl).2
            omega
          have X5 := Lib.hid (X2.out.kept (only_setCell (World.grownBy.refl wr (some g)) (p := ⟨g, k, none⟩) (.inl rfl) (.int .u8 (y.toNat : Int))) (.inr hne'))
          have X6 := Lib.hid (X3.out.setCell (p := ⟨g, k, none⟩) (Nat.le_trans hz1 hg') (.int .u8 (y.toNat : Int)))
          clear hblk' hne' X1 X2 hx hg'
          go_wp2
          go_roundw
          case rel => exact ⟨k + 1, _, by omega, by go_num, X4.out, X5.out, X6.out⟩
          case measure => simp [intOf]; omega
        · obtain rfl : k = n := by omega
          obtain ⟨A9, c9, ev9, hy9, _, _, _, _⟩ := own_slice X2.out
          injection ev9 with ev91 ev92 ev93
          subst ev91 ev93
          have HS3 := Lib.hid (same_any A3 A k k c3 cap bs bs wr (by omega) hy9 (HB.out.below X3.out))
          rw [show (bs == bs) = true by simp] at HS3
          clear hy9
          go_wp2_with fail
          refine HS3.out.mono ?_
          rintro e w9 ⟨rfl, q9, rfl⟩
          go_wp2_with fail
          go_ret
          exact ⟨rfl, below_drewN X3.out _⟩
    · have q := byte_ne hn3
      rw [show (((72 : UInt8).toNat : Nat) : Int) = 72 from rfl] at q
      clear hn3
      go_wp2_with fail
      refine HS.out.mono ?_
      rintro e w7 ⟨rfl, q7, rfl⟩
      clear HS
      clear f0 f1 f2 f3 i0 i1 i2 i3 q
      have HS2 := Lib.hid (same_any A6 A n n c6 cap bs bs (w6.drewN q7) (by omega) (Y6.out.drewN _) (HB6.out.drewN _))
      rw [show (bs == bs) = true by simp] at HS2
      go_wp2_with fail
      refine HS2.out.mono ?_
      rintro e w8 ⟨rfl, q8, rfl⟩
      clear HS2
      have B8 := Lib.hid (below_drewN B6.out (q7 + q8))
      have O3d := Lib.hid (show (w6.drewN (q7 + q8)).ownsRow w2.heap.size 5 1 (.slice A3 n c3) n (bvl bs) from O3c.out)
      have O2d := Lib.hid (show (w6.drewN (q7 + q8)).ownsRow w1.heap.size 5 1 (.slice (some ⟨g, 0, none⟩) n c2) n (bvl (escB bs)) from O2c.out)
      go_wp2_with fail
      go_loopw [12] (fun i wr => ∃ (k : Nat) (zs : List UInt8), k ≤ n ∧ i = .int .i64 k ∧ wr.ownsRow w1.heap.size 5 1 (.slice (some ⟨g, 0, none⟩) n c2) n (bvl zs) ∧ wr.ownsRow w2.heap.size 5 1 (.slice A3 n c3) n (bvl bs) ∧ Below w.heap.size w wr) (fun i _ => n - (intOf i).toNat)
      case atStart => exact ⟨0, _, by omega, rfl, O2d.out, O3d.out, B8.out⟩
      case round =>
        obtain ⟨k, zs, hk, rfl, ho, ho3, hbel⟩ := hrel
        have X1 := Lib.hid ho
        have X2 := Lib.hid ho3
        have X3 := Lib.hid hbel
        clear ho ho3 hbel
        by_cases hlt : k < n
        · obtain ⟨g', cp', cs', ev', hg', hblk', _, _, hcs'⟩ := own_form X1.out (by omega)
          injection ev' with ev1' ev2' ev3'
          obtain rfl : g = g' := by injection ev1' with h1; injection h1
          clear ev1' ev2' ev3'
          have hzl := X1.out.1
          rw [bvl_length] at hzl
          obtain ⟨x, hx⟩ : ∃ x, zs[k]? = some x := ⟨_, List.getElem?_eq_getElem (by omega)⟩
          obtain ⟨y, hy⟩ := HXB.out x
          have fk : wr.cell? ⟨g, k, none⟩ = some (.int .u8 (x.toNat : Int)) := by rw [X1.out.cellAt k (by omega), bvl_get, hx]; rfl
          have zk : wr.frozen? ⟨g, k, none⟩ = false := hblk'.frozen k
          have hk0 : (0 : Int) ≤ (k : Int) := by omega
          have hkn : (k : Int) < (n : Int) := by omega
          have X4 := Lib.hid (own_set X1.out k y)
          have hne' : (Value.slice A3 n c3).ownBlock ≠ some g := fun e => by
            have h1 := (X2.out.lt _ e).1
            have h2 := (HG2.out g rfl).2
            omega
          have X5 := Lib.hid (X2.out.kept (only_setCell (World.grownBy.refl wr (some g)) (p := ⟨g, k, none⟩) (.inl rfl) (.int .u8 (y.toNat : Int))) (.inr hne'))
          have X6 := Lib.hid (X3.out.setCell (p := ⟨g, k, none⟩) (Nat.le_trans hz1 hg') (.int .u8 (y.toNat : Int)))
          clear hblk' hne' X1 X2 hx hg'
          go_wp2
          go_roundw
          case rel => exact ⟨k + 1, _, by omega, by go_num, X4.out, X5.out, X6.out⟩
          case measure => simp [intOf]; omega
        · obtain rfl : k = n := by omega
          obtain ⟨A9, c9, ev9, hy9, _, _, _, _⟩ := own_slice X2.out
          injection ev9 with ev91 ev92 ev93
          subst ev91 ev93
          have HS3 := Lib.hid (same_any A3 A k k c3 cap bs bs wr (by omega) hy9 (HB.out.below X3.out))
          rw [show (bs == bs) = true by simp] at HS3
          clear hy9
          go_wp2_with fail
          refine HS3.out.mono ?_
          rintro e w9 ⟨rfl, q9, rfl⟩
          go_wp2_with fail
          go_ret
          exact ⟨rfl, below_drewN X3.out _⟩
  · have h4a : ¬ (4 : Int) ≤ (n : Int) := by omega
    go_wp2_with fail
    refine HS.out.mono ?_
    rintro e w7 ⟨rfl, q7, rfl⟩
    clear HS
    have HS2 := Lib.hid (same_any A6 A n n c6 cap bs bs (w6.drewN q7) (by omega) (Y6.out.drewN _) (HB6.out.drewN _))
    rw [show (bs == bs) = true by simp] at HS2
    go_wp2_with fail
    refine HS2.out.mono ?_
    rintro e w8 ⟨rfl, q8, rfl⟩
    clear HS2
    have B8 := Lib.hid (below_drewN B6.out (q7 + q8))
    have O3d := Lib.hid (show (w6.drewN (q7 + q8)).ownsRow w2.heap.size 5 1 (.slice A3 n c3) n (bvl bs) from O3c.out)
    have O2d := Lib.hid (show (w6.drewN (q7 + q8)).ownsRow w1.heap.size 5 1 (.slice A2 n c2) n (bvl (escB bs)) from O2c.out)
    go_wp2_with fail
    go_loopw [12] (fun i wr => ∃ (k : Nat) (zs : List UInt8), k ≤ n ∧ i = .int .i64 k ∧ wr.ownsRow w1.heap.size 5 1 (.slice A2 n c2) n (bvl zs) ∧ wr.ownsRow w2.heap.size 5 1 (.slice A3 n c3) n (bvl bs) ∧ Below w.heap.size w wr) (fun i _ => n - (intOf i).toNat)
    case atStart => exact ⟨0, _, by omega, rfl, O2d.out, O3d.out, B8.out⟩
    case round =>
      obtain ⟨k, zs, hk, rfl, ho, ho3, hbel⟩ := hrel
      have X1 := Lib.hid ho
      have X2 := Lib.hid ho3
      have X3 := Lib.hid hbel
      clear ho ho3 hbel
      by_cases hlt : k < n
      · obtain ⟨g', cp', cs', ev', hg', hblk', _, _, hcs'⟩ := own_form X1.out (by omega)
        injection ev' with ev1' ev2' ev3'
        subst ev1'
        clear ev2' ev3'
        have hzl := X1.out.1
        rw [bvl_length] at hzl
        obtain ⟨x, hx⟩ : ∃ x, zs[k]? = some x := ⟨_, List.getElem?_eq_getElem (by omega)⟩
        obtain ⟨y, hy⟩ := HXB.out x
        have fk : wr.cell? ⟨g', k, none⟩ = some (.int .u8 (x.toNat : Int)) := by rw [X1.out.cellAt k (by omega), bvl_get, hx]; rfl
        have zk : wr.frozen? ⟨g', k, none⟩ = false := hblk'.frozen k
        have hk0 : (0 : Int) ≤ (k : Int) := by omega
        have hkn : (k : Int) < (n : Int) := by omega
        have X4 := Lib.hid (own_set X1.out k y)
        have hne' : (Value.slice A3 n c3).ownBlock ≠ some g' := fun e => by
          have h1 := (X2.out.lt _ e).1
          have h2 := (HG2.out g' rfl).2
          omega
        have X5 := Lib.hid (X2.out.kept (only_setCell (World.grownBy.refl wr (some g')) (p := ⟨g', k, none⟩) (.inl rfl) (.int .u8 (y.toNat : Int))) (.inr hne'))
        have X6 := Lib.hid (X3.out.setCell (p := ⟨g', k, none⟩) (Nat.le_trans hz1 hg') (.int .u8 (y.toNat : Int)))
        clear hblk' hne' X1 X2 hx hg'
        go_wp2
        go_roundw
        case rel => exact ⟨k + 1, _, by omega, by go_num, X4.out, X5.out, X6.out⟩
        case measure => simp [intOf]; omega
      · obtain rfl : k = n := by omega
        obtain ⟨A9, c9, ev9, hy9, _, _, _, _⟩ := own_slice X2.out
        injection ev9 with ev91 ev92 ev93
        subst ev91 ev93
        have HS3 := Lib.hid (same_any A3 A k k c3 cap bs bs wr (by omega) hy9 (HB.out.below X3.out))
        rw [show (bs == bs) = true by simp] at HS3
        clear hy9
        go_wp2_with fail
        refine HS3.out.mono ?_
        rintro e w9 ⟨rfl, q9, rfl⟩
        go_wp2_with fail
        go_ret
        exact ⟨rfl, below_drewN X3.out _⟩
theorem logEscapes_walk (w : World) (a0 : Option Addr) (len0 cap0 : Nat) (z0 : List Int) (w0 : IsRow .u8 w a0 len0 cap0 z0) (e0 : cap0 * 1 ≤ 140737488351232) :
    Calls Try.prog 10 #[.slice a0 len0 cap0] w fun e w' => e = .returned (.bool true) ∧ Below w.heap.size w w' := by
  obtain ⟨bs, hb, hl, hA⟩ := row_bytes w0
  exact logEscapes_run a0 len0 cap0 bs w hl (by omega) hA hb
end Go.Proofs.Ytafonjnanfekkaa.LLogEscapes

namespace Go.Proofs.Ytafonjnanfekkaa.logEscapes
open Go.ChangeShapes Go.WideShapes Go.ChangeAt Go.RowKit Go.Joins
set_option linter.unusedVariables false
set_option linter.unusedSimpArgs false

open Go.Proofs.Ytafonjnanfekkaa.LLogEscapes
theorem own : ownKnob Try.prog.godebug = none := by kernel_rfl
theorem laidOut : laidOutB Try.prog = true := by kernel_rfl

set_option maxRecDepth 100000 in
theorem lifted (os : Os) (started : os.Started) (H : Type) (enc : TypeId × Value → H) :
    ReturnsInHanded {} Try.checked os 10 .any (Rows.logEscapesSpec.pre6 enc Try.prog Try.f10 Rows.logEscapesRow.domain false) (Rows.logEscapesSpec.post enc Try.prog Try.f10 false true false false) := by
  refine returnsInHanded_of_change_sized (C := Try.checked) own started (by kernel_rfl) Try.func10
    (ChangeSpec.witness6 (enc := enc) (C := Try.checked) false ⟨#[], #[.slice none 0 0], []⟩ 8 (by kernel_rfl) (by kernel_rfl) (by kernel_rfl) (by kernel_rfl)) ?_
  intro W base args ds gs before hval0 hW hcnd hsz0 _
  have hval : ∀ (j : Nat) t v, Try.f10.params[j]? = some t → args[j]? = some v → Value.okWide Try.prog W .any base t v := hval0
  have hW' := hW
  obtain ⟨p, q, hA0, hV, rfl, hfz, hnd⟩ := hW
  have hA : DataW.TrodAll enc Try.prog W 0 (fun _ => true) true Try.f10.params.toList args.toList ds p := hA0
  have hsz : (DataW.weightsEach Try.prog (Try.f10.params.toList ++ Rows.logEscapesSpec.plain.varTypes Try.prog) (ds ++ gs)).all (· ≤ reachBytes) = true := hsz0
  rw [Try.params10] at hA hval hsz
  obtain ⟨v0, vs0, d0, ds0, p0, q0, hargs, rfl, rfl, h0, r0⟩ := trodAll_cons hA
  obtain ⟨rfl, rfl, rfl⟩ := trodAll_nil r0
  obtain rfl : args = #[v0] := by cases args; simp_all
  obtain ⟨rfl, rfl⟩ := trodVars_none hV
  obtain ⟨a0, len0, cap0, rfl⟩ := okWide_slice Try.underlying26 (hval 0 26 v0 rfl rfl)
  have k0 := h0
  have lt0 : ∀ x ∈ p0, x.block < W.heap.size := by obtain ⟨m, hm⟩ := k0; exact DataW.trod_lt m _ _ _ hm
  obtain ⟨z0, w0, e0⟩ : ∃ zs, IsRow .u8 W a0 len0 cap0 zs ∧ cap0 * 1 ≤ 140737488351232 := by
    obtain ⟨fuel, hf⟩ := h0
    rcases open_ints Try.underlying26 Try.underlying5 (by kernel_rfl) hf with ⟨hcs, _⟩ | ⟨x, l, c, zs, hcs, _, hl, hm, hz, hx, hcell, hwz⟩
    · simp [Value.cells] at hcs
      obtain ⟨rfl, rfl, rfl⟩ := hcs
      exact ⟨[], .inl ⟨rfl, rfl, rfl, rfl⟩, by omega⟩
    · simp [Value.cells] at hcs
      obtain ⟨rfl, rfl, rfl⟩ := hcs
      refine ⟨zs, .inr ⟨_, rfl, hl, hm, by simpa using hz, hcell, hwz⟩, ?_⟩
      simp only [Prod.mk.injEq] at hx
      rw [hx.1] at hsz
      have := sized_slice hsz (j := 0) (t := 26) (e := 5) rfl rfl Try.underlying26
      rw [show Try.prog.bytesOf 5 = 1 from by kernel_rfl] at this
      simp [lits, List.length_map, List.length_take, List.length_drop, reachBytes] at this
      simp at hz
      omega
  clear hA0 hval0
  refine (logEscapes_walk W a0 len0 cap0 z0 w0 e0).mono fun e W' ⟨he, bel⟩ => ?_
  subst he
  exact ⟨_, rfl, _, _, _, [], _, [], hW', trodAll_mk1 (shut_bool Try.underlying4 _), (trodAll_cons_mk (Below.trod laidOut (by kernel_rfl) (of_decide_eq_true (by kernel_rfl)) k0 bel lt0) trodAll_mk0), rfl, bel.frame _, fun h => by cases h⟩

theorem over : Rows.logEscapesRow.holds Try.pinned (OpenSpec.ofChange Rows.logEscapesSpec) :=
  OpenClaim.holds_of_wide 10 Try.f10 rfl rfl rfl rfl rfl rfl rfl ⟨rfl, rfl, rfl, rfl, rfl⟩ rfl rfl rfl rfl rfl (by kernel_rfl) Try.func10 (by kernel_rfl)
    (of_decide_eq_true (by kernel_rfl)) (by unfold Func.isWrapper; first | (rw [if_pos (by decide +kernel)]; kernel_rfl) | (rw [if_neg (by decide +kernel)]; exact ⟨rfl, rfl⟩))
    (fun os started H enc _ => lifted os started H enc)

theorem proved : Rows.LogEscapesSaid := over
#print axioms proved
end Go.Proofs.Ytafonjnanfekkaa.logEscapes
