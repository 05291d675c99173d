
/-
  THE WALK of LayoutOnly.
-/
import Derived.Test.YtafonjnanfekkaaLGroups
import Derived.Test.YtafonjnanfekkaaLay3
namespace Go.Proofs.Ytafonjnanfekkaa.Lay
open Go.RowKit Go.Proofs.Ytafonjnanfekkaa.Wire
set_option maxHeartbeats 8000000
set_option maxRecDepth 100000
set_option linter.unusedVariables false
set_option linter.unusedSimpArgs false

theorem uf_first {bs : List UInt8} (h : 4 ≤ bs.length) : uf bs 0 4 = (num (bs.take 4) : Int) := by
  have hf : fits bs.length 0 4 = true := fits_mk (by omega) (by omega) (by omega) (by omega)
  show ((getX bs 0 4 : Nat) : Int) = _
  rw [getX, if_pos hf, sub]
  rfl
theorem us_magic {bs : List UInt8} (h : usOk bs = true) : uf bs 0 4 = 1213813321 := by
  have hlen := usOk_len h
  rw [uf_first (by omega)]
  simp only [usOk, Bool.and_eq_true, beq_iff_eq] at h
  obtain ⟨hok, hbs⟩ := h
  generalize hB : uf bs 6 4 = B at *
  generalize hP : uf bs 10 4 = P at *
  generalize hI : uf bs 14 4 = I at *
  generalize hJ : uf bs 18 4 = J at *
  generalize hfb : uf bs 22 4 = fb at *
  generalize hfi : uf bs 26 4 = fi at *
  generalize ho : uf bs 30 4 = o at *
  generalize hm : uf bs 34 4 = m at *
  generalize hcl : ucl bs = cl at *
  clear hB hP hI hJ hfb hfi ho hm hcl
  obtain ⟨hg, c1, c2, c3, c4⟩ := supOk_parts hok
  obtain ⟨_, e2, e3⟩ := packB_full (super_may B P I J fb fi o m cl) (super_zip (cl := cl) (sup_nat hg c1 c2 c3 c4)) (by omega)
  have e3' : (packB (superL B P I J fb fi o m cl) superWs 256).length = 256 := e3
  have hs : supB B P I J fb fi o m cl = sealB 0#32 (packB (superL B P I J fb fi o m cl) superWs 256) := by simp [supB, hok]
  rw [hs, sealB, if_pos (by omega)] at hbs
  have ht : bs.take 4 = le 4 1213813321 := by
    rw [hbs, List.take_append_of_le_length (by rw [List.length_take]; omega), List.take_take, Nat.min_eq_left (by omega), e2, List.take_append_of_le_length (by
      have hpl := pre_length (superL B P I J fb fi o m cl) superWs (superL B P I J fb fi o m cl).length rfl (by decide)
      have : (superWs.take (superL B P I J fb fi o m cl).length).sum = 39 := by
        rw [show (superL B P I J fb fi o m cl).length = 11 from rfl]; decide
      omega)]
    rw [show (superL B P I J fb fi o m cl) = 1213813321 :: (superL B P I J fb fi o m cl).tail from rfl, show superWs = 4 :: superWs.tail from rfl]
    rw [List.length_cons, pre, List.take_append_of_le_length (by rw [le_length]; decide), List.take_of_length_le (by rw [le_length]; decide)]
    rfl
  rw [ht, num_le 4 1213813321 (by decide)]
  rfl
theorem not_both {bs : List UInt8} {n : Int} (h : usOk bs = true) : ugOk bs n = false := by
  have hm := us_magic h
  cases hu : ugOk bs n
  · rfl
  · exfalso
    simp only [ugOk, Bool.and_eq_true, gsOk] at hu
    obtain ⟨h1, ⟨_, h2⟩, _⟩ := hu
    have hn := rg_true h1
    have hat := ugs_at (bs := bs) (n := n.toNat) (k := 0) (by omega)
    have := (gOk1_parts (List.all_eq_true.1 h2 _ (List.mem_of_getElem? hat))).1
    simp at this
    omega

theorem layoutOnly_run (A : Option Addr) (len cap : Nat) (bs : List UInt8) (n : Int) (w : World) (hl : len ≤ cap) (hc : cap ≤ 140737488351232) (hb : BytesAt w A len bs) :
    Calls Try.prog 12 #[.slice A len cap, .int .i64 n] w fun e w' => e = .returned (.bool true) ∧ Below w.heap.size w w' := by
  have hbl := hb.len
  have HB := Lib.hid hb
  clear hb
  cases hu : usOk bs
  · have hv : usV bs = supV 0 0 0 0 0 0 0 0 false := by simp [usV, hu]
    have he : usE bs = 117 := by simp [usE, hu]
    have HV := Lib.hid hv
    have HE := Lib.hid he
    clear hv he hu
    cases hg : ugOk bs n
    · have hx : ugX bs n = [] := by simp [ugX, hg]
      have hge : (ugE bs n != 0) = true := by unfold ugE; rw [hg]; split <;> rfl
      have HX := Lib.hid hx
      clear hx hg
      go_enter Try.func12, Try.ntmps12
      go_wp2_with fail
      refine (awake_any _).mono ?_
      rintro e w1 ⟨rfl, hb1⟩
      have B1 := Lib.hid hb1
      clear hb1
      go_wp2_with fail
      refine (unpackSuper_any A len cap bs _ hl (by omega) (HB.out.below B1.out)).mono ?_
      rintro e w2 ⟨rfl, hb2⟩
      rw [HV.out, HE.out]
      have B2 := Lib.hid ((below_all B1.out B1.out.size hb2).alloc (Nat.le_trans B1.out.size hb2.size) (.cells #[.int .i64 0, .int .i64 0, .int .i64 0, .int .i64 0, .int .i64 0, .int .i64 0, .int .i64 0, .int .i64 0, .bool false] 39))
      clear hb2
      unfold supV
      go_wp2_with fail
      refine (unpackGroups_any A len cap n bs _ hl (by omega) (HB.out.below B2.out)).mono ?_
      rintro e w3 ⟨v3, rfl, hb3, ho3⟩
      rw [HX.out] at ho3
      have B3 := Lib.hid (below_all B2.out B2.out.size hb3)
      obtain ⟨A3, c3, rfl, _, _, _, _, _⟩ := own_sliceN ho3
      clear hb3 ho3
      go_wp2_with fail
      go_ret
      exact ⟨rfl, B3.out⟩
    · have hx : ugX bs n = ugs bs n.toNat := by simp [ugX, hg]
      have hge : ugE bs n = 0 := by
        have : rg n 1 14 = true := by simp only [ugOk, Bool.and_eq_true] at hg; exact hg.1
        simp [ugE, hg, this]
      simp only [ugOk, Bool.and_eq_true, beq_iff_eq] at hg
      obtain ⟨h1, h2, h3⟩ := hg
      have hn := rg_true h1
      obtain ⟨m, rfl⟩ := Int.eq_ofNat_of_zero_le (show 0 ≤ n by omega)
      rw [Int.toNat_natCast] at hx h2 h3
      have hgE : gE (ugs bs m) = 0 := by simp [gE, h2]
      have HX := Lib.hid hx
      have HGE := Lib.hid hgE
      have HUE := Lib.hid hge
      have H3 := Lib.hid h3.symm
      have HSS := Lib.hid (show (bs == bs) = true by simp)
      clear hx hge hgE h1 h2 h3
      go_enter Try.func12, Try.ntmps12
      go_wp2_with fail
      refine (awake_any _).mono ?_
      rintro e w1 ⟨rfl, hb1⟩
      have B1 := Lib.hid hb1
      clear hb1
      go_wp2_with fail
      refine (unpackSuper_any A len cap bs _ hl (by omega) (HB.out.below B1.out)).mono ?_
      rintro e w2 ⟨rfl, hb2⟩
      rw [HV.out, HE.out]
      have B2 := Lib.hid ((below_all B1.out B1.out.size hb2).alloc (Nat.le_trans B1.out.size hb2.size) (.cells #[.int .i64 0, .int .i64 0, .int .i64 0, .int .i64 0, .int .i64 0, .int .i64 0, .int .i64 0, .int .i64 0, .bool false] 39))
      clear hb2
      unfold supV
      go_wp2_with fail
      refine (unpackGroups_any A len cap (m : Int) bs _ hl (by omega) (HB.out.below B2.out)).mono ?_
      rintro e w3 ⟨v3, rfl, hb3, ho3⟩
      rw [HX.out, ugs_length] at ho3
      rw [HUE.out]
      have B3 := Lib.hid (below_all B2.out B2.out.size hb3)
      obtain ⟨A3, c3, rfl, hr3, _, hm3, _, _⟩ := own_sliceN ho3
      have R3 := Lib.hid hr3
      clear hb3 ho3 hr3
      go_wp2_with fail
      refine (packGroups_any A3 m c3 (ugs bs m) _ (by omega) R3.out).mono ?_
      rintro e w4 ⟨v4, rfl, hb4, ho4⟩
      rw [H3.out, hbl] at ho4
      rw [HGE.out]
      have B4 := Lib.hid (below_all B3.out B3.out.size hb4)
      have HB4 := Lib.hid (HB.out.below B4.out)
      obtain ⟨A4, c4, rfl, hr4, _, _, _, _⟩ := own_slice ho4
      have R4 := Lib.hid hr4
      clear hb4 ho4 hr4
      go_wp2_with fail
      refine (same_any A4 A len len c4 cap bs bs _ (by omega) R4.out HB4.out).mono ?_
      rintro e w7 ⟨rfl, nn, rfl⟩
      rw [HSS.out]
      go_wp2_with fail
      go_ret
      exact ⟨rfl, below_drewN B4.out _⟩
  · have hgn := not_both (n := n) hu
    have hx : ugX bs n = [] := by simp [ugX, hgn]
    have hge : (ugE bs n != 0) = true := by unfold ugE; rw [hgn]; split <;> rfl
    have hv : usV bs = supV (uf bs 6 4) (uf bs 10 4) (uf bs 14 4) (uf bs 18 4) (uf bs 22 4) (uf bs 26 4) (uf bs 30 4) (uf bs 34 4) (ucl bs) := by simp [usV, hu]
    have he : usE bs = 0 := by simp [usE, hu]
    simp only [usOk, Bool.and_eq_true, beq_iff_eq] at hu
    obtain ⟨hok, hbs⟩ := hu
    have HX := Lib.hid hx
    have HV := Lib.hid hv
    have HE := Lib.hid he
    have HGN := Lib.hid hge
    clear hx hgn hge hv he
    generalize uf bs 6 4 = B at *
    generalize uf bs 10 4 = P at *
    generalize uf bs 14 4 = I at *
    generalize uf bs 18 4 = J at *
    generalize uf bs 22 4 = fb at *
    generalize uf bs 26 4 = fi at *
    generalize uf bs 30 4 = o at *
    generalize uf bs 34 4 = m at *
    generalize ucl bs = cl at *
    have hgk := (supOk_parts hok).1
    have HCH := Lib.hid (show chk B P I J = 0 by simp [chk, hgk])
    have HSE := Lib.hid (show supE B P I J fb fi o m = 0 by simp [supE, hok])
    have HSB := Lib.hid hbs.symm
    have HSS := Lib.hid (show (bs == bs) = true by simp)
    clear hok hbs hgk
    go_enter Try.func12, Try.ntmps12
    go_wp2_with fail
    refine (awake_any _).mono ?_
    rintro e w1 ⟨rfl, hb1⟩
    have B1 := Lib.hid hb1
    clear hb1
    go_wp2_with fail
    refine (unpackSuper_any A len cap bs _ hl (by omega) (HB.out.below B1.out)).mono ?_
    rintro e w2 ⟨rfl, hb2⟩
    rw [HV.out, HE.out]
    obtain ⟨W2, hW2⟩ : ∃ W2, w2.alloc (.cells #[.int .i64 B, .int .i64 P, .int .i64 I, .int .i64 J, .int .i64 fb, .int .i64 fi, .int .i64 o, .int .i64 m, .bool cl] 39) = W2 := ⟨_, rfl⟩
    have s2 : Blk W2 w2.heap.size 39 #[.int .i64 B, .int .i64 P, .int .i64 I, .int .i64 J, .int .i64 fb, .int .i64 fi, .int .i64 o, .int .i64 m, .bool cl] := by rw [← hW2]; exact Blk.new w2 _ _
    have B2 := Lib.hid (show Below w.heap.size w W2 by rw [← hW2]; exact (below_all B1.out B1.out.size hb2).alloc (Nat.le_trans B1.out.size hb2.size) _)
    have HW2 := Lib.hid hW2
    clear hb2 hW2
    unfold supV
    obtain ⟨q0, q1, q2, q3, q4, q5, q6, q7, q8⟩ := sup_cells s2
    go_wp2_with fail
    rw [HW2.out]
    refine (packSuper_any B P I J fb fi o m cl _).mono ?_
    rintro e w3 ⟨v3, rfl, hb3, ho3⟩
    rw [HSB.out, hbl] at ho3
    rw [HSE.out]
    have B3 := Lib.hid (below_all B2.out B2.out.size hb3)
    have s3 := s2.belowAll hb3
    have HB3 := Lib.hid (HB.out.below B3.out)
    obtain ⟨A3, c3, rfl, hr3, _, _, _, _⟩ := own_slice ho3
    have R3 := Lib.hid hr3
    clear hb3 ho3 hr3 q0 q1 q2 q3 q4 q5 q6 q7 q8 s2
    go_wp2_with fail
    refine (same_any A3 A len len c3 cap bs bs _ (by omega) R3.out HB3.out).mono ?_
    rintro e w7 ⟨rfl, nn, rfl⟩
    rw [HSS.out]
    have B4 := Lib.hid (below_drewN B3.out nn)
    have s4 := s3.drewN nn
    clear s3
    obtain ⟨q0, q1, q2, q3, q4, q5, q6, q7, q8⟩ := sup_cells s4
    clear s4
    generalize w3.drewN nn = w4 at *
    go_wp2_with fail
    refine (lcheck_any B P I J _).mono ?_
    rintro e w5 ⟨rfl, hb5⟩
    rw [HCH.out]
    have B5 := Lib.hid (below_all B4.out B4.out.size hb5)
    clear hb5 q0 q1 q2 q3 q4 q5 q6 q7 q8
    have hge := HGN.out
    go_wp2_with fail
    refine (unpackGroups_any A len cap n bs _ hl (by omega) (HB.out.below B5.out)).mono ?_
    rintro e w6 ⟨v6, rfl, hb6, ho6⟩
    rw [HX.out] at ho6
    have B6 := Lib.hid (below_all B5.out B5.out.size hb6)
    obtain ⟨A6, c6, rfl, _, _, _, _, _⟩ := own_sliceN ho6
    clear hb6 ho6
    go_wp2_with fail
    go_ret
    exact ⟨rfl, B6.out⟩

theorem layoutOnly_walk (w : World) (a0 : Option Addr) (len0 cap0 : Nat) (z0 : List Int) (w0 : IsRow .u8 w a0 len0 cap0 z0) (e0 : cap0 * 1 ≤ 140737488351232) (a1 : Int) (w1 : (Lit.int .i64 a1).wf = true) :
    Calls Try.prog 12 #[.slice a0 len0 cap0, .int .i64 a1] w fun e w' => e = .returned (.bool true) ∧ Below w.heap.size w w' := by
  obtain ⟨bs, hb, hl, hA⟩ := row_bytes w0
  exact layoutOnly_run a0 len0 cap0 bs a1 w hl (by omega) hb
end Go.Proofs.Ytafonjnanfekkaa.Lay
