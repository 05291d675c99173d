
/-
  layer 6's law StorePlays: step, Read, Write.
  layer 6's law StorePlays: step, the other calls.
  layer 6's law StorePlays: any step.
-/
import Derived.Test.YtomoliickggghaaKR6N14
namespace Go.Proofs.Ytomoliickggghaa.Mem
open Go.RowKit Go.Proofs.Ytomoliickggghaa Go.Proofs.Ytomoliickggghaa.Wire
set_option maxHeartbeats 16000000
set_option maxRecDepth 100000
set_option linter.unusedVariables false
set_option linter.unusedSimpArgs false

def Stepped (kb : Option (Nat × Array Value)) (w0 : World) (p q dq : Nat) (S : SS) (R : RS) (e : Ending) (w' : World) : Prop := ∃ col', e = .returned (.bool true) ∧ Duo kb w0 w' col' p q dq S R
theorem step_read (kb : Option (Nat × Array Value)) (w0 w : World) (col : Col) (p q dq : Nat) (S : SS) (R : RS) (x b f : Int) (h : Duo kb w0 w col p q dq S R) (hr : Rel S R) (few : S.undo.length + S.found + S.asked + 3 ≤ 1000000000) (hy : bits .and .i64 x 15 = 0 ∨ bits .and .i64 x 15 = 1 ∨ bits .and .i64 x 15 = 2 ∨ bits .and .i64 x 15 = 3) :
    Calls Try.prog 33 #[ptr p, ptr q, .agg #[.int .i64 x, .int .i64 b, .int .i64 f]] w fun e w' => Stepped kb w0 p q dq (S.readS b) (R.readS b) e w' := by
  obtain ⟨wo, hwo⟩ : ∃ wo, w.alloc (.cells #[.int .i64 x, .int .i64 b, .int .i64 f] 32) = wo := ⟨_, rfl⟩
  obtain ⟨go, hgo⟩ : ∃ go, w.heap.size = go := ⟨_, rfl⟩
  have BO : Below w.heap.size w wo := hwo ▸ (Below.refl w.heap.size w).alloc (Nat.le_refl _) _
  have D1 := Lib.hid (h.below BO)
  have OB := Lib.hid (show Bk wo col 0 0 go 32 #[.int .i64 x, .int .i64 b, .int .i64 f] from ⟨by rw [← hwo, ← hgo]; exact Blk.new _ _ _, by rw [← hgo]; exact h.tidy _ (Nat.le_refl _), Nat.zero_le _⟩)
  have z0 : wo.cell? ⟨go, 0, none⟩ = some (.int .i64 x) := OB.out.blk.cell 0
  have z1 : wo.cell? ⟨go, 1, none⟩ = some (.int .i64 b) := OB.out.blk.cell 1
  have z2 : wo.cell? ⟨go, 2, none⟩ = some (.int .i64 f) := OB.out.blk.cell 2
  have HWO := Lib.hid hwo
  have HGO := Lib.hid hgo
  have hl := hr.len
  have hf := hr.found
  have ha := hr.asked
  have HRL := Lib.hid hr
  clear hwo hgo BO h hr
  unfold ptr at *
  obtain ⟨bs, hbs⟩ : ∃ bs, S.readB b = bs := ⟨_, rfl⟩
  obtain ⟨er, her⟩ : ∃ er, S.readE b = er := ⟨_, rfl⟩
  obtain ⟨S9, hS9⟩ : ∃ S9, S.readS b = S9 := ⟨_, rfl⟩
  obtain ⟨R9, hR9⟩ : ∃ R9, R.readS b = R9 := ⟨_, rfl⟩
  have HW := Lib.hid (sread_all wo col w0.heap.size 16 p S b D1.out.s D1.out.b (by omega))
  have HWR := Lib.hid (fun wx colx (h : RStoreAt wx colx w0.heap.size 128 q dq R) (h2 : w0.heap.size ≤ wx.heap.size) (h3 : ∀ b, wx.heap.size ≤ b → colx b = 0) => rread_all wx colx w0.heap.size 128 q dq R b h h2 h3 (by omega))
  rw [(HRL.out.readB b).1, (HRL.out.readB b).2, hbs, her, hR9] at HWR
  rw [hbs, her, hS9] at HW
  have hbl : bs.length ≤ 256 := by rw [← hbs]; exact readB_len D1.out.s b
  rw [hS9, hR9]
  clear hbs her hS9 hR9 HRL
  unfold ptr at HW
  rcases hy with hy | hy | hy | hy
  all_goals
    go_enter Try.func33, Try.ntmps33
    go_wp2_with (first | rw [HGO.out, HWO.out] | simp only [hy] | fail)
    refine HW.out.mono ?_
    rintro e w7 ⟨v7, col7, rfl, ht7, hs7, hr7⟩
    have D7 := Lib.hid (D1.out.stepS ht7 hs7)
    have O7 := Lib.hid (OB.out.keep ht7 (by omega))
    have y1 : w7.cell? ⟨go, 1, none⟩ = some (.int .i64 b) := O7.out.blk.cell 1
    obtain ⟨A7, c7, rfl, _⟩ := row_len hr7
    have V7 := Lib.hid (show Row w7 col7 w0.heap.size 0 5 1 _ bs.length (bvl bs) from ⟨own_mono hr7.own D1.out.b, hr7.c⟩)
    clear ht7 hs7 hr7 HW D1 OB
    have HW := Lib.hid (HWR.out w7 col7 D7.out.r D7.out.b D7.out.tidy)
    unfold ptr at HW
    go_wp2_with fail
    refine HW.out.mono ?_
    rintro e w8 ⟨v8, col8, rfl, ht8, hs8, hr8⟩
    have D8 := Lib.hid (D7.out.stepR ht8 hs8)
    obtain ⟨A8, c8, rfl, _⟩ := row_len hr8
    have V7' := Lib.hid (V7.out.keep ht8 (by omega))
    have V8 := Lib.hid (BytesAt.of_own hr8.own)
    clear ht8 hs8 hr8 HW D7 V7
    have hee : (er == er) = true := by simp
    go_wp2_with fail
    refine (same_any A7 A8 _ _ c7 c8 bs bs w8 (by omega) (BytesAt.of_own V7'.out.own) V8.out).mono ?_
    rintro e wd ⟨rfl, kd, rfl⟩
    rw [show (bs == bs) = true by simp]
    obtain ⟨w9, hw9⟩ : ∃ w9, w8.drewN kd = w9 := ⟨_, rfl⟩
    obtain ⟨col9, hcol9⟩ : ∃ col9, col8 = col9 := ⟨_, rfl⟩
    have D9 := Lib.hid (show Duo kb w0 w9 col9 p q dq S9 R9 by rw [← hw9, ← hcol9]; exact D8.out.below (below_drewN (Below.refl _ _) kd))
    have V9 := Lib.hid (show Row w9 col9 w0.heap.size 0 5 1 (.slice A7 bs.length c7) bs.length (bvl bs) by rw [← hw9, ← hcol9]; exact V7'.out.keep (lo := 16) (hi := 16) ((Tch.refl 16 16 col8 w8).drewN kd) (by omega))
    rw [hw9]
    obtain ⟨n, hn⟩ : ∃ n, bs.length = n := ⟨_, rfl⟩
    rw [hn] at V9 ⊢
    obtain ⟨n0, hn0⟩ : ∃ n0, n = n0 := ⟨_, rfl⟩
    have V9 := Lib.hid (show Row w9 col9 w0.heap.size 0 5 1 (.slice A7 n0 c7) n0 (bvl bs) by rw [← hn0]; exact V9.out)
    obtain ⟨cv, hcv⟩ : ∃ cv, c7 = cv := ⟨_, rfl⟩
    rw [hcv] at V9
    clear D8 V7' V8 hw9 hcol9 HWR
    go_wp2_with fail
    go_loopw [12] (fun ii wr => ∃ (i : Nat) (bt : Bytes), ii = .int .i64 i ∧ i ≤ n ∧ Duo kb w0 wr col9 p q dq S9 R9 ∧ Row wr col9 w0.heap.size 0 5 1 (.slice A7 n0 cv) n0 (bvl bt)) (fun ii _ => n - (intOf ii).toNat)
    case atStart => exact ⟨0, _, rfl, by omega, D9.out, V9.out⟩
    case round =>
      obtain ⟨i, bt, rfl, hi, hd, hv⟩ := hrel
      by_cases hlt : i < n
      · have hii : (i : Int) < (n : Int) := by omega
        have hi0 : (0 : Int) ≤ (i : Int) := by omega
        have hin : ((i : Int)).toNat = i := by omega
        obtain ⟨gv, cv', _, hve, hgv, _⟩ := own_form hv.own (by omega)
        obtain ⟨rfl, rfl⟩ : A7 = some ⟨gv, 0, none⟩ ∧ cv = cv' := by injection hve with e1 _ e3; exact ⟨e1, e3⟩
        have hcg : col9 gv = 0 := hv.c gv rfl
        obtain ⟨y8, hy8⟩ : ∃ y8, bt[i]? = some y8 := ⟨_, List.getElem?_eq_getElem (by have := hv.own.1; simp [bvl] at this; omega)⟩
        obtain ⟨x8, hx8⟩ := xor1 y8
        have rb : wr.cell? ⟨gv, i, none⟩ = some (.int .u8 (y8.toNat : Int)) := by rw [hv.own.cellAt _ (by omega), bvl, List.getElem?_map, hy8]; rfl
        have zb : wr.frozen? ⟨gv, i, none⟩ = false := hv.own.frozenAt _
        obtain ⟨q1, q2⟩ := hd.own hgv hcg (i) (.int .u8 (x8.toNat : Int))
        have G1 := Lib.hid q1
        have q3 := hv.stored (i) (bval x8)
        rw [show (bvl bt).set (i) (bval x8) = bvl (bt.set (i) x8) by rw [bvl, bvl, List.map_set]] at q3
        have G2 := Lib.hid (show Row (wr.setCell ⟨gv, i, none⟩ (.int .u8 (x8.toNat : Int))) col9 w0.heap.size 0 5 1 (.slice (some ⟨gv, 0, none⟩) n0 cv) n0 (bvl (bt.set (i) x8)) from q3)
        clear hd hv hy8 q1 q2 q3 hgv
        go_wp2_with fail
        go_roundw
        case rel => exact ⟨i + 1, _, by go_num, by omega, G1.out, G2.out⟩
        case measure => simp [intOf]; omega
      · obtain rfl : i = n := by omega
        have HD := Lib.hid hd
        clear hd hv
        go_wp2_with fail
        go_ret
        exact ⟨col9, rfl, HD.out⟩
theorem step_write (kb : Option (Nat × Array Value)) (w0 w : World) (col : Col) (p q dq : Nat) (S : SS) (R : RS) (x b f : Int) (h : Duo kb w0 w col p q dq S R) (hr : Rel S R) (few : S.undo.length + S.found + S.asked + 3 ≤ 1000000000) (hf0 : 0 ≤ f) (hy : bits .and .i64 x 15 = 4 ∨ bits .and .i64 x 15 = 5 ∨ bits .and .i64 x 15 = 6 ∨ bits .and .i64 x 15 = 7) :
    Calls Try.prog 33 #[ptr p, ptr q, .agg #[.int .i64 x, .int .i64 b, .int .i64 f]] w fun e w' => Stepped kb w0 p q dq (S.writeS b (fillB f)) (R.writeS b (fillB f)) e w' := by
  obtain ⟨wo, hwo⟩ : ∃ wo, w.alloc (.cells #[.int .i64 x, .int .i64 b, .int .i64 f] 32) = wo := ⟨_, rfl⟩
  obtain ⟨go, hgo⟩ : ∃ go, w.heap.size = go := ⟨_, rfl⟩
  have BO : Below w.heap.size w wo := hwo ▸ (Below.refl w.heap.size w).alloc (Nat.le_refl _) _
  have D1 := Lib.hid (h.below BO)
  have OB := Lib.hid (show Bk wo col 0 0 go 32 #[.int .i64 x, .int .i64 b, .int .i64 f] from ⟨by rw [← hwo, ← hgo]; exact Blk.new _ _ _, by rw [← hgo]; exact h.tidy _ (Nat.le_refl _), Nat.zero_le _⟩)
  have z0 : wo.cell? ⟨go, 0, none⟩ = some (.int .i64 x) := OB.out.blk.cell 0
  have z1 : wo.cell? ⟨go, 1, none⟩ = some (.int .i64 b) := OB.out.blk.cell 1
  have z2 : wo.cell? ⟨go, 2, none⟩ = some (.int .i64 f) := OB.out.blk.cell 2
  have HWO := Lib.hid hwo
  have HGO := Lib.hid hgo
  have hl := hr.len
  have hf := hr.found
  have ha := hr.asked
  have HRL := Lib.hid hr
  clear hwo hgo BO h hr
  unfold ptr at *
  obtain ⟨S9, hS9⟩ : ∃ S9, S.writeS b (fillB f) = S9 := ⟨_, rfl⟩
  obtain ⟨R9, hR9⟩ : ∃ R9, R.writeS b (fillB f) = R9 := ⟨_, rfl⟩
  obtain ⟨er, her⟩ : ∃ er, S.writeE b = er := ⟨_, rfl⟩
  have HWS := Lib.hid (fun wx colx g (h : StoreAt wx colx w0.heap.size 16 p S) (h2 : w0.heap.size ≤ wx.heap.size) (hb : BytesAt wx (some ⟨g, 0, none⟩) 256 (fillB f)) (hg : colx g < 16) => swrite_all wx colx w0.heap.size 16 p g 256 S b (fillB f) h h2 (by omega) hb hg)
  have HWR := Lib.hid (fun wx colx g (h : RStoreAt wx colx w0.heap.size 128 q dq R) (h2 : w0.heap.size ≤ wx.heap.size) (h3 : ∀ b, wx.heap.size ≤ b → colx b = 0) (hb : BytesAt wx (some ⟨g, 0, none⟩) 256 (fillB f)) => rwrite_all wx colx w0.heap.size 128 q dq R b ⟨g, 0, none⟩ 256 (fillB f) h h2 h3 (by omega) hb)
  rw [(HRL.out.writeS b (fillB f)).2, her, hR9] at HWR
  rw [her, hS9] at HWS
  rw [hS9, hR9]
  clear her hS9 hR9 HRL
  have hf1 : ¬ f < 0 := by omega
  rcases hy with hy | hy | hy | hy
  all_goals
    go_enter Try.func33, Try.ntmps33
    go_wp2_with (first | rw [HGO.out, HWO.out] | simp only [hy] | fail)
    refine (filled_all f wo col D1.out.tidy).mono ?_
    rintro e w6 ⟨g6, rfl, hb6, hy6, hr6, hc6, hg6⟩
    have D6 := Lib.hid (D1.out.below hb6)
    have O6 := Lib.hid (OB.out.keep (lo := 16) (hi := 16) (Tch.of_below hb6) (by omega))
    have V6 := Lib.hid (show Row w6 col w0.heap.size 0 5 1 (.slice (some ⟨g6, 0, none⟩) 256 256) 256 (bvl (fillB f)) from ⟨own_mono hr6.own D1.out.b, hr6.c⟩)
    have x1 : w6.cell? ⟨go, 1, none⟩ = some (.int .i64 b) := O6.out.blk.cell 1
    have x2 : w6.cell? ⟨go, 2, none⟩ = some (.int .i64 f) := O6.out.blk.cell 2
    have HW := Lib.hid (HWS.out w6 col g6 D6.out.s D6.out.b hy6 (by omega))
    clear hb6 hy6 hr6 D1 OB HWS
    unfold ptr at HW
    go_wp2_with fail
    refine HW.out.mono ?_
    rintro e w7 ⟨col7, rfl, ht7, hs7⟩
    have D7 := Lib.hid (D6.out.stepS ht7 hs7)
    have O7 := Lib.hid (O6.out.keep ht7 (by omega))
    have V7 := Lib.hid (V6.out.keep ht7 (by omega))
    have y1 : w7.cell? ⟨go, 1, none⟩ = some (.int .i64 b) := O7.out.blk.cell 1
    clear ht7 hs7 HW D6 O6 V6
    have HW := Lib.hid (HWR.out w7 col7 g6 D7.out.r D7.out.b D7.out.tidy (BytesAt.of_own V7.out.own))
    clear HWR
    unfold ptr at HW
    go_wp2_with fail
    refine HW.out.mono ?_
    rintro e w9 ⟨col9, rfl, ht9, hs9⟩
    have D9 := Lib.hid (D7.out.stepR ht9 hs9)
    have V9 := Lib.hid (V7.out.keep ht9 (by omega))
    clear ht9 hs9 HW D7 O7 V7
    have hee : (er == er) = true := by simp
    obtain ⟨n0, hn0⟩ : ∃ n0, 256 = n0 := ⟨_, rfl⟩
    obtain ⟨cv, hcv⟩ : ∃ cv, 256 = cv := ⟨_, rfl⟩
    have V9 := Lib.hid (show Row w9 col9 w0.heap.size 0 5 1 (.slice (some ⟨g6, 0, none⟩) n0 cv) n0 (bvl (fillB f)) by rw [← hn0, ← hcv]; exact V9.out)
    go_wp2_with fail
    go_loopw [16] (fun ii wr => ∃ (i : Nat) (bt : Bytes), ii = .int .i64 i ∧ i ≤ 256 ∧ Duo kb w0 wr col9 p q dq S9 R9 ∧ Row wr col9 w0.heap.size 0 5 1 (.slice (some ⟨g6, 0, none⟩) n0 cv) n0 (bvl bt)) (fun ii _ => 256 - (intOf ii).toNat)
    case atStart => exact ⟨0, _, rfl, by omega, D9.out, V9.out⟩
    case round =>
      obtain ⟨i, bt, rfl, hi, hd, hv⟩ := hrel
      by_cases hlt : i < 256
      · have hii : (i : Int) < 256 := by omega
        have hi0 : (0 : Int) ≤ (i : Int) := by omega
        have hin : ((i : Int)).toNat = i := by omega
        obtain ⟨gv, cv', _, hve, hgv, _⟩ := own_form hv.own (by omega)
        obtain ⟨rfl, rfl⟩ : gv = g6 ∧ cv = cv' := by
          injection hve with e1 _ e3
          injection e1 with e1
          injection e1 with e1
          exact ⟨e1.symm, e3⟩
        have hcg : col9 gv = 0 := hv.c gv rfl
        obtain ⟨y8, hy8⟩ : ∃ y8, bt[i]? = some y8 := ⟨_, List.getElem?_eq_getElem (by have := hv.own.1; simp [bvl] at this; omega)⟩
        obtain ⟨x8, hx8⟩ := xor1 y8
        have rb : wr.cell? ⟨gv, i, none⟩ = some (.int .u8 (y8.toNat : Int)) := by rw [hv.own.cellAt _ (by omega), bvl, List.getElem?_map, hy8]; rfl
        have zb : wr.frozen? ⟨gv, i, none⟩ = false := hv.own.frozenAt _
        obtain ⟨q1, q2⟩ := hd.own hgv hcg (i) (.int .u8 (x8.toNat : Int))
        have G1 := Lib.hid q1
        have q3 := hv.stored (i) (bval x8)
        rw [show (bvl bt).set (i) (bval x8) = bvl (bt.set (i) x8) by rw [bvl, bvl, List.map_set]] at q3
        have G2 := Lib.hid (show Row (wr.setCell ⟨gv, i, none⟩ (.int .u8 (x8.toNat : Int))) col9 w0.heap.size 0 5 1 (.slice (some ⟨gv, 0, none⟩) n0 cv) n0 (bvl (bt.set (i) x8)) from q3)
        clear hd hv hy8 q1 q2 q3 hgv
        go_wp2_with fail
        go_roundw
        case rel => exact ⟨i + 1, _, by go_num, by omega, G1.out, G2.out⟩
        case measure => simp [intOf]; omega
      · obtain rfl : i = 256 := by omega
        have HD := Lib.hid hd
        clear hd hv
        go_wp2_with fail
        go_ret
        exact ⟨col9, rfl, HD.out⟩
theorem step_odd (kb : Option (Nat × Array Value)) (w0 w : World) (col : Col) (p q dq : Nat) (S : SS) (R : RS) (x b f : Int) (h : Duo kb w0 w col p q dq S R) (hr : Rel S R) (few : S.undo.length + S.found + S.asked + 3 ≤ 1000000000) (hf0 : f < 0) (hy : bits .and .i64 x 15 = 4 ∨ bits .and .i64 x 15 = 5 ∨ bits .and .i64 x 15 = 6 ∨ bits .and .i64 x 15 = 7) :
    Calls Try.prog 33 #[ptr p, ptr q, .agg #[.int .i64 x, .int .i64 b, .int .i64 f]] w fun e w' => Stepped kb w0 p q dq S R e w' := by
  obtain ⟨wo, hwo⟩ : ∃ wo, w.alloc (.cells #[.int .i64 x, .int .i64 b, .int .i64 f] 32) = wo := ⟨_, rfl⟩
  obtain ⟨go, hgo⟩ : ∃ go, w.heap.size = go := ⟨_, rfl⟩
  have BO : Below w.heap.size w wo := hwo ▸ (Below.refl w.heap.size w).alloc (Nat.le_refl _) _
  have D1 := Lib.hid (h.below BO)
  have OB := Lib.hid (show Bk wo col 0 0 go 32 #[.int .i64 x, .int .i64 b, .int .i64 f] from ⟨by rw [← hwo, ← hgo]; exact Blk.new _ _ _, by rw [← hgo]; exact h.tidy _ (Nat.le_refl _), Nat.zero_le _⟩)
  have z0 : wo.cell? ⟨go, 0, none⟩ = some (.int .i64 x) := OB.out.blk.cell 0
  have z1 : wo.cell? ⟨go, 1, none⟩ = some (.int .i64 b) := OB.out.blk.cell 1
  have z2 : wo.cell? ⟨go, 2, none⟩ = some (.int .i64 f) := OB.out.blk.cell 2
  have HWO := Lib.hid hwo
  have HGO := Lib.hid hgo
  have hl := hr.len
  have hf := hr.found
  have ha := hr.asked
  have HRL := Lib.hid hr
  clear hwo hgo BO h hr
  unfold ptr at *
  obtain ⟨S9, hS9⟩ : ∃ S9, S = S9 := ⟨_, rfl⟩
  obtain ⟨R9, hR9⟩ : ∃ R9, R = R9 := ⟨_, rfl⟩
  obtain ⟨er, her⟩ : ∃ er : Int, (if S.has b = true then (22 : Int) else 5) = er := ⟨_, rfl⟩
  have HWS := Lib.hid (fun wx colx g (h : StoreAt wx colx w0.heap.size 16 p S) (h2 : w0.heap.size ≤ wx.heap.size) => swrite_odd wx colx w0.heap.size 16 p S b (some ⟨g, 1, none⟩) 255 255 h h2 (by omega))
  have HWR := Lib.hid (fun wx colx g (h : RStoreAt wx colx w0.heap.size 128 q dq R) => rwrite_odd wx colx w0.heap.size 128 q dq R b (some ⟨g, 1, none⟩) 255 255 h (by omega))
  rw [HRL.out.has, her] at HWR
  rw [her] at HWS
  rw [hS9] at HWS D1 ⊢
  rw [hR9] at HWR D1 ⊢
  clear her hS9 hR9 HRL
  rcases hy with hy | hy | hy | hy
  all_goals
    go_enter Try.func33, Try.ntmps33
    go_wp2_with (first | rw [HGO.out, HWO.out] | simp only [hy] | fail)
    refine (filled_all f wo col D1.out.tidy).mono ?_
    rintro e w6 ⟨g6, rfl, hb6, hy6, hr6, hc6, hg6⟩
    have D6 := Lib.hid (D1.out.below hb6)
    have O6 := Lib.hid (OB.out.keep (lo := 16) (hi := 16) (Tch.of_below hb6) (by omega))
    have V6 := Lib.hid (show Row w6 col w0.heap.size 0 5 1 (.slice (some ⟨g6, 0, none⟩) 256 256) 256 (bvl (fillB f)) from ⟨own_mono hr6.own D1.out.b, hr6.c⟩)
    have x1 : w6.cell? ⟨go, 1, none⟩ = some (.int .i64 b) := O6.out.blk.cell 1
    have x2 : w6.cell? ⟨go, 2, none⟩ = some (.int .i64 f) := O6.out.blk.cell 2
    have HW := Lib.hid (HWS.out w6 col g6 D6.out.s D6.out.b)
    clear hb6 hy6 hr6 D1 OB HWS
    unfold ptr at HW
    go_wp2_with fail
    refine HW.out.mono ?_
    rintro e w7 ⟨col7, rfl, ht7, hs7⟩
    have D7 := Lib.hid (D6.out.stepS ht7 hs7)
    have O7 := Lib.hid (O6.out.keep ht7 (by omega))
    have V7 := Lib.hid (V6.out.keep ht7 (by omega))
    have y1 : w7.cell? ⟨go, 1, none⟩ = some (.int .i64 b) := O7.out.blk.cell 1
    clear ht7 hs7 HW D6 O6 V6
    have HW := Lib.hid (HWR.out w7 col7 g6 D7.out.r)
    clear HWR
    unfold ptr at HW
    go_wp2_with fail
    refine HW.out.mono ?_
    rintro e w9 ⟨rfl, hww⟩
    obtain rfl := hww.symm
    obtain ⟨col9, hcol9⟩ : ∃ col9, col7 = col9 := ⟨_, rfl⟩
    rw [hcol9] at D7 V7
    have D9 := Lib.hid D7.out
    have V9 := Lib.hid V7.out
    clear D7 V7 O7 HW hcol9
    have hee : (er == er) = true := by simp
    obtain ⟨n0, hn0⟩ : ∃ n0, 256 = n0 := ⟨_, rfl⟩
    obtain ⟨cv, hcv⟩ : ∃ cv, 256 = cv := ⟨_, rfl⟩
    have V9 := Lib.hid (show Row w9 col9 w0.heap.size 0 5 1 (.slice (some ⟨g6, 0, none⟩) n0 cv) n0 (bvl (fillB f)) by rw [← hn0, ← hcv]; exact V9.out)
    go_wp2_with fail
    go_loopw [16] (fun ii wr => ∃ (i : Nat) (bt : Bytes), ii = .int .i64 i ∧ i ≤ 255 ∧ Duo kb w0 wr col9 p q dq S9 R9 ∧ Row wr col9 w0.heap.size 0 5 1 (.slice (some ⟨g6, 0, none⟩) n0 cv) n0 (bvl bt)) (fun ii _ => 255 - (intOf ii).toNat)
    case atStart => exact ⟨0, _, rfl, by omega, D9.out, V9.out⟩
    case round =>
      obtain ⟨i, bt, rfl, hi, hd, hv⟩ := hrel
      by_cases hlt : i < 255
      · have hii : (i : Int) < 255 := by omega
        have hi0 : (0 : Int) ≤ (i : Int) := by omega
        have hin : ((i : Int)).toNat = i := by omega
        obtain ⟨gv, cv', _, hve, hgv, _⟩ := own_form hv.own (by omega)
        obtain ⟨rfl, rfl⟩ : gv = g6 ∧ cv = cv' := by
          injection hve with e1 _ e3
          injection e1 with e1
          injection e1 with e1
          exact ⟨e1.symm, e3⟩
        have hcg : col9 gv = 0 := hv.c gv rfl
        obtain ⟨y8, hy8⟩ : ∃ y8, bt[1 + i]? = some y8 := ⟨_, List.getElem?_eq_getElem (by have := hv.own.1; simp [bvl] at this; omega)⟩
        obtain ⟨x8, hx8⟩ := xor1 y8
        have rb : wr.cell? ⟨gv, 1 + i, none⟩ = some (.int .u8 (y8.toNat : Int)) := by rw [hv.own.cellAt _ (by omega), bvl, List.getElem?_map, hy8]; rfl
        have zb : wr.frozen? ⟨gv, 1 + i, none⟩ = false := hv.own.frozenAt _
        obtain ⟨q1, q2⟩ := hd.own hgv hcg (1 + i) (.int .u8 (x8.toNat : Int))
        have G1 := Lib.hid q1
        have q3 := hv.stored (1 + i) (bval x8)
        rw [show (bvl bt).set (1 + i) (bval x8) = bvl (bt.set (1 + i) x8) by rw [bvl, bvl, List.map_set]] at q3
        have G2 := Lib.hid (show Row (wr.setCell ⟨gv, 1 + i, none⟩ (.int .u8 (x8.toNat : Int))) col9 w0.heap.size 0 5 1 (.slice (some ⟨gv, 0, none⟩) n0 cv) n0 (bvl (bt.set (1 + i) x8)) from q3)
        clear hd hv hy8 q1 q2 q3 hgv
        go_wp2_with fail
        go_roundw
        case rel => exact ⟨i + 1, _, by go_num, by omega, G1.out, G2.out⟩
        case measure => simp [intOf]; omega
      · obtain rfl : i = 255 := by omega
        have HD := Lib.hid hd
        clear hd hv
        go_wp2_with fail
        go_ret
        exact ⟨col9, rfl, HD.out⟩
end Go.Proofs.Ytomoliickggghaa.Mem

namespace Go.Proofs.Ytomoliickggghaa.Mem
open Go.RowKit Go.Proofs.Ytomoliickggghaa Go.Proofs.Ytomoliickggghaa.Wire
set_option maxHeartbeats 16000000
set_option maxRecDepth 100000
set_option linter.unusedVariables false
set_option linter.unusedSimpArgs false

theorem step_hold (kb : Option (Nat × Array Value)) (w0 w : World) (col : Col) (p q dq : Nat) (S : SS) (R : RS) (x b f : Int) (h : Duo kb w0 w col p q dq S R) (hr : Rel S R) (few : S.undo.length + S.found + S.asked + 3 ≤ 1000000000) (hy : bits .and .i64 x 15 = 8) :
    Calls Try.prog 33 #[ptr p, ptr q, .agg #[.int .i64 x, .int .i64 b, .int .i64 f]] w fun e w' => Stepped kb w0 p q dq (S.holdS b) (R.holdS b) e w' := by
  obtain ⟨wo, hwo⟩ : ∃ wo, w.alloc (.cells #[.int .i64 x, .int .i64 b, .int .i64 f] 32) = wo := ⟨_, rfl⟩
  obtain ⟨go, hgo⟩ : ∃ go, w.heap.size = go := ⟨_, rfl⟩
  have BO : Below w.heap.size w wo := hwo ▸ (Below.refl w.heap.size w).alloc (Nat.le_refl _) _
  have D1 := Lib.hid (h.below BO)
  have OB := Lib.hid (show Bk wo col 0 0 go 32 #[.int .i64 x, .int .i64 b, .int .i64 f] from ⟨by rw [← hwo, ← hgo]; exact Blk.new _ _ _, by rw [← hgo]; exact h.tidy _ (Nat.le_refl _), Nat.zero_le _⟩)
  have z0 : wo.cell? ⟨go, 0, none⟩ = some (.int .i64 x) := OB.out.blk.cell 0
  have z1 : wo.cell? ⟨go, 1, none⟩ = some (.int .i64 b) := OB.out.blk.cell 1
  have z2 : wo.cell? ⟨go, 2, none⟩ = some (.int .i64 f) := OB.out.blk.cell 2
  have HWO := Lib.hid hwo
  have HGO := Lib.hid hgo
  have hl := hr.len
  have hf := hr.found
  have ha := hr.asked
  have HRL := Lib.hid hr
  clear hwo hgo BO h hr
  unfold ptr at *
  go_enter Try.func33, Try.ntmps33
  go_upto_region 29 with (first | rw [HGO.out, HWO.out] | simp only [hy] | fail)
  obtain ⟨wd, hwd⟩ : ∃ wd, wo.drew = wd := ⟨_, rfl⟩
  have td : Tch 16 16 col col wo wd := by rw [← hwd]; exact (Tch.refl _ _ _ _).drew
  have DD := Lib.hid (D1.out.same td)
  have OD := Lib.hid (OB.out.keep td (by omega))
  have HWD := Lib.hid hwd
  have y1 : wd.cell? ⟨go, 1, none⟩ = some (.int .i64 b) := OD.out.blk.cell 1
  have HW := Lib.hid (shold_all wd col w0.heap.size 16 p S b DD.out.s DD.out.b (by omega))
  obtain ⟨er, her⟩ : ∃ er, S.holdE b = er := ⟨_, rfl⟩
  rw [her] at HW
  clear td hwd D1 OB z0 z1 z2
  unfold ptr at HW
  have hNS : wd.cell? ⟨go, 1, none⟩ = some (.int .i64 b) := y1
  refine region_need_at (v := wd) (fun w' => w'.cell? ⟨go, 1, none⟩ = some (.int .i64 b)) (fun _ => true) HWD.out (by kernel_rfl) ?_
  refine nw_take (i := 0) (v := ?_) rfl (by kernel_rfl) (by kernel_rfl) (fun _ _ d _ _ h => by cases d <;> exact h) (by exact hNS) (by kernel_rfl) ?_ (fun K hK => ?_); rotate_left; (· (intro w' hSw; (try dsimp only at hSw); go_simp; with_reducible rfl)); simp only [Act.put, List.setIfInBounds_toArray, List.set_cons_zero, List.set_cons_succ]; refine hK _ ?_; clear hK K
  refine nw_take (i := 1) (v := ?_) rfl (by kernel_rfl) (by kernel_rfl) (fun _ _ d _ _ h => by cases d <;> exact h) (by exact hNS) (by kernel_rfl) ?_ (fun K hK => ?_); rotate_left; (· (intro w' hSw; (try dsimp only at hSw); go_simp; with_reducible rfl)); simp only [Act.put, List.setIfInBounds_toArray, List.set_cons_zero, List.set_cons_succ]; refine hK _ ?_; clear hK K
  refine nw_take (i := 2) (v := ?_) rfl (by kernel_rfl) (by kernel_rfl) (fun _ _ d _ _ h => by cases d <;> exact h) (by exact hNS) (by kernel_rfl) ?_ (fun K hK => ?_); rotate_left; (· (intro w' hSw; (try dsimp only at hSw); go_simp; with_reducible rfl)); simp only [Act.put, List.setIfInBounds_toArray, List.set_cons_zero, List.set_cons_succ]; refine hK _ ?_; clear hK K
  refine nw_take (i := 4) (v := ?_) rfl (by kernel_rfl) (by kernel_rfl) (fun _ _ d _ _ h => by cases d <;> exact h) (by exact hNS) (by kernel_rfl) ?_ (fun K hK => ?_); rotate_left; (· (intro w' hSw; (try dsimp only at hSw); go_simp; with_reducible rfl)); simp only [Act.put, List.setIfInBounds_toArray, List.set_cons_zero, List.set_cons_succ]; refine hK _ ?_; clear hK K
  refine nw_take (i := 5) (v := ?_) rfl (by kernel_rfl) (by kernel_rfl) (fun _ _ d _ _ h => by cases d <;> exact h) (by exact hNS) (by kernel_rfl) ?_ (fun K hK => ?_); rotate_left; (· (intro w' hSw; (try dsimp only at hSw); go_simp; with_reducible rfl)); simp only [Act.put, List.setIfInBounds_toArray, List.set_cons_zero, List.set_cons_succ]; refine hK _ ?_; clear hK K
  refine nw_take (i := 6) (v := ?_) rfl (by kernel_rfl) (by kernel_rfl) (fun _ _ d _ _ h => by cases d <;> exact h) (by exact hNS) (by kernel_rfl) ?_ (fun K hK => ?_); rotate_left; (· (intro w' hSw; (try dsimp only at hSw); go_simp; with_reducible rfl)); simp only [Act.put, List.setIfInBounds_toArray, List.set_cons_zero, List.set_cons_succ]; refine hK _ ?_; clear hK K
  clear hNS
  refine nw_one (i := 3) (E := False) rfl (by kernel_rfl) (fun K hK => ?_) (by kernel_rfl)
  go_simp
  refine HW.out.mono ?_
  rintro e w7 ⟨col7, rfl, ht7, hs7⟩
  have D7 := Lib.hid (DD.out.stepS ht7 hs7)
  have O7 := Lib.hid (OD.out.keep ht7 (by omega))
  have y2 : w7.cell? ⟨go, 1, none⟩ = some (.int .i64 b) := O7.out.blk.cell 1
  clear ht7 hs7 HW DD OD
  have HW := Lib.hid (rhold_all w7 col7 w0.heap.size 128 q dq R b D7.out.r D7.out.b D7.out.tidy (by omega))
  rw [(HRL.out.holdS b).2, her] at HW
  unfold ptr at HW
  refine hK.out _ _ ((fun _ => y2)) ?_
  clear hK K
  try simp only [Act.put, List.setIfInBounds_toArray, List.set_cons_zero, List.set_cons_succ]
  refine nw_one (i := 7) (E := False) rfl (by kernel_rfl) (fun K hK => ?_) (by kernel_rfl)
  go_simp
  refine HW.out.mono ?_
  rintro e w8 ⟨col8, rfl, ht8, hs8⟩
  have D8 := Lib.hid (D7.out.stepR ht8 hs8)
  have O8 := Lib.hid (O7.out.keep ht8 (by omega))
  have y3 : w8.cell? ⟨go, 1, none⟩ = some (.int .i64 b) := O8.out.blk.cell 1
  clear ht8 hs8 HW D7 O7
  refine hK.out _ _ ((fun _ => y3)) ?_
  clear hK K
  try simp only [Act.put, List.setIfInBounds_toArray, List.set_cons_zero, List.set_cons_succ]
  have hee : (er == er) = true := by simp
  refine nw_one (i := 8) (E := False) rfl (by kernel_rfl) (fun K hK => ?_) (by kernel_rfl)
  go_simp
  refine hK.out _ _ ((fun _ => y3)) ?_
  clear hK K
  try simp only [Act.put, List.setIfInBounds_toArray, List.set_cons_zero, List.set_cons_succ]
  refine nw_one (i := 9) (E := False) rfl (by kernel_rfl) (fun K hK => ?_) (by kernel_rfl)
  go_simp
  refine hK.out _ _ ((fun _ => y3)) ?_
  clear hK K
  try simp only [Act.put, List.setIfInBounds_toArray, List.set_cons_zero, List.set_cons_succ]
  refine nw_end (by kernel_rfl) ?_
  go_wp2_with fail
  go_ret
  exact ⟨col8, by first | rfl | (simp), D8.out⟩
theorem step_back (kb : Option (Nat × Array Value)) (w0 w : World) (col : Col) (p q dq : Nat) (S : SS) (R : RS) (x b f : Int) (h : Duo kb w0 w col p q dq S R) (hr : Rel S R) (few : S.undo.length + S.found + S.asked + 3 ≤ 1000000000) (hy : bits .and .i64 x 15 = 9 ∨ bits .and .i64 x 15 = 10) :
    Calls Try.prog 33 #[ptr p, ptr q, .agg #[.int .i64 x, .int .i64 b, .int .i64 f]] w fun e w' => Stepped kb w0 p q dq (S.back f) (R.back f) e w' := by
  obtain ⟨wo, hwo⟩ : ∃ wo, w.alloc (.cells #[.int .i64 x, .int .i64 b, .int .i64 f] 32) = wo := ⟨_, rfl⟩
  obtain ⟨go, hgo⟩ : ∃ go, w.heap.size = go := ⟨_, rfl⟩
  have BO : Below w.heap.size w wo := hwo ▸ (Below.refl w.heap.size w).alloc (Nat.le_refl _) _
  have D1 := Lib.hid (h.below BO)
  have OB := Lib.hid (show Bk wo col 0 0 go 32 #[.int .i64 x, .int .i64 b, .int .i64 f] from ⟨by rw [← hwo, ← hgo]; exact Blk.new _ _ _, by rw [← hgo]; exact h.tidy _ (Nat.le_refl _), Nat.zero_le _⟩)
  have z0 : wo.cell? ⟨go, 0, none⟩ = some (.int .i64 x) := OB.out.blk.cell 0
  have z1 : wo.cell? ⟨go, 1, none⟩ = some (.int .i64 b) := OB.out.blk.cell 1
  have z2 : wo.cell? ⟨go, 2, none⟩ = some (.int .i64 f) := OB.out.blk.cell 2
  have HWO := Lib.hid hwo
  have HGO := Lib.hid hgo
  have hl := hr.len
  have hf := hr.found
  have ha := hr.asked
  have HRL := Lib.hid hr
  clear hwo hgo BO h hr
  unfold ptr at *
  rcases hy with hy | hy
  all_goals
    go_enter Try.func33, Try.ntmps33
    go_upto_region 32 with (first | rw [HGO.out, HWO.out] | simp only [hy] | fail)
    obtain ⟨wd, hwd⟩ : ∃ wd, wo.drew = wd := ⟨_, rfl⟩
    have td : Tch 16 16 col col wo wd := by rw [← hwd]; exact (Tch.refl _ _ _ _).drew
    have DD := Lib.hid (D1.out.same td)
    have OD := Lib.hid (OB.out.keep td (by omega))
    have HWD := Lib.hid hwd
    have y1 : wd.cell? ⟨go, 2, none⟩ = some (.int .i64 f) := OD.out.blk.cell 2
    have HW := Lib.hid (sback_all wd col w0.heap.size 16 p S f DD.out.s)
    obtain ⟨er, her⟩ : ∃ er, S.backE f = er := ⟨_, rfl⟩
    rw [her] at HW
    clear td hwd D1 OB z0 z1 z2
    unfold ptr at HW
    have hNS : wd.cell? ⟨go, 2, none⟩ = some (.int .i64 f) := y1
    refine region_need_at (v := wd) (fun w' => w'.cell? ⟨go, 2, none⟩ = some (.int .i64 f)) (fun _ => true) HWD.out (by kernel_rfl) ?_
    refine nw_take (i := 0) (v := ?_) rfl (by kernel_rfl) (by kernel_rfl) (fun _ _ d _ _ h => by cases d <;> exact h) (by exact hNS) (by kernel_rfl) ?_ (fun K hK => ?_); rotate_left; (· (intro w' hSw; (try dsimp only at hSw); go_simp; with_reducible rfl)); simp only [Act.put, List.setIfInBounds_toArray, List.set_cons_zero, List.set_cons_succ]; refine hK _ ?_; clear hK K
    refine nw_take (i := 1) (v := ?_) rfl (by kernel_rfl) (by kernel_rfl) (fun _ _ d _ _ h => by cases d <;> exact h) (by exact hNS) (by kernel_rfl) ?_ (fun K hK => ?_); rotate_left; (· (intro w' hSw; (try dsimp only at hSw); go_simp; with_reducible rfl)); simp only [Act.put, List.setIfInBounds_toArray, List.set_cons_zero, List.set_cons_succ]; refine hK _ ?_; clear hK K
    refine nw_take (i := 2) (v := ?_) rfl (by kernel_rfl) (by kernel_rfl) (fun _ _ d _ _ h => by cases d <;> exact h) (by exact hNS) (by kernel_rfl) ?_ (fun K hK => ?_); rotate_left; (· (intro w' hSw; (try dsimp only at hSw); go_simp; with_reducible rfl)); simp only [Act.put, List.setIfInBounds_toArray, List.set_cons_zero, List.set_cons_succ]; refine hK _ ?_; clear hK K
    refine nw_take (i := 4) (v := ?_) rfl (by kernel_rfl) (by kernel_rfl) (fun _ _ d _ _ h => by cases d <;> exact h) (by exact hNS) (by kernel_rfl) ?_ (fun K hK => ?_); rotate_left; (· (intro w' hSw; (try dsimp only at hSw); go_simp; with_reducible rfl)); simp only [Act.put, List.setIfInBounds_toArray, List.set_cons_zero, List.set_cons_succ]; refine hK _ ?_; clear hK K
    refine nw_take (i := 5) (v := ?_) rfl (by kernel_rfl) (by kernel_rfl) (fun _ _ d _ _ h => by cases d <;> exact h) (by exact hNS) (by kernel_rfl) ?_ (fun K hK => ?_); rotate_left; (· (intro w' hSw; (try dsimp only at hSw); go_simp; with_reducible rfl)); simp only [Act.put, List.setIfInBounds_toArray, List.set_cons_zero, List.set_cons_succ]; refine hK _ ?_; clear hK K
    refine nw_take (i := 6) (v := ?_) rfl (by kernel_rfl) (by kernel_rfl) (fun _ _ d _ _ h => by cases d <;> exact h) (by exact hNS) (by kernel_rfl) ?_ (fun K hK => ?_); rotate_left; (· (intro w' hSw; (try dsimp only at hSw); go_simp; with_reducible rfl)); simp only [Act.put, List.setIfInBounds_toArray, List.set_cons_zero, List.set_cons_succ]; refine hK _ ?_; clear hK K
    clear hNS
    refine nw_one (i := 3) (E := False) rfl (by kernel_rfl) (fun K hK => ?_) (by kernel_rfl)
    go_simp
    refine HW.out.mono ?_
    rintro e w7 ⟨col7, rfl, ht7, hs7⟩
    have D7 := Lib.hid (DD.out.stepS ht7 hs7)
    have O7 := Lib.hid (OD.out.keep ht7 (by omega))
    have y2 : w7.cell? ⟨go, 2, none⟩ = some (.int .i64 f) := O7.out.blk.cell 2
    clear ht7 hs7 HW DD OD
    have HW := Lib.hid (rback_all w7 col7 w0.heap.size 128 q dq R f D7.out.r)
    rw [(HRL.out.back f).2, her] at HW
    unfold ptr at HW
    refine hK.out _ _ ((fun _ => y2)) ?_
    clear hK K
    try simp only [Act.put, List.setIfInBounds_toArray, List.set_cons_zero, List.set_cons_succ]
    refine nw_one (i := 7) (E := False) rfl (by kernel_rfl) (fun K hK => ?_) (by kernel_rfl)
    go_simp
    refine HW.out.mono ?_
    rintro e w8 ⟨col8, rfl, ht8, hs8⟩
    have D8 := Lib.hid (D7.out.stepR ht8 hs8)
    have O8 := Lib.hid (O7.out.keep ht8 (by omega))
    have y3 : w8.cell? ⟨go, 2, none⟩ = some (.int .i64 f) := O8.out.blk.cell 2
    clear ht8 hs8 HW D7 O7
    refine hK.out _ _ ((fun _ => y3)) ?_
    clear hK K
    try simp only [Act.put, List.setIfInBounds_toArray, List.set_cons_zero, List.set_cons_succ]
    have hee : (er == er) = true := by simp
    refine nw_one (i := 8) (E := False) rfl (by kernel_rfl) (fun K hK => ?_) (by kernel_rfl)
    go_simp
    refine hK.out _ _ ((fun _ => y3)) ?_
    clear hK K
    try simp only [Act.put, List.setIfInBounds_toArray, List.set_cons_zero, List.set_cons_succ]
    refine nw_one (i := 9) (E := False) rfl (by kernel_rfl) (fun K hK => ?_) (by kernel_rfl)
    go_simp
    refine hK.out _ _ ((fun _ => y3)) ?_
    clear hK K
    try simp only [Act.put, List.setIfInBounds_toArray, List.set_cons_zero, List.set_cons_succ]
    refine nw_end (by kernel_rfl) ?_
    go_wp2_with fail
    go_ret
    exact ⟨col8, by first | rfl | (simp), D8.out⟩
theorem step_home (kb : Option (Nat × Array Value)) (w0 w : World) (col : Col) (p q dq : Nat) (S : SS) (R : RS) (x b f : Int) (h : Duo kb w0 w col p q dq S R) (hr : Rel S R) (few : S.undo.length + S.found + S.asked + 3 ≤ 1000000000) (hp1 : S.d.pend.length + S.d.ops + 2 ≤ 1000000000) (hp2 : R.d.pend.length + R.d.n + 2 ≤ 1000000000) (hy : bits .and .i64 x 15 = 13 ∨ bits .and .i64 x 15 = 14) :
    Calls Try.prog 33 #[ptr p, ptr q, .agg #[.int .i64 x, .int .i64 b, .int .i64 f]] w fun e w' => Stepped kb w0 p q dq (S.home b) (R.home b) e w' := by
  obtain ⟨wo, hwo⟩ : ∃ wo, w.alloc (.cells #[.int .i64 x, .int .i64 b, .int .i64 f] 32) = wo := ⟨_, rfl⟩
  obtain ⟨go, hgo⟩ : ∃ go, w.heap.size = go := ⟨_, rfl⟩
  have BO : Below w.heap.size w wo := hwo ▸ (Below.refl w.heap.size w).alloc (Nat.le_refl _) _
  have D1 := Lib.hid (h.below BO)
  have OB := Lib.hid (show Bk wo col 0 0 go 32 #[.int .i64 x, .int .i64 b, .int .i64 f] from ⟨by rw [← hwo, ← hgo]; exact Blk.new _ _ _, by rw [← hgo]; exact h.tidy _ (Nat.le_refl _), Nat.zero_le _⟩)
  have z0 : wo.cell? ⟨go, 0, none⟩ = some (.int .i64 x) := OB.out.blk.cell 0
  have z1 : wo.cell? ⟨go, 1, none⟩ = some (.int .i64 b) := OB.out.blk.cell 1
  have z2 : wo.cell? ⟨go, 2, none⟩ = some (.int .i64 f) := OB.out.blk.cell 2
  have HWO := Lib.hid hwo
  have HGO := Lib.hid hgo
  have hl := hr.len
  have hf := hr.found
  have ha := hr.asked
  have HRL := Lib.hid hr
  clear hwo hgo BO h hr
  unfold ptr at *
  rcases hy with hy | hy
  all_goals
    go_enter Try.func33, Try.ntmps33
    go_upto_region 43 with (first | rw [HGO.out, HWO.out] | simp only [hy] | fail)
    obtain ⟨wd, hwd⟩ : ∃ wd, wo.drew = wd := ⟨_, rfl⟩
    have td : Tch 16 16 col col wo wd := by rw [← hwd]; exact (Tch.refl _ _ _ _).drew
    have DD := Lib.hid (D1.out.same td)
    have OD := Lib.hid (OB.out.keep td (by omega))
    have HWD := Lib.hid hwd
    have y1 : wd.cell? ⟨go, 1, none⟩ = some (.int .i64 b) := OD.out.blk.cell 1
    have HW := Lib.hid (shome_all wd col w0.heap.size 16 p S b DD.out.s DD.out.b (by omega))
    obtain ⟨er, her⟩ : ∃ er, S.homeE b = er := ⟨_, rfl⟩
    rw [her] at HW
    clear td hwd D1 OB z0 z1 z2
    unfold ptr at HW
    have hNS : wd.cell? ⟨go, 1, none⟩ = some (.int .i64 b) := y1
    refine region_need_at (v := wd) (fun w' => w'.cell? ⟨go, 1, none⟩ = some (.int .i64 b)) (fun _ => true) HWD.out (by kernel_rfl) ?_
    refine nw_take (i := 0) (v := ?_) rfl (by kernel_rfl) (by kernel_rfl) (fun _ _ d _ _ h => by cases d <;> exact h) (by exact hNS) (by kernel_rfl) ?_ (fun K hK => ?_); rotate_left; (· (intro w' hSw; (try dsimp only at hSw); go_simp; with_reducible rfl)); simp only [Act.put, List.setIfInBounds_toArray, List.set_cons_zero, List.set_cons_succ]; refine hK _ ?_; clear hK K
    refine nw_take (i := 1) (v := ?_) rfl (by kernel_rfl) (by kernel_rfl) (fun _ _ d _ _ h => by cases d <;> exact h) (by exact hNS) (by kernel_rfl) ?_ (fun K hK => ?_); rotate_left; (· (intro w' hSw; (try dsimp only at hSw); go_simp; with_reducible rfl)); simp only [Act.put, List.setIfInBounds_toArray, List.set_cons_zero, List.set_cons_succ]; refine hK _ ?_; clear hK K
    refine nw_take (i := 2) (v := ?_) rfl (by kernel_rfl) (by kernel_rfl) (fun _ _ d _ _ h => by cases d <;> exact h) (by exact hNS) (by kernel_rfl) ?_ (fun K hK => ?_); rotate_left; (· (intro w' hSw; (try dsimp only at hSw); go_simp; with_reducible rfl)); simp only [Act.put, List.setIfInBounds_toArray, List.set_cons_zero, List.set_cons_succ]; refine hK _ ?_; clear hK K
    refine nw_take (i := 4) (v := ?_) rfl (by kernel_rfl) (by kernel_rfl) (fun _ _ d _ _ h => by cases d <;> exact h) (by exact hNS) (by kernel_rfl) ?_ (fun K hK => ?_); rotate_left; (· (intro w' hSw; (try dsimp only at hSw); go_simp; with_reducible rfl)); simp only [Act.put, List.setIfInBounds_toArray, List.set_cons_zero, List.set_cons_succ]; refine hK _ ?_; clear hK K
    refine nw_take (i := 5) (v := ?_) rfl (by kernel_rfl) (by kernel_rfl) (fun _ _ d _ _ h => by cases d <;> exact h) (by exact hNS) (by kernel_rfl) ?_ (fun K hK => ?_); rotate_left; (· (intro w' hSw; (try dsimp only at hSw); go_simp; with_reducible rfl)); simp only [Act.put, List.setIfInBounds_toArray, List.set_cons_zero, List.set_cons_succ]; refine hK _ ?_; clear hK K
    refine nw_take (i := 6) (v := ?_) rfl (by kernel_rfl) (by kernel_rfl) (fun _ _ d _ _ h => by cases d <;> exact h) (by exact hNS) (by kernel_rfl) ?_ (fun K hK => ?_); rotate_left; (· (intro w' hSw; (try dsimp only at hSw); go_simp; with_reducible rfl)); simp only [Act.put, List.setIfInBounds_toArray, List.set_cons_zero, List.set_cons_succ]; refine hK _ ?_; clear hK K
    clear hNS
    refine nw_one (i := 3) (E := False) rfl (by kernel_rfl) (fun K hK => ?_) (by kernel_rfl)
    go_simp
    refine HW.out.mono ?_
    rintro e w7 ⟨col7, rfl, ht7, hs7⟩
    have D7 := Lib.hid (DD.out.stepS ht7 hs7)
    have O7 := Lib.hid (OD.out.keep ht7 (by omega))
    have y2 : w7.cell? ⟨go, 1, none⟩ = some (.int .i64 b) := O7.out.blk.cell 1
    clear ht7 hs7 HW DD OD
    have HW := Lib.hid (rhome_all w7 col7 w0.heap.size 128 q dq R b D7.out.r D7.out.b (by omega))
    rw [(HRL.out.home b).2, her] at HW
    unfold ptr at HW
    refine hK.out _ _ ((fun _ => y2)) ?_
    clear hK K
    try simp only [Act.put, List.setIfInBounds_toArray, List.set_cons_zero, List.set_cons_succ]
    refine nw_one (i := 7) (E := False) rfl (by kernel_rfl) (fun K hK => ?_) (by kernel_rfl)
    go_simp
    refine HW.out.mono ?_
    rintro e w8 ⟨col8, rfl, ht8, hs8⟩
    have D8 := Lib.hid (D7.out.stepR ht8 hs8)
    have O8 := Lib.hid (O7.out.keep ht8 (by omega))
    have y3 : w8.cell? ⟨go, 1, none⟩ = some (.int .i64 b) := O8.out.blk.cell 1
    clear ht8 hs8 HW D7 O7
    refine hK.out _ _ ((fun _ => y3)) ?_
    clear hK K
    try simp only [Act.put, List.setIfInBounds_toArray, List.set_cons_zero, List.set_cons_succ]
    have hee : (er == er) = true := by simp
    refine nw_one (i := 8) (E := False) rfl (by kernel_rfl) (fun K hK => ?_) (by kernel_rfl)
    go_simp
    refine hK.out _ _ ((fun _ => y3)) ?_
    clear hK K
    try simp only [Act.put, List.setIfInBounds_toArray, List.set_cons_zero, List.set_cons_succ]
    refine nw_one (i := 9) (E := False) rfl (by kernel_rfl) (fun K hK => ?_) (by kernel_rfl)
    go_simp
    refine hK.out _ _ ((fun _ => y3)) ?_
    clear hK K
    try simp only [Act.put, List.setIfInBounds_toArray, List.set_cons_zero, List.set_cons_succ]
    refine nw_end (by kernel_rfl) ?_
    go_wp2_with fail
    go_ret
    exact ⟨col8, by first | rfl | (simp), D8.out⟩
theorem step_commit (kb : Option (Nat × Array Value)) (w0 w : World) (col : Col) (p q dq : Nat) (S : SS) (R : RS) (x b f : Int) (h : Duo kb w0 w col p q dq S R) (hr : Rel S R) (few : S.undo.length + S.found + S.asked + 3 ≤ 1000000000) (hN : S.d.N ≤ 4096) (hN1 : 1 ≤ S.d.N) (hy : bits .and .i64 x 15 = 11) :
    Calls Try.prog 33 #[ptr p, ptr q, .agg #[.int .i64 x, .int .i64 b, .int .i64 f]] w fun e w' => Stepped kb w0 p q dq S.commit R.commit e w' := by
  obtain ⟨wo, hwo⟩ : ∃ wo, w.alloc (.cells #[.int .i64 x, .int .i64 b, .int .i64 f] 32) = wo := ⟨_, rfl⟩
  obtain ⟨go, hgo⟩ : ∃ go, w.heap.size = go := ⟨_, rfl⟩
  have BO : Below w.heap.size w wo := hwo ▸ (Below.refl w.heap.size w).alloc (Nat.le_refl _) _
  have D1 := Lib.hid (h.below BO)
  have OB := Lib.hid (show Bk wo col 0 0 go 32 #[.int .i64 x, .int .i64 b, .int .i64 f] from ⟨by rw [← hwo, ← hgo]; exact Blk.new _ _ _, by rw [← hgo]; exact h.tidy _ (Nat.le_refl _), Nat.zero_le _⟩)
  have z0 : wo.cell? ⟨go, 0, none⟩ = some (.int .i64 x) := OB.out.blk.cell 0
  have z1 : wo.cell? ⟨go, 1, none⟩ = some (.int .i64 b) := OB.out.blk.cell 1
  have z2 : wo.cell? ⟨go, 2, none⟩ = some (.int .i64 f) := OB.out.blk.cell 2
  have HWO := Lib.hid hwo
  have HGO := Lib.hid hgo
  have hl := hr.len
  have hf := hr.found
  have ha := hr.asked
  have HRL := Lib.hid hr
  clear hwo hgo BO h hr
  unfold ptr at *
  obtain ⟨l, hls⟩ : ∃ l, wsOf S.d.N S.chg = l := ⟨_, rfl⟩
  have hll : l.length ≤ 4096 := by rw [← hls, wsOf_len]; exact Nat.le_trans (keysOf_len _ _) hN
  have HW := Lib.hid (scommit_any wo col w0.heap.size 16 p S D1.out.s)
  rw [hls] at HW
  unfold ptr at HW
  go_enter Try.func33, Try.ntmps33
  go_wp2_with (first | rw [HGO.out, HWO.out] | simp only [hy] | fail)
  refine HW.out.mono ?_
  rintro e w7 ⟨v7, col7, rfl, ht7, hs7, hl7⟩
  have D7 := Lib.hid (D1.out.stepS ht7 hs7)
  have W7 := Lib.hid hl7
  obtain ⟨A7, c7, rfl, hc7, hm7⟩ := hl7.form
  clear ht7 hs7 hl7 HW D1 OB z0 z1 z2
  have HW := Lib.hid (rcommit_any w7 col7 w0.heap.size 128 q dq R D7.out.r D7.out.b D7.out.tidy (by rw [HRL.out.n]; exact hN1))
  rw [HRL.out.commits, hls] at HW
  unfold ptr at HW
  go_wp2_with fail
  refine HW.out.mono ?_
  rintro e w8 ⟨v8, col8, rfl, ht8, hs8, hl8⟩
  have D8 := Lib.hid (D7.out.stepR ht8 hs8)
  have W8 := Lib.hid (W7.out.keep ht8 (by omega))
  obtain ⟨A8, c8, rfl, hc8, hm8⟩ := hl8.form
  have X7 := Lib.hid W8.out.reads
  have X8 := Lib.hid hl8.reads
  clear ht8 hs8 hl8 HW D7 W7
  go_wp2_with fail
  refine (sameWrites_any A7 A8 _ c7 c8 l w8 (by omega) rfl X7.out X8.out).mono ?_
  rintro e wd ⟨rfl, kd, rfl⟩
  have D9 := Lib.hid (D8.out.below (below_drewN (Below.refl _ _) kd))
  have W9 := Lib.hid (W8.out.keep (lo := 16) (hi := 16) ((Tch.refl 16 16 col8 w8).drewN kd) (by omega))
  have HW := Lib.hid (spoil_any (w8.drewN kd) col8 _ _ l W9.out (by omega))
  clear D8 W8 X7 X8 W9
  go_wp2_with fail
  refine HW.out.mono ?_
  rintro e w9 ⟨rfl, ht9⟩
  have D10 := Lib.hid (D9.out.list ht9)
  clear ht9 HW D9
  go_wp2_with fail
  go_ret
  exact ⟨col8, rfl, D10.out⟩
theorem step_waiting (kb : Option (Nat × Array Value)) (w0 w : World) (col : Col) (p q dq : Nat) (S : SS) (R : RS) (x b f : Int) (h : Duo kb w0 w col p q dq S R) (hr : Rel S R) (few : S.undo.length + S.found + S.asked + 3 ≤ 1000000000) (hN : S.d.N ≤ 4096) (hN1 : 1 ≤ S.d.N) (hy : bits .and .i64 x 15 = 15) :
    Calls Try.prog 33 #[ptr p, ptr q, .agg #[.int .i64 x, .int .i64 b, .int .i64 f]] w fun e w' => Stepped kb w0 p q dq S R e w' := by
  obtain ⟨wo, hwo⟩ : ∃ wo, w.alloc (.cells #[.int .i64 x, .int .i64 b, .int .i64 f] 32) = wo := ⟨_, rfl⟩
  obtain ⟨go, hgo⟩ : ∃ go, w.heap.size = go := ⟨_, rfl⟩
  have BO : Below w.heap.size w wo := hwo ▸ (Below.refl w.heap.size w).alloc (Nat.le_refl _) _
  have D1 := Lib.hid (h.below BO)
  have OB := Lib.hid (show Bk wo col 0 0 go 32 #[.int .i64 x, .int .i64 b, .int .i64 f] from ⟨by rw [← hwo, ← hgo]; exact Blk.new _ _ _, by rw [← hgo]; exact h.tidy _ (Nat.le_refl _), Nat.zero_le _⟩)
  have z0 : wo.cell? ⟨go, 0, none⟩ = some (.int .i64 x) := OB.out.blk.cell 0
  have z1 : wo.cell? ⟨go, 1, none⟩ = some (.int .i64 b) := OB.out.blk.cell 1
  have z2 : wo.cell? ⟨go, 2, none⟩ = some (.int .i64 f) := OB.out.blk.cell 2
  have HWO := Lib.hid hwo
  have HGO := Lib.hid hgo
  have hl := hr.len
  have hf := hr.found
  have ha := hr.asked
  have HRL := Lib.hid hr
  clear hwo hgo BO h hr
  unfold ptr at *
  obtain ⟨l, hls⟩ : ∃ l, wsOf S.d.N S.wait = l := ⟨_, rfl⟩
  have hll : l.length ≤ 4096 := by rw [← hls, wsOf_len]; exact Nat.le_trans (keysOf_len _ _) hN
  have HW := Lib.hid (swaiting_any wo col w0.heap.size 16 p S D1.out.s)
  rw [hls] at HW
  unfold ptr at HW
  go_enter Try.func33, Try.ntmps33
  go_wp2_with (first | rw [HGO.out, HWO.out] | simp only [hy] | fail)
  refine HW.out.mono ?_
  rintro e w7 ⟨v7, col7, rfl, ht7, hs7, hl7⟩
  have D7 := Lib.hid (D1.out.same ht7)
  have W7 := Lib.hid hl7
  obtain ⟨A7, c7, rfl, hc7, hm7⟩ := hl7.form
  clear ht7 hs7 hl7 HW D1 OB z0 z1 z2
  have HW := Lib.hid (rwaiting_all w7 col7 w0.heap.size 128 q dq R D7.out.r)
  rw [HRL.out.waits, hls] at HW
  unfold ptr at HW
  go_wp2_with fail
  refine HW.out.mono ?_
  rintro e w8 ⟨v8, col8, rfl, ht8, hs8, hl8⟩
  have D8 := Lib.hid (D7.out.stepR ht8 hs8)
  have W8 := Lib.hid (W7.out.keep ht8 (by omega))
  obtain ⟨A8, c8, rfl, hc8, hm8⟩ := hl8.form
  have X7 := Lib.hid W8.out.reads
  have X8 := Lib.hid hl8.reads
  clear ht8 hs8 hl8 HW D7 W7
  go_wp2_with fail
  refine (sameWrites_any A7 A8 _ c7 c8 l w8 (by omega) rfl X7.out X8.out).mono ?_
  rintro e wd ⟨rfl, kd, rfl⟩
  have D9 := Lib.hid (D8.out.below (below_drewN (Below.refl _ _) kd))
  have W9 := Lib.hid (W8.out.keep (lo := 16) (hi := 16) ((Tch.refl 16 16 col8 w8).drewN kd) (by omega))
  have HW := Lib.hid (spoil_any (w8.drewN kd) col8 _ _ l W9.out (by omega))
  clear D8 W8 X7 X8 W9
  go_wp2_with fail
  refine HW.out.mono ?_
  rintro e w9 ⟨rfl, ht9⟩
  have D10 := Lib.hid (D9.out.list ht9)
  clear ht9 HW D9
  go_wp2_with fail
  go_ret
  exact ⟨col8, rfl, D10.out⟩
theorem step_release (kb : Option (Nat × Array Value)) (w0 w : World) (col : Col) (p q dq : Nat) (S : SS) (R : RS) (x b f : Int) (h : Duo kb w0 w col p q dq S R) (hr : Rel S R) (few : S.undo.length + S.found + S.asked + 3 ≤ 1000000000) (hy : bits .and .i64 x 15 = 12) :
    Calls Try.prog 33 #[ptr p, ptr q, .agg #[.int .i64 x, .int .i64 b, .int .i64 f]] w fun e w' => Stepped kb w0 p q dq S.release R.release e w' := by
  obtain ⟨wo, hwo⟩ : ∃ wo, w.alloc (.cells #[.int .i64 x, .int .i64 b, .int .i64 f] 32) = wo := ⟨_, rfl⟩
  obtain ⟨go, hgo⟩ : ∃ go, w.heap.size = go := ⟨_, rfl⟩
  have BO : Below w.heap.size w wo := hwo ▸ (Below.refl w.heap.size w).alloc (Nat.le_refl _) _
  have D1 := Lib.hid (h.below BO)
  have OB := Lib.hid (show Bk wo col 0 0 go 32 #[.int .i64 x, .int .i64 b, .int .i64 f] from ⟨by rw [← hwo, ← hgo]; exact Blk.new _ _ _, by rw [← hgo]; exact h.tidy _ (Nat.le_refl _), Nat.zero_le _⟩)
  have z0 : wo.cell? ⟨go, 0, none⟩ = some (.int .i64 x) := OB.out.blk.cell 0
  have z1 : wo.cell? ⟨go, 1, none⟩ = some (.int .i64 b) := OB.out.blk.cell 1
  have z2 : wo.cell? ⟨go, 2, none⟩ = some (.int .i64 f) := OB.out.blk.cell 2
  have HWO := Lib.hid hwo
  have HGO := Lib.hid hgo
  have hl := hr.len
  have hf := hr.found
  have ha := hr.asked
  have HRL := Lib.hid hr
  clear hwo hgo BO h hr
  unfold ptr at *
  have HW := Lib.hid (srelease_any wo col w0.heap.size 16 p S D1.out.s D1.out.b)
  unfold ptr at HW
  go_enter Try.func33, Try.ntmps33
  go_wp2_with (first | rw [HGO.out, HWO.out] | simp only [hy] | fail)
  refine HW.out.mono ?_
  rintro e w7 ⟨rfl, col7, ht7, hs7⟩
  have D7 := Lib.hid (D1.out.stepS ht7 hs7)
  clear ht7 hs7 HW D1 OB z0 z1 z2
  have HW := Lib.hid (rrelease_all w7 col7 w0.heap.size 128 q dq R D7.out.r D7.out.b)
  unfold ptr at HW
  go_wp2_with fail
  refine HW.out.mono ?_
  rintro e w8 ⟨col8, rfl, ht8, hs8⟩
  have D8 := Lib.hid (D7.out.stepR ht8 hs8)
  clear ht8 hs8 HW D7
  go_wp2_with fail
  go_ret
  exact ⟨col8, rfl, D8.out⟩
end Go.Proofs.Ytomoliickggghaa.Mem

namespace Go.Proofs.Ytomoliickggghaa.Mem
open Go.RowKit Go.Proofs.Ytomoliickggghaa Go.Proofs.Ytomoliickggghaa.Wire
set_option maxHeartbeats 8000000
set_option maxRecDepth 100000
set_option linter.unusedVariables false
set_option linter.unusedSimpArgs false

theorem and15_any (x : Int) : ∃ k : Nat, bits .and .i64 x 15 = (k : Int) ∧ k < 16 := by
  have hx : (BitVec.ofInt 64 x &&& 15#64).toNat < 16 := by
    rw [BitVec.toNat_and]
    exact Nat.lt_of_le_of_lt Nat.and_le_right (by decide)
  refine ⟨(BitVec.ofInt 64 x &&& 15#64).toNat, ?_, hx⟩
  show IntKind.i64.wrap ((BitVec.ofInt 64 x &&& BitVec.ofInt 64 15).toNat : Int) = _
  rw [show BitVec.ofInt 64 15 = 15#64 from rfl, IntKind.wrap_i64]
  omega
/-- How far a step goes. -/
structure Near (S S' : SS) (R R' : RS) : Prop where
  rel : Rel S' R'
  cnt : S'.cnt ≤ S.cnt + 1
  n : S'.d.N = S.d.N
  at_ : S'.d.at_ = S.d.at_
  pend : S'.d.pend.length + S'.d.ops ≤ S.d.pend.length + S.d.ops + 2
  rn : R'.d.n ≤ R.d.n + 1
theorem rhome_n (R : RS) (n : Int) : (R.home n).d.n ≤ R.d.n + 1 := by
  have h : ∀ T : RS, T = R.home n → T.d.n ≤ R.d.n + 1 := fun T hT => by
    unfold RS.home at hT
    split at hT
    · split at hT
      · subst hT; omega
      · split at hT
        · subst hT; exact Nat.le_refl _
        · subst hT; exact Nat.le_refl _
    · subst hT; omega
  exact h _ rfl
theorem rread_n (R : RS) (n : Int) : (R.readS n).d = R.d := by
  have h : ∀ T : RS, T = R.readS n → T.d = R.d := fun T hT => by
    unfold RS.readS at hT
    split at hT
    · split at hT
      · subst hT; rfl
      · split at hT
        · subst hT; rfl
        · subst hT; rfl
    · subst hT; rfl
  exact h _ rfl
theorem rwrite_n (R : RS) (n : Int) (bs : Bytes) : (R.writeS n bs).d = R.d := by unfold RS.writeS; split <;> rfl
theorem rhold_n (R : RS) (n : Int) : (R.holdS n).d = R.d := by unfold RS.holdS; split <;> rfl
theorem rback_n (R : RS) (m : Int) : (R.back m).d = R.d := by unfold RS.back; split <;> rfl
theorem step_all (kb : Option (Nat × Array Value)) (w0 w : World) (col : Col) (p q dq : Nat) (S : SS) (R : RS) (x b f : Int) (h : Duo kb w0 w col p q dq S R) (hr : Rel S R) (few : S.cnt + 3 ≤ 1000000000) (hN : S.d.N = 128)
    (hp : S.d.pend.length + S.d.ops + 2 ≤ 1000000000) (hq : R.d.pend.length + R.d.n + 2 ≤ 1000000000) :
    ∃ S' R', (Calls Try.prog 33 #[ptr p, ptr q, .agg #[.int .i64 x, .int .i64 b, .int .i64 f]] w fun e w' => Stepped kb w0 p q dq S' R' e w') ∧ Near S S' R R' := by
  have few' : S.undo.length + S.found + S.asked + 3 ≤ 1000000000 := few
  obtain ⟨k, hk, hlt⟩ := and15_any x
  by_cases h1 : k = 0 ∨ k = 1 ∨ k = 2 ∨ k = 3
  · have pp := read_parts S b
    exact ⟨_, _, step_read kb w0 w col p q dq S R x b f h hr few' (by omega), hr.readS b, pp.2.2.2.2.2, by rw [pp.1], by rw [pp.1], by rw [pp.1]; omega, by rw [rread_n]; omega⟩
  by_cases h2 : k = 4 ∨ k = 5 ∨ k = 6 ∨ k = 7
  · by_cases hf : f < 0
    · exact ⟨_, _, step_odd kb w0 w col p q dq S R x b f h hr few' hf (by omega), hr, by omega, rfl, rfl, by omega, by omega⟩
    · have pp := writeS_parts S b (fillB f)
      exact ⟨_, _, step_write kb w0 w col p q dq S R x b f h hr few' (by omega) (by omega), (hr.writeS b (fillB f)).1, pp.2, by rw [pp.1], by rw [pp.1], by rw [pp.1]; omega, by rw [rwrite_n]; omega⟩
  by_cases h3 : k = 8
  · have pp := holdS_parts S b
    exact ⟨_, _, step_hold kb w0 w col p q dq S R x b f h hr few' (by omega), (hr.holdS b).1, pp.2.1, by rw [pp.1], by rw [pp.1], by rw [pp.1]; omega, by rw [rhold_n]; omega⟩
  by_cases h4 : k = 9 ∨ k = 10
  · have pp := back_parts S f
    exact ⟨_, _, step_back kb w0 w col p q dq S R x b f h hr few' (by omega), (hr.back f).1, by omega, by rw [pp.1], by rw [pp.1], by rw [pp.1]; omega, by rw [rback_n]; omega⟩
  by_cases h5 : k = 11
  · have pp := commit_parts S
    exact ⟨_, _, step_commit kb w0 w col p q dq S R x b f h hr few' (by omega) (by omega) (by omega), hr.commit, by omega, by rw [pp.1], by rw [pp.1], by rw [pp.1]; omega, by show R.d.n ≤ R.d.n + 1; omega⟩
  by_cases h6 : k = 12
  · exact ⟨_, _, step_release kb w0 w col p q dq S R x b f h hr few' (by omega), hr.release, by show (S.undo.map Und.free).length + S.found + S.asked ≤ _; rw [List.length_map]; exact Nat.le_succ _, rfl, rfl, by show S.d.pend.length + S.d.ops ≤ _; omega, by show R.d.n ≤ R.d.n + 1; omega⟩
  by_cases h7 : k = 13 ∨ k = 14
  · have pp := home_parts S b
    exact ⟨_, _, step_home kb w0 w col p q dq S R x b f h hr few' hp hq (by omega), (hr.home b).1, by omega, pp.1, pp.2.2.2.2.2, pp.2.2.1, rhome_n R b⟩
  · exact ⟨_, _, step_waiting kb w0 w col p q dq S R x b f h hr few' (by omega) (by omega) (by omega), hr, by omega, rfl, rfl, by omega, by omega⟩
theorem Duo.counts {kb : Option (Nat × Array Value)} {w0 w : World} {col : Col} {p q dq : Nat} {S : SS} {R : RS} (h : Duo kb w0 w col p q dq S R) : w.cell? ⟨q, 6, none⟩ = some (.int .i64 R.found) ∧ w.cell? ⟨q, 7, none⟩ = some (.int .i64 R.asked) := by
  obtain ⟨L, hL⟩ := h.r
  exact ⟨hL.s.blk.cell 6, hL.s.blk.cell 7⟩
theorem Duo.old {kb : Option (Nat × Array Value)} {w0 w : World} {col : Col} {p q dq : Nat} {S : SS} {R : RS} (h : Duo kb w0 w col p q dq S R) {A : Option Addr} {n : Nat} {vs : List Value} (hr : RowAt w0 A n vs) : RowAt w A n vs := row_tch hr h.t (fun _ _ _ => by omega)
theorem Wr.reads {w : World} {col : Col} {B r cap : Nat} {A : Option Addr} {l : List (Int × Bytes)} (h : Wr w col B r (.slice A l.length cap) l) : WsAt w A l := fun i n bs hi => by
  obtain ⟨g, g2, c2, rfl, h0, h1, hr⟩ := h.at_ hi
  refine ⟨⟨g, 0, none⟩, some ⟨g2, 0, none⟩, 256, c2, rfl, ?_, ?_, hr, by omega⟩
  · rw [add_plain, Nat.zero_add]; exact h0
  · rw [add_plain]
    show w.cell? ⟨g, 0 + i * 2 + 1, none⟩ = _
    rw [Nat.zero_add]; exact h1
/-- What is pending on the document's disk. -/
theorem RDiskAt.pendAt {w : World} {col : Col} {B c p : Nat} {R : RD} (h : RDiskAt w col B c p R) : ∃ A cap, w.cell? ⟨p, 1, none⟩ = some (.slice A R.pend.length cap) ∧ WsAt w A R.pend ∧ R.pend.length ≤ cap ∧ cap ≤ 9223372036854775807 := by
  obtain ⟨vl, vp, vs, h1, h2, h3, h4⟩ := h.ex
  obtain ⟨A, cap, rfl, h5, h6⟩ := h4.form
  exact ⟨A, cap, h1.blk.cell 1, h4.reads, h5, h6⟩
end Go.Proofs.Ytomoliickggghaa.Mem
