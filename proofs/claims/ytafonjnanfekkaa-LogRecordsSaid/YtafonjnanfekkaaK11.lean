
/-
  THE WALK of the document's may, of records.
  THE WALK of the document's Pack, of records.
  THE WALK of the document's Unpack, of records.
-/
import Derived.Test.YtafonjnanfekkaaK10
import Derived.Test.YtafonjnanfekkaaK8
namespace Go.Proofs.Ytafonjnanfekkaa.Log
open Go.RowKit Go.Proofs.Ytafonjnanfekkaa.Wire Go.Proofs.Ytafonjnanfekkaa.Lay
set_option maxHeartbeats 8000000
set_option maxRecDepth 100000
set_option linter.unusedVariables false
set_option linter.unusedSimpArgs false

theorem mayR_kind (k s : Int) (A : Option Addr) (n c sum : Nat) (st : Int) (w : World) (h1 : (k == 1) = false) (h3 : (k == 3) = false) (h2 : (k == 2) = false) (h4 : (k == 4) = false) :
    Calls Try.prog 78 #[.agg #[.int .i64 k, .int .i64 s, .slice A n c, .int .u32 (sum : Int), .int .i64 st]] w fun e w' => e = .returned (.bool false) ∧ Below w.heap.size w w' := by
  have B0 := Lib.hid ((Below.refl w.heap.size w).alloc (Nat.le_refl _) (.cells #[.int .i64 k, .int .i64 s, .slice A n c, .int .u32 (sum : Int), .int .i64 st] 53))
  go_enter Try.func78, Try.ntmps78
  go_wp2
  go_ret
  exact ⟨rfl, B0.out⟩
theorem mayR_head (k m s : Int) (A : Option Addr) (n c sum : Nat) (st : Int) (w : World) (hk : k = 1 ∧ m = 48 ∨ k = 3 ∧ m = 60 ∨ k = 2 ∧ m = 0 ∨ k = 4 ∧ m = 0)
    (h : s < 1 ∨ ¬ s < 1 ∧ (2147483647 < s ∨ ¬ 2147483647 < s ∧ (m < (n : Int) ∨ ¬ m < (n : Int) ∧ (0 < m ∧ n = 0)))) :
    Calls Try.prog 78 #[.agg #[.int .i64 k, .int .i64 s, .slice A n c, .int .u32 (sum : Int), .int .i64 st]] w fun e w' => e = .returned (.bool false) ∧ Below w.heap.size w w' := by
  have B0 := Lib.hid ((Below.refl w.heap.size w).alloc (Nat.le_refl _) (.cells #[.int .i64 k, .int .i64 s, .slice A n c, .int .u32 (sum : Int), .int .i64 st] 53))
  rcases h with h | ⟨h, h' | ⟨h', h'' | ⟨h'', hm, rfl⟩⟩⟩
  all_goals
    rcases hk with ⟨rfl, rfl⟩ | ⟨rfl, rfl⟩ | ⟨rfl, rfl⟩ | ⟨rfl, rfl⟩
  all_goals first
    | exact absurd hm (by decide)
    | (go_enter Try.func78, Try.ntmps78
       go_wp2
       go_ret
       exact ⟨rfl, B0.out⟩)
theorem mayR_in (k m s : Int) (A : Option Addr) (n c sum : Nat) (st : Int) (es : List Ent) (w : World) (hk : k = 1 ∧ m = 48 ∨ k = 3 ∧ m = 60 ∨ k = 2 ∧ m = 0 ∨ k = 4 ∧ m = 0)
    (hn : n ≤ 9223372036854775807) (hr : RowAt w A (n * 2) (ecells es)) (h1 : ¬ s < 1) (h2 : ¬ 2147483647 < s) (h3 : ¬ m < (n : Int)) (h4 : ¬ (0 < m ∧ n = 0)) :
    Calls Try.prog 78 #[.agg #[.int .i64 k, .int .i64 s, .slice A n c, .int .u32 (sum : Int), .int .i64 st]] w fun e w' => e = .returned (.bool (!(es.any (eWrong k)) && tail? k sum st)) ∧ Below w.heap.size w w' := by
  have hlen : es.length = n := by have := hr.len; rw [ecells_length] at this; omega
  obtain ⟨W, hW⟩ : ∃ W, w.alloc (.cells #[.int .i64 k, .int .i64 s, .slice A n c, .int .u32 (sum : Int), .int .i64 st] 53) = W := ⟨_, rfl⟩
  obtain ⟨b0, hbel, hsz⟩ := boxed w _ _ W hW
  have HR := Lib.hid (hr.below hbel)
  have HL := Lib.hid hlen
  have HW := Lib.hid hW
  have HB0 := Lib.hid b0
  have HBE := Lib.hid hbel
  have fin : ∀ (b d : Bool), b = d → Ending.returned (.bool b) = .returned (.bool d) := fun b d h => by rw [h]
  have HF := Lib.hid fin
  have HS := Lib.hid (show ((sum : Int) == 0) = (sum == 0) by cases sum with | zero => rfl | succ x => simp; omega)
  have HT := Lib.hid (show tail? k sum st = (!(!(sum == 0) && !(k == 2)) && (st == 0 || (k == 4 && (decide (0 < st) && decide (st < 512))))) from rfl)
  have HE := Lib.hid (show ∀ e : Ent, eWrong k e = (decide (e.1 < 0) || (decide (4096 ≤ e.1) || (e.2 && !(k == 1)))) from fun _ => rfl)
  have f0 := b0.cell 0
  have f1 := b0.cell 1
  have f2 := b0.cell 2
  have f3 := b0.cell 3
  have f4 := b0.cell 4
  clear hr hlen hW b0 hbel fin
  have hn0 : (0 < m → ((n : Int) == 0) = false) := fun h => by simp; omega
  have kk : ∀ (P : Prop), (k = 1 ∧ m = 48 → P) → (k = 3 ∧ m = 60 → P) → (k = 2 ∧ m = 0 → P) → (k = 4 ∧ m = 0 → P) → P := fun P a b c d => by rcases hk with h | h | h | h; exact a h; exact b h; exact c h; exact d h
  rcases hk with ⟨rfl, rfl⟩ | ⟨rfl, rfl⟩ | ⟨rfl, rfl⟩ | ⟨rfl, rfl⟩
  · have hn1 := hn0 (by decide)
    clear hn0 kk
    go_enter Try.func78, Try.ntmps78
    go_wp2_with fail
    rw [HW.out]
    go_wp2_with fail
    clear hn1 f0 f1 f2 f3 f4
    go_loopw [4] (fun i wr => ∃ j : Nat, j ≤ n ∧ i = .int .i64 j ∧ (es.take j).any (eWrong 1) = false ∧ wr = W) (fun i _ => n - (intOf i).toNat)
    case atStart => exact ⟨0, by omega, rfl, rfl, rfl⟩
    case round =>
      obtain ⟨j, hj, rfl, hany, rfl⟩ := hrel
      have X1 := Lib.hid hany
      have f0 := HB0.out.cell 0
      have f2 := HB0.out.cell 2
      clear hany
      by_cases hlt : j < n
      · obtain ⟨e, he⟩ : ∃ e, es[j]? = some e := ⟨_, List.getElem?_eq_getElem (by have := HL.out; omega)⟩
        obtain ⟨a, rfl, hab, hpb, hea⟩ := ent_cells HR.out he
        obtain ⟨b, x⟩ := e
        obtain ⟨g0, g1⟩ := hea
        simp only at g0 g1
        have hj0 : (0 : Int) ≤ (j : Int) := by omega
        have hjn : (j : Int) < (n : Int) := by omega
        have HX := Lib.hid he
        have bad : eWrong 1 (b, x) = true → Ending.returned (.bool false) = .returned (.bool (!(es.any (eWrong 1)) && tail? 1 sum st)) := fun h => HF.out _ _ (by rw [any_at HX.out h]; rfl)
        have BAD := Lib.hid bad
        clear he bad
        by_cases hb1 : b < 0
        · have HV := Lib.hid (BAD.out (by rw [HE.out]; simp [hb1]))
          go_wp2
          go_ret
          exact ⟨HV.out, HBE.out⟩
        by_cases hb2 : 4096 ≤ b
        · have HV := Lib.hid (BAD.out (by rw [HE.out]; simp [hb2]))
          go_wp2
          go_ret
          exact ⟨HV.out, HBE.out⟩
        have HV := Lib.hid (any_take_succ HX.out X1.out (show eWrong 1 (b, x) = false by rw [HE.out]; simp [hb1, hb2]))
        go_wp2
        go_roundw
        case rel => exact ⟨j + 1, by omega, by go_num, HV.out, by first | trivial | rfl⟩
        case measure => simp [intOf]; omega
      · obtain rfl : j = n := by omega
        have hfull := X1.out
        rw [List.take_of_length_le (by rw [HL.out]; exact Nat.le_refl _)] at hfull
        have f3 := HB0.out.cell 3
        have f4 := HB0.out.cell 4
        have fin2 : ∀ b : Bool, (!(!(sum == 0) && !((1 : Int) == 2)) && (st == 0 || ((1 : Int) == 4 && (decide (0 < st) && decide (st < 512))))) = b → Ending.returned (.bool b) = .returned (.bool (!(es.any (eWrong 1)) && tail? 1 sum st)) := fun b h => HF.out _ _ (by rw [hfull, HT.out, h]; rfl)
        have FIN := Lib.hid fin2
        clear hfull fin2 X1
        have hss : (sum == 0) = true ∨ (sum == 0) = false := by cases sum == 0 <;> simp
        have htt : st = 0 ∨ (st == 0) = false ∧ (st < 0 ∨ ¬ st < 0 ∧ (st < 512 ∨ ¬ st < 512)) := by
          by_cases h : st = 0
          · exact .inl h
          · exact .inr ⟨by simpa using h, by omega⟩
        rcases hss with hs | hs <;> rcases htt with rfl | ⟨ht0, ht1 | ⟨ht1, ht2 | ht2⟩⟩
        all_goals
          have HSS := Lib.hid hs
          have hs1 := HS.out.trans hs
          clear hs
        · have HV := Lib.hid (FIN.out true (by
            simp [HSS.out]))
          clear FIN
          go_wp2
          go_ret
          exact ⟨HV.out, HBE.out⟩
        · have HV := Lib.hid (FIN.out false (by
            have h0 : ¬ 0 < st := by omega
            simp [HSS.out, ht0, h0]))
          clear FIN
          go_wp2
          go_ret
          exact ⟨HV.out, HBE.out⟩
        · have HV := Lib.hid (FIN.out false (by
            have h0 : 0 < st := by have := ht0; simp at this; omega
            simp [HSS.out, ht0, h0, ht2]))
          clear FIN
          go_wp2
          go_ret
          exact ⟨HV.out, HBE.out⟩
        · have HV := Lib.hid (FIN.out false (by
            have h0 : 0 < st := by have := ht0; simp at this; omega
            simp [HSS.out, ht0, h0, ht2]))
          clear FIN
          go_wp2
          go_ret
          exact ⟨HV.out, HBE.out⟩
        · have HV := Lib.hid (FIN.out false (by
            simp [HSS.out]))
          clear FIN
          go_wp2
          go_ret
          exact ⟨HV.out, HBE.out⟩
        · have HV := Lib.hid (FIN.out false (by
            have h0 : ¬ 0 < st := by omega
            simp [HSS.out, ht0, h0]))
          clear FIN
          go_wp2
          go_ret
          exact ⟨HV.out, HBE.out⟩
        · have HV := Lib.hid (FIN.out false (by
            have h0 : 0 < st := by have := ht0; simp at this; omega
            simp [HSS.out, ht0, h0, ht2]))
          clear FIN
          go_wp2
          go_ret
          exact ⟨HV.out, HBE.out⟩
        · have HV := Lib.hid (FIN.out false (by
            have h0 : 0 < st := by have := ht0; simp at this; omega
            simp [HSS.out, ht0, h0, ht2]))
          clear FIN
          go_wp2
          go_ret
          exact ⟨HV.out, HBE.out⟩
  · have hn1 := hn0 (by decide)
    clear hn0 kk
    go_enter Try.func78, Try.ntmps78
    go_wp2_with fail
    rw [HW.out]
    go_wp2_with fail
    clear hn1 f0 f1 f2 f3 f4
    go_loopw [4] (fun i wr => ∃ j : Nat, j ≤ n ∧ i = .int .i64 j ∧ (es.take j).any (eWrong 3) = false ∧ wr = W) (fun i _ => n - (intOf i).toNat)
    case atStart => exact ⟨0, by omega, rfl, rfl, rfl⟩
    case round =>
      obtain ⟨j, hj, rfl, hany, rfl⟩ := hrel
      have X1 := Lib.hid hany
      have f0 := HB0.out.cell 0
      have f2 := HB0.out.cell 2
      clear hany
      by_cases hlt : j < n
      · obtain ⟨e, he⟩ : ∃ e, es[j]? = some e := ⟨_, List.getElem?_eq_getElem (by have := HL.out; omega)⟩
        obtain ⟨a, rfl, hab, hpb, hea⟩ := ent_cells HR.out he
        obtain ⟨b, x⟩ := e
        obtain ⟨g0, g1⟩ := hea
        simp only at g0 g1
        have hj0 : (0 : Int) ≤ (j : Int) := by omega
        have hjn : (j : Int) < (n : Int) := by omega
        have HX := Lib.hid he
        have bad : eWrong 3 (b, x) = true → Ending.returned (.bool false) = .returned (.bool (!(es.any (eWrong 3)) && tail? 3 sum st)) := fun h => HF.out _ _ (by rw [any_at HX.out h]; rfl)
        have BAD := Lib.hid bad
        clear he bad
        by_cases hb1 : b < 0
        · have HV := Lib.hid (BAD.out (by rw [HE.out]; simp [hb1]))
          go_wp2
          go_ret
          exact ⟨HV.out, HBE.out⟩
        by_cases hb2 : 4096 ≤ b
        · have HV := Lib.hid (BAD.out (by rw [HE.out]; simp [hb2]))
          go_wp2
          go_ret
          exact ⟨HV.out, HBE.out⟩
        cases x
        rotate_left
        · have HV := Lib.hid (BAD.out (by rw [HE.out]; simp))
          go_wp2
          go_ret
          exact ⟨HV.out, HBE.out⟩
        have HV := Lib.hid (any_take_succ HX.out X1.out (show eWrong 3 (b, false) = false by rw [HE.out]; simp [hb1, hb2]))
        go_wp2
        go_roundw
        case rel => exact ⟨j + 1, by omega, by go_num, HV.out, by first | trivial | rfl⟩
        case measure => simp [intOf]; omega
      · obtain rfl : j = n := by omega
        have hfull := X1.out
        rw [List.take_of_length_le (by rw [HL.out]; exact Nat.le_refl _)] at hfull
        have f3 := HB0.out.cell 3
        have f4 := HB0.out.cell 4
        have fin2 : ∀ b : Bool, (!(!(sum == 0) && !((3 : Int) == 2)) && (st == 0 || ((3 : Int) == 4 && (decide (0 < st) && decide (st < 512))))) = b → Ending.returned (.bool b) = .returned (.bool (!(es.any (eWrong 3)) && tail? 3 sum st)) := fun b h => HF.out _ _ (by rw [hfull, HT.out, h]; rfl)
        have FIN := Lib.hid fin2
        clear hfull fin2 X1
        have hss : (sum == 0) = true ∨ (sum == 0) = false := by cases sum == 0 <;> simp
        have htt : st = 0 ∨ (st == 0) = false ∧ (st < 0 ∨ ¬ st < 0 ∧ (st < 512 ∨ ¬ st < 512)) := by
          by_cases h : st = 0
          · exact .inl h
          · exact .inr ⟨by simpa using h, by omega⟩
        rcases hss with hs | hs <;> rcases htt with rfl | ⟨ht0, ht1 | ⟨ht1, ht2 | ht2⟩⟩
        all_goals
          have HSS := Lib.hid hs
          have hs1 := HS.out.trans hs
          clear hs
        · have HV := Lib.hid (FIN.out true (by
            simp [HSS.out]))
          clear FIN
          go_wp2
          go_ret
          exact ⟨HV.out, HBE.out⟩
        · have HV := Lib.hid (FIN.out false (by
            have h0 : ¬ 0 < st := by omega
            simp [HSS.out, ht0, h0]))
          clear FIN
          go_wp2
          go_ret
          exact ⟨HV.out, HBE.out⟩
        · have HV := Lib.hid (FIN.out false (by
            have h0 : 0 < st := by have := ht0; simp at this; omega
            simp [HSS.out, ht0, h0, ht2]))
          clear FIN
          go_wp2
          go_ret
          exact ⟨HV.out, HBE.out⟩
        · have HV := Lib.hid (FIN.out false (by
            have h0 : 0 < st := by have := ht0; simp at this; omega
            simp [HSS.out, ht0, h0, ht2]))
          clear FIN
          go_wp2
          go_ret
          exact ⟨HV.out, HBE.out⟩
        · have HV := Lib.hid (FIN.out false (by
            simp [HSS.out]))
          clear FIN
          go_wp2
          go_ret
          exact ⟨HV.out, HBE.out⟩
        · have HV := Lib.hid (FIN.out false (by
            have h0 : ¬ 0 < st := by omega
            simp [HSS.out, ht0, h0]))
          clear FIN
          go_wp2
          go_ret
          exact ⟨HV.out, HBE.out⟩
        · have HV := Lib.hid (FIN.out false (by
            have h0 : 0 < st := by have := ht0; simp at this; omega
            simp [HSS.out, ht0, h0, ht2]))
          clear FIN
          go_wp2
          go_ret
          exact ⟨HV.out, HBE.out⟩
        · have HV := Lib.hid (FIN.out false (by
            have h0 : 0 < st := by have := ht0; simp at this; omega
            simp [HSS.out, ht0, h0, ht2]))
          clear FIN
          go_wp2
          go_ret
          exact ⟨HV.out, HBE.out⟩
  · obtain rfl : n = 0 := by omega
    have hn1 : True := trivial
    clear hn0 kk
    go_enter Try.func78, Try.ntmps78
    go_wp2_with fail
    rw [HW.out]
    go_wp2_with fail
    clear hn1 f0 f1 f2 f3 f4
    go_loopw [4] (fun i wr => ∃ j : Nat, j ≤ 0 ∧ i = .int .i64 j ∧ (es.take j).any (eWrong 2) = false ∧ wr = W) (fun i _ => 0 - (intOf i).toNat)
    case atStart => exact ⟨0, by omega, rfl, rfl, rfl⟩
    case round =>
      obtain ⟨j, hj, rfl, hany, rfl⟩ := hrel
      have X1 := Lib.hid hany
      have f0 := HB0.out.cell 0
      have f2 := HB0.out.cell 2
      clear hany
      · obtain rfl : j = 0 := by omega
        have hfull := X1.out
        rw [List.take_of_length_le (by rw [HL.out]; exact Nat.le_refl _)] at hfull
        have f3 := HB0.out.cell 3
        have f4 := HB0.out.cell 4
        have fin2 : ∀ b : Bool, (!(!(sum == 0) && !((2 : Int) == 2)) && (st == 0 || ((2 : Int) == 4 && (decide (0 < st) && decide (st < 512))))) = b → Ending.returned (.bool b) = .returned (.bool (!(es.any (eWrong 2)) && tail? 2 sum st)) := fun b h => HF.out _ _ (by rw [hfull, HT.out, h]; rfl)
        have FIN := Lib.hid fin2
        clear hfull fin2 X1
        have hss : (sum == 0) = true ∨ (sum == 0) = false := by cases sum == 0 <;> simp
        have htt : st = 0 ∨ (st == 0) = false ∧ (st < 0 ∨ ¬ st < 0 ∧ (st < 512 ∨ ¬ st < 512)) := by
          by_cases h : st = 0
          · exact .inl h
          · exact .inr ⟨by simpa using h, by omega⟩
        rcases hss with hs | hs <;> rcases htt with rfl | ⟨ht0, ht1 | ⟨ht1, ht2 | ht2⟩⟩
        all_goals
          have HSS := Lib.hid hs
          have hs1 := HS.out.trans hs
          clear hs
        · have HV := Lib.hid (FIN.out true (by
            simp [HSS.out]))
          clear FIN
          go_wp2
          go_ret
          exact ⟨HV.out, HBE.out⟩
        · have HV := Lib.hid (FIN.out false (by
            have h0 : ¬ 0 < st := by omega
            simp [HSS.out, ht0, h0]))
          clear FIN
          go_wp2
          go_ret
          exact ⟨HV.out, HBE.out⟩
        · have HV := Lib.hid (FIN.out false (by
            have h0 : 0 < st := by have := ht0; simp at this; omega
            simp [HSS.out, ht0, h0, ht2]))
          clear FIN
          go_wp2
          go_ret
          exact ⟨HV.out, HBE.out⟩
        · have HV := Lib.hid (FIN.out false (by
            have h0 : 0 < st := by have := ht0; simp at this; omega
            simp [HSS.out, ht0, h0, ht2]))
          clear FIN
          go_wp2
          go_ret
          exact ⟨HV.out, HBE.out⟩
        · have HV := Lib.hid (FIN.out true (by
            simp [HSS.out]))
          clear FIN
          go_wp2
          go_ret
          exact ⟨HV.out, HBE.out⟩
        · have HV := Lib.hid (FIN.out false (by
            have h0 : ¬ 0 < st := by omega
            simp [HSS.out, ht0, h0]))
          clear FIN
          go_wp2
          go_ret
          exact ⟨HV.out, HBE.out⟩
        · have HV := Lib.hid (FIN.out false (by
            have h0 : 0 < st := by have := ht0; simp at this; omega
            simp [HSS.out, ht0, h0, ht2]))
          clear FIN
          go_wp2
          go_ret
          exact ⟨HV.out, HBE.out⟩
        · have HV := Lib.hid (FIN.out false (by
            have h0 : 0 < st := by have := ht0; simp at this; omega
            simp [HSS.out, ht0, h0, ht2]))
          clear FIN
          go_wp2
          go_ret
          exact ⟨HV.out, HBE.out⟩
  · obtain rfl : n = 0 := by omega
    have hn1 : True := trivial
    clear hn0 kk
    go_enter Try.func78, Try.ntmps78
    go_wp2_with fail
    rw [HW.out]
    go_wp2_with fail
    clear hn1 f0 f1 f2 f3 f4
    go_loopw [4] (fun i wr => ∃ j : Nat, j ≤ 0 ∧ i = .int .i64 j ∧ (es.take j).any (eWrong 4) = false ∧ wr = W) (fun i _ => 0 - (intOf i).toNat)
    case atStart => exact ⟨0, by omega, rfl, rfl, rfl⟩
    case round =>
      obtain ⟨j, hj, rfl, hany, rfl⟩ := hrel
      have X1 := Lib.hid hany
      have f0 := HB0.out.cell 0
      have f2 := HB0.out.cell 2
      clear hany
      · obtain rfl : j = 0 := by omega
        have hfull := X1.out
        rw [List.take_of_length_le (by rw [HL.out]; exact Nat.le_refl _)] at hfull
        have f3 := HB0.out.cell 3
        have f4 := HB0.out.cell 4
        have fin2 : ∀ b : Bool, (!(!(sum == 0) && !((4 : Int) == 2)) && (st == 0 || ((4 : Int) == 4 && (decide (0 < st) && decide (st < 512))))) = b → Ending.returned (.bool b) = .returned (.bool (!(es.any (eWrong 4)) && tail? 4 sum st)) := fun b h => HF.out _ _ (by rw [hfull, HT.out, h]; rfl)
        have FIN := Lib.hid fin2
        clear hfull fin2 X1
        have hss : (sum == 0) = true ∨ (sum == 0) = false := by cases sum == 0 <;> simp
        have htt : st = 0 ∨ (st == 0) = false ∧ (st < 0 ∨ ¬ st < 0 ∧ (st < 512 ∨ ¬ st < 512)) := by
          by_cases h : st = 0
          · exact .inl h
          · exact .inr ⟨by simpa using h, by omega⟩
        rcases hss with hs | hs <;> rcases htt with rfl | ⟨ht0, ht1 | ⟨ht1, ht2 | ht2⟩⟩
        all_goals
          have HSS := Lib.hid hs
          have hs1 := HS.out.trans hs
          clear hs
        · have HV := Lib.hid (FIN.out true (by
            simp [HSS.out]))
          clear FIN
          go_wp2
          go_ret
          exact ⟨HV.out, HBE.out⟩
        · have HV := Lib.hid (FIN.out false (by
            have h0 : ¬ 0 < st := by omega
            simp [HSS.out, ht0, h0]))
          clear FIN
          go_wp2
          go_ret
          exact ⟨HV.out, HBE.out⟩
        · have HV := Lib.hid (FIN.out true (by
            have h0 : 0 < st := by have := ht0; simp at this; omega
            simp [HSS.out, ht0, h0, ht2]))
          clear FIN
          go_wp2
          go_ret
          exact ⟨HV.out, HBE.out⟩
        · have HV := Lib.hid (FIN.out false (by
            have h0 : 0 < st := by have := ht0; simp at this; omega
            simp [HSS.out, ht0, h0, ht2]))
          clear FIN
          go_wp2
          go_ret
          exact ⟨HV.out, HBE.out⟩
        · have HV := Lib.hid (FIN.out false (by
            simp [HSS.out]))
          clear FIN
          go_wp2
          go_ret
          exact ⟨HV.out, HBE.out⟩
        · have HV := Lib.hid (FIN.out false (by
            have h0 : ¬ 0 < st := by omega
            simp [HSS.out, ht0, h0]))
          clear FIN
          go_wp2
          go_ret
          exact ⟨HV.out, HBE.out⟩
        · have HV := Lib.hid (FIN.out false (by
            have h0 : 0 < st := by have := ht0; simp at this; omega
            simp [HSS.out, ht0, h0, ht2]))
          clear FIN
          go_wp2
          go_ret
          exact ⟨HV.out, HBE.out⟩
        · have HV := Lib.hid (FIN.out false (by
            have h0 : 0 < st := by have := ht0; simp at this; omega
            simp [HSS.out, ht0, h0, ht2]))
          clear FIN
          go_wp2
          go_ret
          exact ⟨HV.out, HBE.out⟩
theorem mayR_any (k s : Int) (A : Option Addr) (n c sum : Nat) (st : Int) (es : List Ent) (w : World) (hn : n ≤ 9223372036854775807) (hr : RowAt w A (n * 2) (ecells es)) :
    Calls Try.prog 78 #[.agg #[.int .i64 k, .int .i64 s, .slice A n c, .int .u32 (sum : Int), .int .i64 st]] w fun e w' => e = .returned (.bool (rMay k s es sum st)) ∧ Below w.heap.size w w' := by
  have hlen : es.length = n := by have := hr.len; rw [ecells_length] at this; omega
  by_cases hk : (k = 1 ∧ most k = 48 ∨ k = 3 ∧ most k = 60 ∨ k = 2 ∧ most k = 0 ∨ k = 4 ∧ most k = 0)
  · cases hh : head? k s n
    · have hm : rMay k s es sum st = false := by simp [rMay, hlen, hh]
      rw [hm]
      refine mayR_head k (most k) s A n c sum st w hk ?_
      have := head_false hh
      omega
    · have hm : rMay k s es sum st = (!(es.any (eWrong k)) && tail? k sum st) := by simp [rMay, hlen, hh]
      rw [hm]
      obtain ⟨h1, h2, h3, h4, h5⟩ := head_true hh
      exact mayR_in k (most k) s A n c sum st es w hk hn hr h2 h3 h4 (by omega)
  · have hm1 : most k = -1 := by have := most_cases k; omega
    have hm : rMay k s es sum st = false := by simp [rMay, head?, hm1]
    rw [hm]
    have hne : k ≠ 1 ∧ k ≠ 3 ∧ k ≠ 2 ∧ k ≠ 4 := ⟨fun e => by subst e; exact absurd hm1 (by decide), fun e => by subst e; exact absurd hm1 (by decide), fun e => by subst e; exact absurd hm1 (by decide), fun e => by subst e; exact absurd hm1 (by decide)⟩
    exact mayR_kind k s A n c sum st w (by simpa using hne.1) (by simpa using hne.2.1) (by simpa using hne.2.2.1) (by simpa using hne.2.2.2)
end Go.Proofs.Ytafonjnanfekkaa.Log

namespace Go.Proofs.Ytafonjnanfekkaa.Log
open Go.RowKit Go.Proofs.Ytafonjnanfekkaa.Wire Go.Proofs.Ytafonjnanfekkaa.Lay
set_option maxHeartbeats 8000000
set_option maxRecDepth 100000
set_option linter.unusedVariables false
set_option linter.unusedSimpArgs false

theorem snoc_u64 (l : List Nat) (x : Nat) : nums l ++ nums [x] = nums (l ++ [x]) := by simp [nums]
theorem snoc_i64 (l : List Int) (x : Int) : ints l ++ ints [x] = ints (l ++ [x]) := by simp [ints]
/-- Both rows, and nothing old turned. -/
structure PAt (w : World) (vl vw : Value) (l : List Nat) (ws : List Int) (wr : World) : Prop where
  nl : wr.ownsRow w.heap.size 84 1 vl l.length (nums l)
  nw : wr.ownsRow w.heap.size 3 1 vw ws.length (ints ws)
  bel : Below w.heap.size w wr
theorem PAt.alloc {w wr : World} {vl vw : Value} {l : List Nat} {ws : List Int} (h : PAt w vl vw l ws wr) (o : Obj) : PAt w vl vw l ws (wr.alloc o) :=
  ⟨h.nl.alloc o, h.nw.alloc o, h.bel.alloc h.bel.size o⟩
theorem PAt.appL {w wr w' : World} {vl vw v' : Value} {l : List Nat} {ws : List Int} {x : Nat} (h : PAt w vl vw l ws wr) (ho : w'.ownsRow w.heap.size 84 1 v' (l.length + 1) (nums l ++ nums [x])) (hg : wr.grownBy w' vl.ownBlock) : PAt w v' vw (l ++ [x]) ws w' :=
  ⟨by rw [snoc_u64] at ho; simpa using ho, h.nw.kept hg (own_ne h.nw h.nl (by decide)), below_row h.bel hg (fun g e => (h.nl.lt g e).1) h.bel.size⟩
theorem PAt.appW {w wr w' : World} {vl vw v' : Value} {l : List Nat} {ws : List Int} {x : Int} (h : PAt w vl vw l ws wr) (ho : w'.ownsRow w.heap.size 3 1 v' (ws.length + 1) (ints ws ++ ints [x])) (hg : wr.grownBy w' vw.ownBlock) : PAt w vl v' l (ws ++ [x]) w' :=
  ⟨h.nl.kept hg (own_ne h.nl h.nw (by decide)), by rw [snoc_i64] at ho; simpa using ho, below_row h.bel hg (fun g e => (h.nw.lt g e).1) h.bel.size⟩
theorem logPackR_no (k s : Int) (A : Option Addr) (n c sum : Nat) (st : Int) (es : List Ent) (w : World) (hn : n ≤ 9223372036854775807) (hr : RowAt w A (n * 2) (ecells es)) (hm : rMay k s es sum st = false) :
    Calls Try.prog 35 #[.agg #[.int .i64 k, .int .i64 s, .slice A n c, .int .u32 (sum : Int), .int .i64 st]] w fun e w' => e = .returned (.tuple #[.slice none 0 0, .int .i64 22]) ∧ Below w.heap.size w w' := by
  obtain ⟨W, hW⟩ : ∃ W, w.alloc (.cells #[.int .i64 k, .int .i64 s, .slice A n c, .int .u32 (sum : Int), .int .i64 st] 53) = W := ⟨_, rfl⟩
  obtain ⟨b0, hbel, hsz⟩ := boxed w _ _ W hW
  have HM := Lib.hid (mayR_any k s A n c sum st es W hn (hr.below hbel))
  rw [hm] at HM
  have HW := Lib.hid hW
  have HBE := Lib.hid hbel
  have f0 := b0.cell 0
  have f1 := b0.cell 1
  have f2 := b0.cell 2
  have f3 := b0.cell 3
  have f4 := b0.cell 4
  clear hW hm hr hbel b0
  go_enter Try.func35, Try.ntmps35
  go_wp2_with fail
  rw [HW.out]
  go_wp2_with fail
  refine HM.out.mono ?_
  rintro e w1 ⟨rfl, hb1⟩
  go_wp2_with fail
  go_ret2
  exact ⟨rfl, below_all HBE.out HBE.out.size hb1⟩

theorem logPackR_in (k s : Int) (A : Option Addr) (n c sum : Nat) (st : Int) (es : List Ent) (w : World) (hn : n ≤ 9223372036854775807) (hsum : sum < 4294967296) (hr : RowAt w A (n * 2) (ecells es)) (hm : rMay k s es sum st = true) :
    Calls Try.prog 35 #[.agg #[.int .i64 k, .int .i64 s, .slice A n c, .int .u32 (sum : Int), .int .i64 st]] w fun e w' => ∃ v, e = .returned (.tuple #[v, .int .i64 0]) ∧ Below w.heap.size w w' ∧ w'.ownsRow w.heap.size 5 1 v (rB k s es sum st).length (bvl (rB k s es sum st)) := by
  have hlen : es.length = n := by have := hr.len; rw [ecells_length] at this; omega
  obtain ⟨W, hW⟩ : ∃ W, w.alloc (.cells #[.int .i64 k, .int .i64 s, .slice A n c, .int .u32 (sum : Int), .int .i64 st] 53) = W := ⟨_, rfl⟩
  obtain ⟨b0, hbel, hsz⟩ := boxed w _ _ W hW
  have HM := Lib.hid (mayR_any k s A n c sum st es W hn (hr.below hbel))
  rw [hm] at HM
  have HRB := Lib.hid (show rB k s es sum st = sealB (rS s) (packB (rL k s es sum st) (rW k n) 256) by rw [rB, if_pos hm, hlen])
  have hg := rGood hm
  have HSUM := Lib.hid hsum
  have HF := Lib.hid (hg.full hsum)
  have HLEN := Lib.hid hlen
  have H64 := Lib.hid (fits64 (l := rL k s es sum st) (ws := rW k n) (by rw [rL_length, hlen]) (rW_wok k n) (by have := hg.zip hsum; rwa [hlen] at this))
  have HR := Lib.hid (hr.below hbel)
  have HE := Lib.hid hg.ents
  obtain ⟨s1, s2⟩ := hg.seq
  have hk4 : 1 ≤ k ∧ k ≤ 4 := by rcases hg.kind with ⟨rfl, _⟩ | ⟨rfl, _⟩ | ⟨rfl, _⟩ | ⟨rfl, _⟩ <;> omega
  have hn60 : n ≤ 60 := by
    rcases hg.kind with ⟨rfl, h1, h2⟩ | ⟨rfl, h1, h2⟩ | ⟨rfl, h1⟩ | ⟨rfl, h1⟩
    · omega
    · omega
    · rw [← hlen, h1]; simp
    · rw [← hlen, h1]; simp
  have HLW := Lib.hid (show (rW k n).length ≤ 1000 by
    have h1 := esW_len k n
    have h2 : (tW k).length ≤ 1 := by unfold tW; split; exact Nat.le_refl _; split; exact Nat.le_refl _; exact Nat.zero_le _
    have h3 : (Log.hW).length = 4 := rfl
    rw [rW, List.length_append, List.length_append, h3]
    omega)
  have HST := Lib.hid hg.start
  have HW := Lib.hid hW
  have HBE := Lib.hid hbel
  have f0 := b0.cell 0
  have f1 := b0.cell 1
  have f2 := b0.cell 2
  have f3 := b0.cell 3
  have f4 := b0.cell 4
  have HB0 := Lib.hid b0
  clear hW hm hr hbel b0 hg hlen hsum
  go_enter Try.func35, Try.ntmps35
  go_wp2_with fail
  rw [HW.out]
  go_wp2_with fail
  refine HM.out.mono ?_
  rintro e w1 ⟨rfl, hb1⟩
  clear f0 f1 f2 f3 f4 HM
  have hk1 := HB0.out.belowAll hb1
  have hlt1 : w.heap.size < w1.heap.size := Nat.lt_of_lt_of_le HB0.out.lt hb1.size
  have hcells : ∀ w', Below w1.heap.size w1 w' → Blk w' w.heap.size 53 #[.int .i64 k, .int .i64 s, .slice A n c, .int .u32 (sum : Int), .int .i64 st] := fun w' h => hk1.below h hlt1
  have CE := Lib.hid hcells
  have HR1 := Lib.hid (HR.out.below hb1)
  have B1 := Lib.hid (below_all HBE.out HBE.out.size hb1)
  have f0 := hk1.cell 0
  have f1 := hk1.cell 1
  have f2 := hk1.cell 2
  have wk : IntKind.u64.wrap k = k := by rw [IntKind.wrap_u64]; omega
  have wse : IntKind.u64.wrap s = s := by rw [IntKind.wrap_u64]; omega
  have wn : IntKind.u64.wrap (n : Int) = (n : Int) := by rw [IntKind.wrap_u64]; omega
  have hnum : nums (hL k s n) = [.int .u64 1213813321, .int .u64 k, .int .u64 s, .int .u64 (n : Int)] := by simp [nums, hL]; omega
  have P2 := Lib.hid (show PAt w1 (.slice (some ⟨w1.heap.size, 0, none⟩) 4 4) (.slice (some ⟨w1.heap.size + 1, 0, none⟩) 4 4) (hL k s n) hW ((w1.alloc (.cells #[.int .u64 1213813321, .int .u64 k, .int .u64 s, .int .u64 (n : Int)] 84)).alloc (.cells #[.int .i64 4, .int .i64 1, .int .i64 4, .int .i64 2] 3)) from
    ⟨by rw [hnum]; exact (lit_ownN w1 84 1 [.int .u64 1213813321, .int .u64 k, .int .u64 s, .int .u64 (n : Int)] 4 rfl (by unfold maxLen; omega)).alloc _,
     by have := lit_ownN (w1.alloc (.cells #[.int .u64 1213813321, .int .u64 k, .int .u64 s, .int .u64 (n : Int)] 84)) 3 1 (ints Log.hW) 4 rfl (by unfold maxLen; omega)
        rw [show (w1.alloc (.cells #[.int .u64 1213813321, .int .u64 k, .int .u64 s, .int .u64 (n : Int)] 84)).heap.size = w1.heap.size + 1 by simp] at this
        exact own_mono this (by omega),
     ((Below.refl w1.heap.size w1).alloc (Nat.le_refl _) _).alloc (by simp) _⟩)
  clear hcells hk1 HR hb1 hnum
  go_wp2_with fail
  clear f0 f1 f2 wk wse wn
  go_loopw [4, 5, 6, 7] (fun vl vw i _ wr => ∃ (j : Nat), j ≤ n ∧ i = .int .i64 j ∧ PAt w1 vl vw (hL k s n ++ esL k (es.take j)) (Log.hW ++ esW k j) wr) (fun _ _ i _ _ => n - (intOf i).toNat)
  case atStart => exact ⟨0, by omega, rfl, by simpa [esL, esW] using P2.out⟩
  case round =>
    obtain ⟨j, hj, rfl, hp⟩ := hrel
    have X1 := Lib.hid hp
    have hsz6 := hp.bel.size
    have f0 := (CE.out _ hp.bel).cell 0
    have f2 := (CE.out _ hp.bel).cell 2
    have HBP := Lib.hid hp.bel
    clear hp
    have ll : (hL k s n ++ esL k (es.take j)).length ≤ 1000 ∧ (Log.hW ++ esW k j).length ≤ 1000 := by
      have h1 := esL_length k (es.take j)
      have h2 := esW_len k (es.take j).length
      have h3 := esW_len k j
      rw [List.length_append, List.length_append, h1, List.length_take]
      rw [List.length_take] at h2
      simp only [hL, Log.hW, List.length_cons, List.length_nil]
      omega
    obtain ⟨ll1, ll2⟩ := ll
    by_cases hlt : j < n
    · obtain ⟨e, he⟩ : ∃ e, es[j]? = some e := ⟨_, List.getElem?_eq_getElem (by have := HLEN.out; omega)⟩
      obtain ⟨a, rfl, hab, hpb, hea⟩ := ent_cells HR1.out he
      obtain ⟨e0, e1, e2⟩ := HE.out e (List.mem_of_getElem? he)
      have htk : es.take (j + 1) = es.take j ++ [e] := by rw [List.take_add_one, he]; rfl
      have HTK := Lib.hid htk
      obtain ⟨b, x⟩ := e
      simp only at e0 e1 e2
      obtain ⟨bn, rfl⟩ := Int.eq_ofNat_of_zero_le e0
      have HENT := Lib.hid (fun (W' : World) (h : Below w1.heap.size w1 W') => hea.below h hpb)
      obtain ⟨g0, g1⟩ := hea.below HBP.out hpb
      simp only at g0 g1
      have wb : IntKind.u64.wrap (bn : Int) = (bn : Int) := by rw [IntKind.wrap_u64]; omega
      have fin : ∀ (wz : World) (vl vw : Value) (l : List Nat) (ws : List Int), l = eL k ((bn : Int), x) → ws = eW k → PAt w1 vl vw ((hL k s n ++ esL k (es.take j)) ++ l) ((Log.hW ++ esW k j) ++ ws) wz → PAt w1 vl vw (hL k s n ++ esL k (es.take (j + 1))) (Log.hW ++ esW k (j + 1)) wz := fun wz vl vw l ws h1 h2 h => by
        subst h1 h2
        rw [HTK.out, esL_append, esL_one, esW_succ, ← List.append_assoc, ← List.append_assoc]; exact h
      have FIN := Lib.hid fin
      have hj0 : (0 : Int) ≤ (j : Int) := by omega
      have hjn : (j : Int) < (n : Int) := by omega
      clear he htk fin hea
      by_cases hk : k = 1
      · subst hk
        cases x
        · have L10 := Lib.hid (lit_rowN wr 84 (nums [bn]) 1 (wr).heap.size rfl rfl)
          have Q10 := Lib.hid (X1.out.alloc (.cells (nums [bn]).toArray 84))
          go_wp2_with (first
            | (at_builtin
               refine app_n64 _ rfl (.tmp 32) (.tmp 40) rfl w1.heap.size u4 _ _ rfl Q10.out.nl (some ⟨(wr).heap.size, 0, none⟩) 1 1 [bn] rfl (fun e => by cases e) L10.out (by have := ll1; simp at this ⊢; omega) Q10.out.bel.size ?_
               intro v10 y10 hown hg
               have P10 := Lib.hid (Q10.out.appL hown hg)
               have L11 := Lib.hid (lit_rowN y10 3 (ints [4]) 1 (y10).heap.size rfl rfl)
               have Q11 := Lib.hid (P10.out.alloc (.cells (ints [4]).toArray 3))
               clear hown hg)
            | (at_builtin
               refine app_i64 _ rfl (.tmp 42) (.tmp 43) rfl w1.heap.size u5 _ _ rfl Q11.out.nw (some ⟨(y10).heap.size, 0, none⟩) 1 1 [4] rfl (fun e => by cases e) L11.out (by have := ll2; simp at this ⊢; omega) Q11.out.bel.size ?_
               intro v11 y11 hown hg
               have P11 := Lib.hid (Q11.out.appW hown hg)
               have L12 := Lib.hid (lit_rowN y11 84 (nums [0]) 1 (y11).heap.size rfl rfl)
               have Q12 := Lib.hid (P11.out.alloc (.cells (nums [0]).toArray 84))
               have f0b := (CE.out _ P11.out.bel).cell 0
               have f2b := (CE.out _ P11.out.bel).cell 2
               have g1b := (HENT.out _ P11.out.bel).2
               clear hown hg)
            | (at_builtin
               refine app_n64 _ rfl (.tmp 54) (.tmp 56) rfl w1.heap.size v10 _ _ rfl Q12.out.nl (some ⟨(y11).heap.size, 0, none⟩) 1 1 [0] rfl (fun e => by cases e) L12.out (by have := ll1; simp at this ⊢; omega) Q12.out.bel.size ?_
               intro v12 y12 hown hg
               have P12 := Lib.hid (Q12.out.appL hown hg)
               have L13 := Lib.hid (lit_rowN y12 3 (ints [1]) 1 (y12).heap.size rfl rfl)
               have Q13 := Lib.hid (P12.out.alloc (.cells (ints [1]).toArray 3))
               clear hown hg)
            | (at_builtin
               refine app_i64 _ rfl (.tmp 58) (.tmp 59) rfl w1.heap.size v11 _ _ rfl Q13.out.nw (some ⟨(y12).heap.size, 0, none⟩) 1 1 [1] rfl (fun e => by cases e) L13.out (by have := ll2; simp at this ⊢; omega) Q13.out.bel.size ?_
               intro v13 y13 hown hg
               have P13 := Lib.hid (Q13.out.appW hown hg)
               clear hown hg)
            | fail)
          go_roundw
          case rel => exact ⟨j + 1, by omega, by go_num, FIN.out _ _ _ [bn, 0] [4, 1] rfl rfl (by have := P13.out; rw [List.append_assoc _ [bn], List.append_assoc _ [(4 : Int)]] at this; exact this)⟩
          case measure => simp [intOf]; omega
        · have L20 := Lib.hid (lit_rowN wr 84 (nums [bn]) 1 (wr).heap.size rfl rfl)
          have Q20 := Lib.hid (X1.out.alloc (.cells (nums [bn]).toArray 84))
          go_wp2_with (first
            | (at_builtin
               refine app_n64 _ rfl (.tmp 32) (.tmp 40) rfl w1.heap.size u4 _ _ rfl Q20.out.nl (some ⟨(wr).heap.size, 0, none⟩) 1 1 [bn] rfl (fun e => by cases e) L20.out (by have := ll1; simp at this ⊢; omega) Q20.out.bel.size ?_
               intro v20 y20 hown hg
               have P20 := Lib.hid (Q20.out.appL hown hg)
               have L21 := Lib.hid (lit_rowN y20 3 (ints [4]) 1 (y20).heap.size rfl rfl)
               have Q21 := Lib.hid (P20.out.alloc (.cells (ints [4]).toArray 3))
               clear hown hg)
            | (at_builtin
               refine app_i64 _ rfl (.tmp 42) (.tmp 43) rfl w1.heap.size u5 _ _ rfl Q21.out.nw (some ⟨(y20).heap.size, 0, none⟩) 1 1 [4] rfl (fun e => by cases e) L21.out (by have := ll2; simp at this ⊢; omega) Q21.out.bel.size ?_
               intro v21 y21 hown hg
               have P21 := Lib.hid (Q21.out.appW hown hg)
               have L22 := Lib.hid (lit_rowN y21 84 (nums [1]) 1 (y21).heap.size rfl rfl)
               have Q22 := Lib.hid (P21.out.alloc (.cells (nums [1]).toArray 84))
               have f0b := (CE.out _ P21.out.bel).cell 0
               have f2b := (CE.out _ P21.out.bel).cell 2
               have g1b := (HENT.out _ P21.out.bel).2
               clear hown hg)
            | (at_builtin
               refine app_n64 _ rfl (.tmp 54) (.tmp 56) rfl w1.heap.size v20 _ _ rfl Q22.out.nl (some ⟨(y21).heap.size, 0, none⟩) 1 1 [1] rfl (fun e => by cases e) L22.out (by have := ll1; simp at this ⊢; omega) Q22.out.bel.size ?_
               intro v22 y22 hown hg
               have P22 := Lib.hid (Q22.out.appL hown hg)
               have L23 := Lib.hid (lit_rowN y22 3 (ints [1]) 1 (y22).heap.size rfl rfl)
               have Q23 := Lib.hid (P22.out.alloc (.cells (ints [1]).toArray 3))
               clear hown hg)
            | (at_builtin
               refine app_i64 _ rfl (.tmp 58) (.tmp 59) rfl w1.heap.size v21 _ _ rfl Q23.out.nw (some ⟨(y22).heap.size, 0, none⟩) 1 1 [1] rfl (fun e => by cases e) L23.out (by have := ll2; simp at this ⊢; omega) Q23.out.bel.size ?_
               intro v23 y23 hown hg
               have P23 := Lib.hid (Q23.out.appW hown hg)
               clear hown hg)
            | fail)
          go_roundw
          case rel => exact ⟨j + 1, by omega, by go_num, FIN.out _ _ _ [bn, 1] [4, 1] rfl rfl (by have := P23.out; rw [List.append_assoc _ [bn], List.append_assoc _ [(4 : Int)]] at this; exact this)⟩
          case measure => simp [intOf]; omega
      · have hk' : (k == 1) = false := by simpa using hk
        have HK := Lib.hid hk
        clear hk
        have L30 := Lib.hid (lit_rowN wr 84 (nums [bn]) 1 (wr).heap.size rfl rfl)
        have Q30 := Lib.hid (X1.out.alloc (.cells (nums [bn]).toArray 84))
        go_wp2_with (first
          | (at_builtin
             refine app_n64 _ rfl (.tmp 32) (.tmp 40) rfl w1.heap.size u4 _ _ rfl Q30.out.nl (some ⟨(wr).heap.size, 0, none⟩) 1 1 [bn] rfl (fun e => by cases e) L30.out (by have := ll1; simp at this ⊢; omega) Q30.out.bel.size ?_
             intro v30 y30 hown hg
             have P30 := Lib.hid (Q30.out.appL hown hg)
             have L31 := Lib.hid (lit_rowN y30 3 (ints [4]) 1 (y30).heap.size rfl rfl)
             have Q31 := Lib.hid (P30.out.alloc (.cells (ints [4]).toArray 3))
             clear hown hg)
          | (at_builtin
             refine app_i64 _ rfl (.tmp 42) (.tmp 43) rfl w1.heap.size u5 _ _ rfl Q31.out.nw (some ⟨(y30).heap.size, 0, none⟩) 1 1 [4] rfl (fun e => by cases e) L31.out (by have := ll2; simp at this ⊢; omega) Q31.out.bel.size ?_
             intro v31 y31 hown hg
             have P31 := Lib.hid (Q31.out.appW hown hg)
             have f0b := (CE.out _ P31.out.bel).cell 0
             clear hown hg)
          | fail)
        go_roundw
        case rel => exact ⟨j + 1, by omega, by go_num, FIN.out _ _ _ [bn] [4] (by simp [eL, HK.out]) (by simp [eW, HK.out]) P31.out⟩
        case measure => simp [intOf]; omega
    · obtain rfl : j = n := by omega
      have htk : es.take j = es := List.take_of_length_le (by rw [HLEN.out]; exact Nat.le_refl _)
      have hx := X1.out
      rw [htk] at hx ll1
      have X3 := Lib.hid hx
      have f3 := (CE.out _ HBP.out).cell 3
      have f4 := (CE.out _ HBP.out).cell 4
      clear htk hx X1
      have wsd : IntKind.u32.wrap s = ((rS s).toNat : Int) := by
        rw [rS, BitVec.toNat_ofInt, IntKind.wrap_u32]; omega
      have wsm : IntKind.u64.wrap (sum : Int) = (sum : Int) := by rw [IntKind.wrap_u64]; have := HSUM.out; omega
      have kcs : k = 2 ∨ k = 4 ∨ (k == 2) = false ∧ (k == 4) = false := by
        by_cases h2 : k = 2
        · exact .inl h2
        · by_cases h4 : k = 4
          · exact .inr (.inl h4)
          · exact .inr (.inr ⟨by simpa using h2, by simpa using h4⟩)
      rcases kcs with rfl | rfl | ⟨k2, k4⟩
      · have L40 := Lib.hid (lit_rowN wr 84 (nums [sum]) 1 (wr).heap.size rfl rfl)
        have Q40 := Lib.hid (X3.out.alloc (.cells (nums [sum]).toArray 84))
        go_wp2_with (first
          | (at_builtin
             refine app_n64 _ rfl (.tmp 64) (.tmp 68) rfl w1.heap.size u4 _ _ rfl Q40.out.nl (some ⟨(wr).heap.size, 0, none⟩) 1 1 [sum] rfl (fun e => by cases e) L40.out (by have := ll1; simp at this ⊢; omega) Q40.out.bel.size ?_
             intro v40 y40 hown hg
             have P40 := Lib.hid (Q40.out.appL hown hg)
             have L41 := Lib.hid (lit_rowN y40 3 (ints [4]) 1 (y40).heap.size rfl rfl)
             have Q41 := Lib.hid (P40.out.alloc (.cells (ints [4]).toArray 3))
             clear hown hg)
          | (at_builtin
             refine app_i64 _ rfl (.tmp 70) (.tmp 71) rfl w1.heap.size u5 _ _ rfl Q41.out.nw (some ⟨(y40).heap.size, 0, none⟩) 1 1 [4] rfl (fun e => by cases e) L41.out (by have := ll2; simp at this ⊢; omega) Q41.out.bel.size ?_
             intro v41 y41 hown hg
             have P41 := Lib.hid (Q41.out.appW hown hg)
             have fk := (CE.out _ P41.out.bel).cell 0
             clear hown hg)
          | fail)
        have e1 : rL 2 s es sum st = hL 2 s j ++ esL 2 es ++ [sum] := by rw [rL, HLEN.out]; rfl
        have e2 : rW 2 j = Log.hW ++ esW 2 j ++ [4] := rfl
        have FZ := Lib.hid (show PAt w1 _ _ (rL 2 s es sum st) (rW 2 j) y41 by rw [e1, e2]; exact P41.out)
        clear X3
        obtain ⟨A0, c0, EV0, hr0, _, hc0, _, _⟩ := own_nums FZ.out.nl
        obtain ⟨A1, c1, EV1, hr1, _, hc1, _, _⟩ := own_ints FZ.out.nw
        subst EV0 EV1
        have HP := Lib.hid (ref_pack_any A0 A1 _ c0 _ c1 (rL 2 s es sum st) (rW 2 j) 256 y41 (by have := HLW.out; omega) H64.out hr0 hr1)
        generalize (rL 2 s es sum st).length = n0 at HP ⊢
        generalize (rW 2 j).length = n1 at HP ⊢
        obtain ⟨hf1, hf2⟩ := HF.out
        obtain ⟨pb, hpb⟩ : ∃ pb, packB (rL 2 s es sum st) (rW 2 j) 256 = pb := ⟨_, rfl⟩
        rw [HLEN.out, hpb] at hf1
        rw [HLEN.out] at hf2
        rw [hf2, hpb, hf1] at HP
        have HPB := Lib.hid hpb
        have HPL := Lib.hid hf1
        clear hf1 hf2 hpb hr0 hr1 hc0 hc1 HF H64
        refine HP.out.mono ?_
        rintro e w9 ⟨v9, rfl, hb9, ho9⟩
        have BW := Lib.hid (below_all FZ.out.bel FZ.out.bel.size hb9)
        have B9 := Lib.hid (below_all B1.out B1.out.size BW.out)
        have f1 := (CE.out _ BW.out).cell 1
        have O9 := Lib.hid (own_mono ho9 (Nat.le_trans (Nat.le_of_lt hlt1) FZ.out.bel.size))
        obtain ⟨A9, c9, rfl, _, _, _, _, _⟩ := own_slice ho9
        have HS := Lib.hid (ref_seal_row w.heap.size 256 c9 A9 pb (rS s) w9 HPL.out O9.out)
        clear hb9 ho9 HP FZ
        go_wp2_with fail
        refine HS.out.mono ?_
        rintro e w10 ⟨rfl, ho10, hg10⟩
        have O10 := Lib.hid ho10
        have B10 := Lib.hid (below_own O9.out B9.out (Nat.le_refl _) hg10)
        clear ho10 hg10
        go_wp2_with fail
        go_ret2
        refine ⟨_, rfl, B10.out, ?_⟩
        rw [HRB.out, HPB.out, sealB_length, HPL.out]
        exact O10.out
      · obtain ⟨tn, rfl⟩ := Int.eq_ofNat_of_zero_le (show 0 ≤ st by have := HST.out; omega)
        have wst : IntKind.u64.wrap (tn : Int) = (tn : Int) := by rw [IntKind.wrap_u64]; have := HST.out; omega
        have L50 := Lib.hid (lit_rowN wr 84 (nums [tn]) 1 (wr).heap.size rfl rfl)
        have Q50 := Lib.hid (X3.out.alloc (.cells (nums [tn]).toArray 84))
        go_wp2_with (first
          | (at_builtin
             refine app_n64 _ rfl (.tmp 76) (.tmp 80) rfl w1.heap.size u4 _ _ rfl Q50.out.nl (some ⟨(wr).heap.size, 0, none⟩) 1 1 [tn] rfl (fun e => by cases e) L50.out (by have := ll1; simp at this ⊢; omega) Q50.out.bel.size ?_
             intro v50 y50 hown hg
             have P50 := Lib.hid (Q50.out.appL hown hg)
             have L51 := Lib.hid (lit_rowN y50 3 (ints [4]) 1 (y50).heap.size rfl rfl)
             have Q51 := Lib.hid (P50.out.alloc (.cells (ints [4]).toArray 3))
             clear hown hg)
          | (at_builtin
             refine app_i64 _ rfl (.tmp 82) (.tmp 83) rfl w1.heap.size u5 _ _ rfl Q51.out.nw (some ⟨(y50).heap.size, 0, none⟩) 1 1 [4] rfl (fun e => by cases e) L51.out (by have := ll2; simp at this ⊢; omega) Q51.out.bel.size ?_
             intro v51 y51 hown hg
             have P51 := Lib.hid (Q51.out.appW hown hg)
             clear hown hg)
          | fail)
        have e1 : rL 4 s es sum (tn : Int) = hL 4 s j ++ esL 4 es ++ [tn] := by rw [rL, HLEN.out]; rfl
        have e2 : rW 4 j = Log.hW ++ esW 4 j ++ [4] := rfl
        have FZ := Lib.hid (show PAt w1 _ _ (rL 4 s es sum (tn : Int)) (rW 4 j) y51 by rw [e1, e2]; exact P51.out)
        clear X3
        obtain ⟨A0, c0, EV0, hr0, _, hc0, _, _⟩ := own_nums FZ.out.nl
        obtain ⟨A1, c1, EV1, hr1, _, hc1, _, _⟩ := own_ints FZ.out.nw
        subst EV0 EV1
        have HP := Lib.hid (ref_pack_any A0 A1 _ c0 _ c1 (rL 4 s es sum (tn : Int)) (rW 4 j) 256 y51 (by have := HLW.out; omega) H64.out hr0 hr1)
        generalize (rL 4 s es sum (tn : Int)).length = n0 at HP ⊢
        generalize (rW 4 j).length = n1 at HP ⊢
        obtain ⟨hf1, hf2⟩ := HF.out
        obtain ⟨pb, hpb⟩ : ∃ pb, packB (rL 4 s es sum (tn : Int)) (rW 4 j) 256 = pb := ⟨_, rfl⟩
        rw [HLEN.out, hpb] at hf1
        rw [HLEN.out] at hf2
        rw [hf2, hpb, hf1] at HP
        have HPB := Lib.hid hpb
        have HPL := Lib.hid hf1
        clear hf1 hf2 hpb hr0 hr1 hc0 hc1 HF H64
        refine HP.out.mono ?_
        rintro e w9 ⟨v9, rfl, hb9, ho9⟩
        have BW := Lib.hid (below_all FZ.out.bel FZ.out.bel.size hb9)
        have B9 := Lib.hid (below_all B1.out B1.out.size BW.out)
        have f1 := (CE.out _ BW.out).cell 1
        have O9 := Lib.hid (own_mono ho9 (Nat.le_trans (Nat.le_of_lt hlt1) FZ.out.bel.size))
        obtain ⟨A9, c9, rfl, _, _, _, _, _⟩ := own_slice ho9
        have HS := Lib.hid (ref_seal_row w.heap.size 256 c9 A9 pb (rS s) w9 HPL.out O9.out)
        clear hb9 ho9 HP FZ
        go_wp2_with fail
        refine HS.out.mono ?_
        rintro e w10 ⟨rfl, ho10, hg10⟩
        have O10 := Lib.hid ho10
        have B10 := Lib.hid (below_own O9.out B9.out (Nat.le_refl _) hg10)
        clear ho10 hg10
        go_wp2_with fail
        go_ret2
        refine ⟨_, rfl, B10.out, ?_⟩
        rw [HRB.out, HPB.out, sealB_length, HPL.out]
        exact O10.out
      · go_wp2_with fail
        have FZ := Lib.hid (show PAt w1 _ _ (rL k s es sum st) (rW k j) wr by
          have h2 : k ≠ 2 := by simpa using k2
          have h4 : k ≠ 4 := by simpa using k4
          rw [rL, rW, HLEN.out]; simpa [tL, tW, h2, h4] using X3.out)
        clear X3
        obtain ⟨A0, c0, EV0, hr0, _, hc0, _, _⟩ := own_nums FZ.out.nl
        obtain ⟨A1, c1, EV1, hr1, _, hc1, _, _⟩ := own_ints FZ.out.nw
        subst EV0 EV1
        have HP := Lib.hid (ref_pack_any A0 A1 _ c0 _ c1 (rL k s es sum st) (rW k j) 256 wr (by have := HLW.out; omega) H64.out hr0 hr1)
        generalize (rL k s es sum st).length = n0 at HP ⊢
        generalize (rW k j).length = n1 at HP ⊢
        obtain ⟨hf1, hf2⟩ := HF.out
        obtain ⟨pb, hpb⟩ : ∃ pb, packB (rL k s es sum st) (rW k j) 256 = pb := ⟨_, rfl⟩
        rw [HLEN.out, hpb] at hf1
        rw [HLEN.out] at hf2
        rw [hf2, hpb, hf1] at HP
        have HPB := Lib.hid hpb
        have HPL := Lib.hid hf1
        clear hf1 hf2 hpb hr0 hr1 hc0 hc1 HF H64
        refine HP.out.mono ?_
        rintro e w9 ⟨v9, rfl, hb9, ho9⟩
        have BW := Lib.hid (below_all FZ.out.bel FZ.out.bel.size hb9)
        have B9 := Lib.hid (below_all B1.out B1.out.size BW.out)
        have f1 := (CE.out _ BW.out).cell 1
        have O9 := Lib.hid (own_mono ho9 (Nat.le_trans (Nat.le_of_lt hlt1) FZ.out.bel.size))
        obtain ⟨A9, c9, rfl, _, _, _, _, _⟩ := own_slice ho9
        have HS := Lib.hid (ref_seal_row w.heap.size 256 c9 A9 pb (rS s) w9 HPL.out O9.out)
        clear hb9 ho9 HP FZ
        go_wp2_with fail
        refine HS.out.mono ?_
        rintro e w10 ⟨rfl, ho10, hg10⟩
        have O10 := Lib.hid ho10
        have B10 := Lib.hid (below_own O9.out B9.out (Nat.le_refl _) hg10)
        clear ho10 hg10
        go_wp2_with fail
        go_ret2
        refine ⟨_, rfl, B10.out, ?_⟩
        rw [HRB.out, HPB.out, sealB_length, HPL.out]
        exact O10.out
theorem logPackR_any (k s : Int) (A : Option Addr) (n c sum : Nat) (st : Int) (es : List Ent) (w : World) (hn : n ≤ 9223372036854775807) (hsum : sum < 4294967296) (hr : RowAt w A (n * 2) (ecells es)) :
    Calls Try.prog 35 #[.agg #[.int .i64 k, .int .i64 s, .slice A n c, .int .u32 (sum : Int), .int .i64 st]] w fun e w' => ∃ v, e = .returned (.tuple #[v, .int .i64 (rE k s es sum st)]) ∧ Below w.heap.size w w' ∧ w'.ownsRow w.heap.size 5 1 v (rB k s es sum st).length (bvl (rB k s es sum st)) := by
  cases hm : rMay k s es sum st
  · have e1 : rE k s es sum st = 22 := by simp [rE, hm]
    have e2 : rB k s es sum st = [] := by simp [rB, hm]
    rw [e1, e2]
    exact (logPackR_no k s A n c sum st es w hn hr hm).mono fun e w' ⟨he, hb⟩ => ⟨_, he, hb, World.ownsRow_nil _ _ _ _⟩
  · have e1 : rE k s es sum st = 0 := by simp [rE, hm]
    rw [e1]
    exact logPackR_in k s A n c sum st es w hn hsum hr hm
end Go.Proofs.Ytafonjnanfekkaa.Log

namespace Go.Proofs.Ytafonjnanfekkaa.Log
open Go.RowKit Go.Proofs.Ytafonjnanfekkaa.Wire Go.Proofs.Ytafonjnanfekkaa.Lay
set_option maxHeartbeats 8000000
set_option maxRecDepth 100000
set_option linter.unusedVariables false
set_option linter.unusedSimpArgs false

/-- Where the sum and the start are read matters to no record that may be. -/
theorem pos_same (bs : List UInt8) : uP bs = 11 ∨ (∀ sum st, rMay (uf bs 4 1) (uf bs 5 4) (uEs bs) sum st = false) ∨ (∀ p, uSum bs p = 0 ∧ uSt bs p = 0) := by
  by_cases h : uf bs 4 1 = 2 ∨ uf bs 4 1 = 4
  · by_cases hn : uN bs = 0
    · left; rw [uP, hn]; simp
    · right; left
      intro sum st
      have hl := uEs_length bs
      have : most (uf bs 4 1) = 0 := by rcases h with h | h <;> rw [h] <;> rfl
      simp only [rMay, head?, this, hl]
      have : decide ((0 : Int) < (uN bs : Int)) = true := by simp; omega
      simp [this]
      intro _ _ h0
      exact absurd h0 hn
  · right; right
    intro p
    rw [uSum, uSt, if_neg (fun e => h (.inl e)), if_neg (fun e => h (.inr e))]
    exact ⟨rfl, rfl⟩
theorem pos_may (bs : List UInt8) : uMay bs = rMay (uf bs 4 1) (uf bs 5 4) (uEs bs) (uSum bs 11) (uSt bs 11) ∧ uRB bs = rB (uf bs 4 1) (uf bs 5 4) (uEs bs) (uSum bs 11) (uSt bs 11) ∧ (uMay bs = true → uSum bs (uP bs) = uSum bs 11 ∧ uSt bs (uP bs) = uSt bs 11) := by
  rcases pos_same bs with h | h | h
  · rw [uMay, uRB, h]; exact ⟨rfl, rfl, fun _ => ⟨rfl, rfl⟩⟩
  · rw [uMay, uRB, h, h, rB, rB, h, h]; exact ⟨rfl, rfl, fun e => by cases e⟩
  · rw [uMay, uRB, (h (uP bs)).1, (h (uP bs)).2, (h 11).1, (h 11).2]; exact ⟨rfl, rfl, fun _ => ⟨rfl, rfl⟩⟩
theorem number7_ref (A : Option Addr) (len cap : Nat) (p n : Int) (bs : List UInt8) (w : World) (hl : len ≤ cap) (hc : cap ≤ 9223372036854775807) (hb : BytesAt w A len bs) (hn : n ≤ 4) :
    Calls Try.prog 80 #[.slice A len cap, .int .i64 p, .int .i64 n] w fun e w' => e = .returned (.int .i64 (uf bs p n)) ∧ w = w' := by
  have HG := Lib.hid (ref_get A len cap p n bs w hl hc hb)
  have hx := getX_lt bs p n hn
  have hu : ((getX bs p n : Nat) : Int) = uf bs p n := rfl
  have HU := Lib.hid hu
  generalize getX bs p n = y at *
  clear hb hu
  go_enter Try.func80, Try.ntmps80
  go_wp2_with (first | (go_at_call 98; refine HG.out.mono ?_; rintro e w' ⟨rfl, rfl⟩))
  go_ret
  exact ⟨ret_int HU.out, rfl⟩
/-- The result's place, the record that is read; nothing old has turned. -/
structure VAt (w : World) (cs : Array Value) (wr : World) : Prop where
  res : Blk wr w.heap.size 53 #[.int .i64 0, .int .i64 0, .slice none 0 0, .int .u32 0, .int .i64 0]
  rcd : Blk wr (w.heap.size + 1) 53 cs
  bel : Below w.heap.size w wr
theorem VAt.alloc {w wr : World} {cs : Array Value} (h : VAt w cs wr) (o : Obj) : VAt w cs (wr.alloc o) :=
  ⟨h.res.alloc o, h.rcd.alloc o, h.bel.alloc h.bel.size o⟩
theorem VAt.set_ {w wr : World} {cs : Array Value} (h : VAt w cs wr) (i : Nat) (u : Value) : VAt w (cs.setIfInBounds i u) (wr.setCell ⟨w.heap.size + 1, i, none⟩ u) :=
  ⟨h.res.far (p := ⟨w.heap.size + 1, i, none⟩) (by simp) u, h.rcd.set_ i u, h.bel.setCell (p := ⟨w.heap.size + 1, i, none⟩) (by simp) u⟩
theorem VAt.far {w wr : World} {g i : Nat} {cs cs' : Array Value} (h : VAt w cs wr) (hb : Blk wr g 116 cs') (hg : w.heap.size ≤ g) (u : Value) : VAt w cs (wr.setCell ⟨g, i, none⟩ u) :=
  ⟨h.res.far (p := ⟨g, i, none⟩) (blk_ne h.res hb (by decide)) u, h.rcd.far (p := ⟨g, i, none⟩) (blk_ne h.rcd hb (by decide)) u, h.bel.setCell (p := ⟨g, i, none⟩) hg u⟩
theorem VAt.row {w wr w' : World} {base n : Nat} {cs : Array Value} {v : Value} {xs : List Value} (h : VAt w cs wr) (hr : wr.ownsRow base 116 2 v n xs) (hbase : w.heap.size ≤ base) (hg : wr.grownBy w' v.ownBlock) : VAt w cs w' :=
  ⟨h.res.grown hg (own_blk_ne hr h.res (by decide)), h.rcd.grown hg (own_blk_ne hr h.rcd (by decide)), below_row h.bel hg (fun g e => Nat.le_trans hbase (hr.lt g e).1) h.bel.size⟩
theorem VAt.start {w : World} (k x : Int) : VAt w #[.int .i64 k, .int .i64 x, .slice none 0 0, .int .u32 0, .int .i64 0] ((w.alloc (.cells #[.int .i64 0, .int .i64 0, .slice none 0 0, .int .u32 0, .int .i64 0] 53)).alloc (.cells #[.int .i64 k, .int .i64 x, .slice none 0 0, .int .u32 0, .int .i64 0] 53)) := by
  obtain ⟨b0, b1, hbel, hsz⟩ := boxes2 w _ _ _ _ _ rfl
  exact ⟨b0, b1, hbel⟩
theorem logUnpackR_short (A : Option Addr) (len cap : Nat) (bs : List UInt8) (w : World) (hb : BytesAt w A len bs) (h256 : len ≠ 256) :
    Calls Try.prog 37 #[.slice A len cap] w fun e w' => ∃ v, e = .returned (.tuple #[.agg (uV bs v), .int .i64 (uE bs)]) ∧ Below w.heap.size w w' ∧ w'.ownsRow w.heap.size 116 2 v (uXs bs).length (ecells (uXs bs)) := by
  have huo : uOk bs = false := by
    cases h : uOk bs
    · rfl
    · exfalso
      simp only [uOk, Bool.and_eq_true, beq_iff_eq] at h
      have h1 := rB_len (show rMay _ _ _ _ _ = true from h.1) (uSum_lt _ _)
      have h2 : (uRB bs).length = 256 := h1
      rw [h.2] at h2
      have := hb.len; omega
  have UV := Lib.hid (show ∀ v, uV bs v = #[.int .i64 0, .int .i64 0, .slice none 0 0, .int .u32 0, .int .i64 0] from fun v => by simp [uV, huo])
  have UE := Lib.hid (show uE bs = 117 by simp [uE, huo])
  have UX := Lib.hid (show uXs bs = [] by simp [uXs, huo])
  have hne : ((len : Int) != 256) = true := by simp; omega
  have r0 := Blk.new w 53 #[.int .i64 0, .int .i64 0, .slice none 0 0, .int .u32 0, .int .i64 0]
  have R0 := Lib.hid r0
  have B0 := Lib.hid ((Below.refl w.heap.size w).alloc (Nat.le_refl _) (.cells #[.int .i64 0, .int .i64 0, .slice none 0 0, .int .u32 0, .int .i64 0] 53))
  have q0 := r0.cell 0
  have q1 := r0.cell 1
  have q2 := r0.cell 2
  have q3 := r0.cell 3
  have q4 := r0.cell 4
  have z0 := r0.frozen 0
  have z1 := r0.frozen 1
  have z2 := r0.frozen 2
  have z3 := r0.frozen 3
  have z4 := r0.frozen 4
  clear r0 huo hb h256
  go_enter Try.func37, Try.ntmps37
  go_wp2_with fail
  refine bodyPost_ret (v := .tuple #[.agg #[.int .i64 0, .int .i64 0, .slice none 0 0, .int .u32 0, .int .i64 0], .int .i64 117]) (by simp [results, Try.results37, go_sem, q0, q1, q2, q3, q4, z0, z1, z2, z3, z4]) rfl ⟨.slice none 0 0, by rw [UV.out, UE.out], ?_⟩
  rw [UX.out]
  exact ⟨B0.out, World.ownsRow_nil _ _ _ _⟩
theorem logUnpackR_in (A : Option Addr) (len cap : Nat) (bs : List UInt8) (w : World) (hl : len ≤ cap) (hc : cap ≤ 9223372036854775807) (hb : BytesAt w A len bs) (h256 : len = 256) :
    Calls Try.prog 37 #[.slice A len cap] w fun e w' => ∃ v, e = .returned (.tuple #[.agg (uV bs v), .int .i64 (uE bs)]) ∧ Below w.heap.size w w' ∧ w'.ownsRow w.heap.size 116 2 v (uXs bs).length (ecells (uXs bs)) := by
  subst h256
  have HB := Lib.hid hb
  obtain ⟨pm1, pm2, pm3⟩ := pos_may bs
  have PM1 := Lib.hid pm1
  have PM2 := Lib.hid pm2
  have PM3 := Lib.hid pm3
  have HN := Lib.hid (fun (w' : World) (h : Below w.heap.size w w') (p n : Int) (hn : n ≤ 4) => number7_ref A 256 cap p n bs w' hl hc (hb.below h) hn)
  have B0 := Lib.hid ((Below.refl w.heap.size w).alloc (Nat.le_refl _) (.cells #[.int .i64 0, .int .i64 0, .slice none 0 0, .int .u32 0, .int .i64 0] 53))
  have hne : (((256 : Nat) : Int) != 256) = false := by decide
  clear hb pm1 pm2 pm3
  go_enter Try.func37, Try.ntmps37
  go_wp2_with fail
  clear hne
  refine (HN.out _ B0.out 4 1 (by omega)).mono ?_
  rintro e w' ⟨rfl, rfl⟩
  go_wp2_with fail
  refine (HN.out _ B0.out 5 4 (by omega)).mono ?_
  rintro e w' ⟨rfl, rfl⟩
  obtain ⟨k, hk⟩ : ∃ k, uf bs 4 1 = k := ⟨_, rfl⟩
  obtain ⟨x, hx⟩ : ∃ x, uf bs 5 4 = x := ⟨_, rfl⟩
  rw [hk, hx]
  have HKK := Lib.hid hk
  have HXX := Lib.hid hx
  have V1 := Lib.hid (VAt.start (w := w) k x)
  clear hk hx B0
  go_wp2_with fail
  refine (HN.out _ V1.out.bel 9 2 (by omega)).mono ?_
  rintro e w' ⟨rfl, rfl⟩
  have hmin := uN_eq bs
  have hm61 := uN_le bs
  obtain ⟨m, hm⟩ : ∃ m, uN bs = m := ⟨_, rfl⟩
  rw [hm] at hmin hm61
  obtain ⟨m0, hm0⟩ : ∃ m0, uf bs 9 2 = m0 := ⟨_, rfl⟩
  rw [hm0] at hmin ⊢
  have HMM := Lib.hid hm
  clear hm hm0
  go_wp2_with fail
  go_loopw [6, 7, 8] (fun at_ i _ wr => ∃ (j : Nat) (v : Value), j ≤ m ∧ i = .int .i64 j ∧ at_ = .int .i64 (11 + stride k * j) ∧ VAt w #[.int .i64 k, .int .i64 x, v, .int .u32 0, .int .i64 0] wr ∧ wr.ownsRow w.heap.size 116 2 v j (ecells ((uEs bs).take j))) (fun _ i _ _ => m - (intOf i).toNat)
  case atStart => exact ⟨0, _, by omega, rfl, by simp, V1.out, World.ownsRow_nil _ _ _ _⟩
  case round =>
    obtain ⟨j, v, hj, rfl, rfl, hu, ho⟩ := hrel
    have X1 := Lib.hid hu
    have X2 := Lib.hid ho
    have hst : stride k = 4 ∨ stride k = 5 := by unfold stride; split <;> simp
    have hp0 : 0 ≤ 11 + stride k * j ∧ 11 + stride k * j ≤ 1000 := by rcases hst with h | h <;> rw [h] <;> omega
    clear hu ho
    by_cases hlt : j < m
    · have hd : (j : Int) < m0 := by omega
      have hd2 : (j : Int) < 61 := by omega
      have hwr := X1.out.bel.size
      obtain ⟨b, hb⟩ : ∃ b, uf bs (11 + stride k * j) 4 = b := ⟨_, rfl⟩
      have HBN := Lib.hid (HN.out wr X1.out.bel (11 + stride k * j) 4 (by omega))
      rw [hb] at HBN
      have U6 := Lib.hid (X1.out.alloc (.cells #[.int .i64 b, .bool false] 116))
      have O6 := Lib.hid (X2.out.alloc (.cells #[.int .i64 b, .bool false] 116))
      have E6 := Lib.hid (Blk.new wr 116 #[.int .i64 b, .bool false])
      have f0 : (wr.alloc (.cells #[.int .i64 b, .bool false] 116)).cell? ⟨w.heap.size + 1, 0, none⟩ = some (.int .i64 k) := U6.out.rcd.cell 0
      have htk : ∀ y : Bool, (k == 1 && uf bs (11 + stride k * j + 4) 1 == 1) = y → (uEs bs).take (j + 1) = (uEs bs).take j ++ [(b, y)] := fun y hy => by
        rw [uEs_take (by rw [HMM.out]; exact hlt), uEnt, HKK.out, hb, hy]
      have HTK := Lib.hid htk
      have fin : ∀ z : Int, z = 11 + stride k * j + stride k → Value.int .i64 z = .int .i64 (11 + stride k * ((j + 1 : Nat) : Int)) := fun z h => by
        rw [h]; congr 1; push_cast; rw [Int.mul_add]; omega
      have FIN := Lib.hid fin
      have hne : v.ownBlock ≠ some wr.heap.size := fun e => absurd (X2.out.lt _ e).2 (Nat.lt_irrefl _)
      have HNE := Lib.hid hne
      have wa : IntKind.i64.wrap (11 + stride k * j + 4) = 11 + stride k * j + 4 := by rw [IntKind.wrap_i64]; omega
      have wa2 : IntKind.i64.wrap (11 + stride k * j + 4 + 1) = 11 + stride k * j + 4 + 1 := by rw [IntKind.wrap_i64]; omega
      have XX1 := X1
      have XX2 := X2
      clear X1 X2 htk fin hb hne
      by_cases hk1 : k = 1
      · subst hk1
        have HYN := Lib.hid (HN.out _ U6.out.bel (11 + stride 1 * j + 4) 1 (by omega))
        obtain ⟨y, hy⟩ : ∃ y, (uf bs (11 + stride 1 * j + 4) 1 == 1) = y := ⟨_, rfl⟩
        have HY := Lib.hid (show ((1 : Int) == 1 && uf bs (11 + stride 1 * j + 4) 1 == 1) = y by rw [hy]; rfl)
        go_wp2_with fail
        refine HBN.out.mono ?_
        rintro e w' ⟨rfl, rfl⟩
        go_wp2_with fail
        refine HYN.out.mono ?_
        rintro e w' ⟨rfl, rfl⟩
        have U7 := Lib.hid (XX1.out.alloc (.cells #[.int .i64 b, .bool y] 116))
        have E7 := Lib.hid (Blk.new wr 116 #[.int .i64 b, .bool y])
        have O7 := Lib.hid (XX2.out.alloc (.cells #[.int .i64 b, .bool y] 116))
        have c6 := E6.out.cell 1
        have z6 := E6.out.frozen 1
        clear f0 E6 O6 U6 HYN HBN
        have f2 := U7.out.rcd.cell 2
        have e0 := E7.out.cell 0
        have e1 := E7.out.cell 1
        have L8 := Lib.hid (lit_rowN (wr.alloc (.cells #[.int .i64 b, .bool y] 116)) 116 (ecells [(b, y)]) 2 (wr.heap.size + 1) rfl (by simp))
        have O8 := Lib.hid (O7.out.alloc (.cells (ecells [(b, y)]).toArray 116))
        have U8 := Lib.hid (U7.out.alloc (.cells (ecells [(b, y)]).toArray 116))
        go_wp2_with (first
          | (at_builtin
             refine app_gen _ 51 116 (.agg #[.int .i64 0, .bool false]) 2 16 Try.underlying51 infoEntR rfl (by decide) rfl (.tmp 48) (.tmp 50) rfl w.heap.size v j (ecells ((uEs bs).take j)) rfl O8.out (some ⟨wr.heap.size + 1, 0, none⟩) 1 1 (ecells [(b, y)]) rfl (fun e => by cases e) L8.out (one_ecells _) (by unfold maxLen; omega) (by omega) U8.out.bel.size ?_
             intro v9 w9 hown9 hg9
             obtain ⟨g9, c9, cs9, rfl, _, _, _, _, _⟩ := own_formN hown9 (by omega)
             have U9 := Lib.hid (U8.out.row O8.out (Nat.le_refl _) hg9)
             have O9 := Lib.hid hown9
             clear hown9 hg9
             have z9 := U9.out.rcd.frozen 2
             have f9 := U9.out.rcd.cell 2)
          | fail)
        go_roundw
        case rel => exact ⟨j + 1, _, by omega, by go_num, FIN.out _ (by simp [stride]; omega), U9.out.set_ 2 _, by
          rw [HTK.out y HY, ecells_snoc]
          exact own_set_far O9.out U9.out.rcd (by decide) _⟩
        case measure => simp [intOf]; omega
      · have hk1' : (k == 1) = false := by simpa using hk1
        have HY := Lib.hid (show (k == 1 && uf bs (11 + stride k * j + 4) 1 == 1) = false by rw [hk1']; rfl)
        go_wp2_with fail
        refine HBN.out.mono ?_
        rintro e w' ⟨rfl, rfl⟩
        have U7 := U6
        have E7 := E6
        have O7 := O6
        have HK1 := Lib.hid hk1
        clear U6 O6 E6 hk1 HBN
        have f2 := U7.out.rcd.cell 2
        have e0 := E7.out.cell 0
        have e1 := E7.out.cell 1
        have L8 := Lib.hid (lit_rowN (wr.alloc (.cells #[.int .i64 b, .bool false] 116)) 116 (ecells [(b, false)]) 2 (wr.heap.size + 1) rfl (by simp))
        have O8 := Lib.hid (O7.out.alloc (.cells (ecells [(b, false)]).toArray 116))
        have U8 := Lib.hid (U7.out.alloc (.cells (ecells [(b, false)]).toArray 116))
        go_wp2_with (first
          | (at_builtin
             refine app_gen _ 51 116 (.agg #[.int .i64 0, .bool false]) 2 16 Try.underlying51 infoEntR rfl (by decide) rfl (.tmp 48) (.tmp 50) rfl w.heap.size v j (ecells ((uEs bs).take j)) rfl O8.out (some ⟨wr.heap.size + 1, 0, none⟩) 1 1 (ecells [(b, false)]) rfl (fun e => by cases e) L8.out (one_ecells _) (by unfold maxLen; omega) (by omega) U8.out.bel.size ?_
             intro v9 w9 hown9 hg9
             obtain ⟨g9, c9, cs9, rfl, _, _, _, _, _⟩ := own_formN hown9 (by omega)
             have U9 := Lib.hid (U8.out.row O8.out (Nat.le_refl _) hg9)
             have O9 := Lib.hid hown9
             clear hown9 hg9
             have z9 := U9.out.rcd.frozen 2
             have f9 := U9.out.rcd.cell 2)
          | fail)
        go_roundw
        case rel => exact ⟨j + 1, _, by omega, by go_num, FIN.out _ (by simp [stride, HK1.out]), U9.out.set_ 2 _, by
          rw [HTK.out false HY, ecells_snoc]
          exact own_set_far O9.out U9.out.rcd (by decide) _⟩
        case measure => simp [intOf]; omega
    · have hall := X2.out
      obtain rfl : j = m := by omega
      have hta := uEs_all bs
      rw [HMM.out] at hta
      rw [hta] at hall
      have O7 := Lib.hid hall
      have HSM := Lib.hid (show uSum bs 11 = if k = 2 then (uf bs 11 4).toNat else 0 by rw [uSum, HKK.out])
      have HSU := Lib.hid (show uSt bs 11 = if k = 4 then uf bs 11 4 else 0 by rw [uSt, HKK.out])
      have f0 := X1.out.rcd.cell 0
      have HSN := Lib.hid (HN.out wr X1.out.bel 11 4 (by omega))
      clear hall hta X2
      have kcs : k = 2 ∨ k = 4 ∨ (k == 2) = false ∧ (k == 4) = false := by
        by_cases h2 : k = 2
        · exact .inl h2
        · by_cases h4 : k = 4
          · exact .inr (.inl h4)
          · exact .inr (.inr ⟨by simpa using h2, by simpa using h4⟩)
      have ends : ¬ (j : Int) < m0 ∨ (j : Int) < m0 ∧ ¬ (j : Int) < 61 := by omega
      rcases kcs with rfl | rfl | ⟨k2, k4⟩ <;> rcases ends with hd | ⟨hd, hd2⟩
      · have ztl := uf_lt bs 11 4 (by omega)
        obtain ⟨zs, hzs⟩ := uf_nat bs 11 4
        have HSUM := Lib.hid (show uSum bs 11 = zs by rw [HSM.out]; simp [hzs])
        have HST := Lib.hid (show uSt bs 11 = 0 by rw [HSU.out]; simp)
        rw [hzs] at ztl HSN
        have wzs : IntKind.u32.wrap (zs : Int) = (zs : Int) := by rw [IntKind.wrap_u32]; omega
        have O8 := Lib.hid (own_set_far (i := 3) O7.out X1.out.rcd (by decide) (.int .u32 (zs : Int)))
        have U8 := Lib.hid (X1.out.set_ 3 (.int .u32 (zs : Int)))
        have t3 := X1.out.rcd.cell 3
        have y3 := X1.out.rcd.frozen 3
        clear O7 X1 hzs HSM HSU
        go_wp2_with fail
        refine HSN.out.mono ?_
        rintro e w' ⟨rfl, rfl⟩
        clear f0
        obtain ⟨Av, cv, rfl, hrv, _, _, _, _⟩ := own_sliceN O8.out
        have f0 := U8.out.rcd.cell 0
        have f1 := U8.out.rcd.cell 1
        have f2 := U8.out.rcd.cell 2
        have f3 := U8.out.rcd.cell 3
        have f4 := U8.out.rcd.cell 4
        have HP := Lib.hid (logPackR_any 2 x Av j cv zs (0) (uEs bs) (wr.setCell ⟨w.heap.size + 1, 3, none⟩ (.int .u32 (zs : Int))) (by omega) (by have := uSum_lt bs 11; have := HSUM.out; omega) hrv)
        have hum : uMay bs = rMay 2 x (uEs bs) zs (0) := by rw [PM1.out, HKK.out, HXX.out, HSUM.out, HST.out]
        have hub : uRB bs = rB 2 x (uEs bs) zs (0) := by rw [PM2.out, HKK.out, HXX.out, HSUM.out, HST.out]
        have HUM := Lib.hid hum
        have HUB := Lib.hid hub
        clear hrv hum hub
        go_wp2_with fail
        refine HP.out.mono ?_
        rintro e w10 ⟨v10, rfl, hb10, ho10⟩
        clear f0 f1 f2 f3 f4
        have B10 := Lib.hid (below_all U8.out.bel U8.out.bel.size hb10)
        have r10 := U8.out.res.belowAll hb10
        have c10 := U8.out.rcd.belowAll hb10
        have f0 := c10.cell 0
        have f1 := c10.cell 1
        have f2 := c10.cell 2
        have f3 := c10.cell 3
        have f4 := c10.cell 4
        have q0 := r10.cell 0
        have q1 := r10.cell 1
        have q2 := r10.cell 2
        have q3 := r10.cell 3
        have q4 := r10.cell 4
        have z0 := r10.frozen 0
        have z1 := r10.frozen 1
        have z2 := r10.frozen 2
        have z3 := r10.frozen 3
        have z4 := r10.frozen 4
        have OV10 := Lib.hid (own_belowN O8.out hb10)
        have HB10 := Lib.hid (HB.out.below B10.out)
        obtain ⟨A10, c10', rfl, hr10, _, _, _, _⟩ := own_slice ho10
        have R11 := Lib.hid hr10
        have C10 := Lib.hid c10
        have R9 := Lib.hid r10
        clear r10 c10 hb10 ho10 hr10 HP
        cases hmay : rMay 2 x (uEs bs) zs (0)
        · have huo : uOk bs = false := by rw [uOk, HUM.out, hmay]; rfl
          have UV := Lib.hid (show ∀ v, uV bs v = #[.int .i64 0, .int .i64 0, .slice none 0 0, .int .u32 0, .int .i64 0] from fun v => by simp [uV, huo])
          have UE := Lib.hid (show uE bs = 117 by simp [uE, huo])
          have UX := Lib.hid (show uXs bs = [] by simp [uXs, huo])
          have e1 : rE 2 x (uEs bs) zs (0) = 22 := by simp [rE, hmay]
          have R10 := R9
          have B11 := B10
          rw [e1]
          clear e1 huo hmay
          go_wp2_with fail
          refine bodyPost_ret (v := .tuple #[.agg #[.int .i64 0, .int .i64 0, .slice none 0 0, .int .u32 0, .int .i64 0], .int .i64 117]) (by simp [results, Try.results37, go_sem, q0, q1, q2, q3, q4, z0, z1, z2, z3, z4]) rfl ⟨.slice none 0 0, by rw [UV.out, UE.out], ?_⟩
          rw [UX.out]
          exact rec_end (E := 116) (Nat.le_refl _) R10.out B11.out (World.ownsRow_nil _ _ _ _) (by decide) _ _ _ _ _
        have e1 : rE 2 x (uEs bs) zs (0) = 0 := by simp [rE, hmay]
        rw [e1]
        have HEQ := Lib.hid (same_any A A10 256 (rB 2 x (uEs bs) zs (0)).length cap c10' bs (rB 2 x (uEs bs) zs (0)) w10 (by omega) HB10.out R11.out)
        cases hq : (bs == rB 2 x (uEs bs) zs (0))
        · have huo : uOk bs = false := by
            have : (rB 2 x (uEs bs) zs (0) == bs) = false := by rw [beq_eq_false_iff_ne] at hq ⊢; exact fun e => hq e.symm
            rw [uOk, HUB.out, this]; simp
          have UV := Lib.hid (show ∀ v, uV bs v = #[.int .i64 0, .int .i64 0, .slice none 0 0, .int .u32 0, .int .i64 0] from fun v => by simp [uV, huo])
          have UE := Lib.hid (show uE bs = 117 by simp [uE, huo])
          have UX := Lib.hid (show uXs bs = [] by simp [uXs, huo])
          rw [hq] at HEQ
          clear e1 huo hmay hq
          go_wp2_with fail
          refine HEQ.out.mono ?_
          rintro e w11 ⟨rfl, nq, rfl⟩
          have R10 := Lib.hid (R9.out.drewN nq)
          have B11 := Lib.hid (below_drewN B10.out nq)
          go_wp2_with fail
          refine bodyPost_ret (v := .tuple #[.agg #[.int .i64 0, .int .i64 0, .slice none 0 0, .int .u32 0, .int .i64 0], .int .i64 117]) (by simp [results, Try.results37, go_sem, q0, q1, q2, q3, q4, z0, z1, z2, z3, z4]) rfl ⟨.slice none 0 0, by rw [UV.out, UE.out], ?_⟩
          rw [UX.out]
          exact rec_end (E := 116) (Nat.le_refl _) R10.out B11.out (World.ownsRow_nil _ _ _ _) (by decide) _ _ _ _ _
        · have hq' : (rB 2 x (uEs bs) zs (0) == bs) = true := by rw [beq_iff_eq] at hq ⊢; exact hq.symm
          have huo : uOk bs = true := by rw [uOk, HUB.out, hq', HUM.out, hmay]; rfl
          obtain ⟨p3, p4⟩ := PM3.out (by rw [HUM.out, hmay])
          have UV := Lib.hid (show ∀ v, uV bs v = #[.int .i64 (2), .int .i64 x, v, .int .u32 (zs : Int), .int .i64 (0)] from fun v => by simp only [uV, huo, if_true, HKK.out, HXX.out, p3, p4, HSUM.out, HST.out]; try rfl)
          have UE := Lib.hid (show uE bs = 0 by simp [uE, huo])
          have UX := Lib.hid (show uXs bs = uEs bs by simp [uXs, huo])
          rw [hq] at HEQ
          have hlj : (uEs bs).length = j := by rw [uEs_length]; exact HMM.out
          have HLJ := Lib.hid hlj
          clear e1 huo hmay hq hq' hlj p3 p4
          go_wp2_with fail
          refine HEQ.out.mono ?_
          rintro e w11 ⟨rfl, nq, rfl⟩
          have R10 := Lib.hid (R9.out.drewN nq)
          have B11 := Lib.hid (below_drewN B10.out nq)
          have OV11 := Lib.hid (show (w10.drewN nq).ownsRow w.heap.size 116 2 (.slice Av j cv) j (ecells (uEs bs)) from OV10.out)
          go_wp2_with fail
          refine bodyPost_ret (v := .tuple #[.agg #[.int .i64 2, .int .i64 x, .slice Av j cv, .int .u32 (zs : Int), .int .i64 0], .int .i64 0]) (by simp [results, Try.results37, go_sem, q0, q1, q2, q3, q4, z0, z1, z2, z3, z4]) rfl ⟨_, by rw [UV.out, UE.out], ?_⟩
          rw [UX.out, HLJ.out]
          exact rec_end (E := 116) (Nat.le_refl _) R10.out B11.out OV11.out (by decide) _ _ _ _ _
      · have ztl := uf_lt bs 11 4 (by omega)
        obtain ⟨zs, hzs⟩ := uf_nat bs 11 4
        have HSUM := Lib.hid (show uSum bs 11 = zs by rw [HSM.out]; simp [hzs])
        have HST := Lib.hid (show uSt bs 11 = 0 by rw [HSU.out]; simp)
        rw [hzs] at ztl HSN
        have wzs : IntKind.u32.wrap (zs : Int) = (zs : Int) := by rw [IntKind.wrap_u32]; omega
        have O8 := Lib.hid (own_set_far (i := 3) O7.out X1.out.rcd (by decide) (.int .u32 (zs : Int)))
        have U8 := Lib.hid (X1.out.set_ 3 (.int .u32 (zs : Int)))
        have t3 := X1.out.rcd.cell 3
        have y3 := X1.out.rcd.frozen 3
        clear O7 X1 hzs HSM HSU
        go_wp2_with fail
        refine HSN.out.mono ?_
        rintro e w' ⟨rfl, rfl⟩
        clear f0
        obtain ⟨Av, cv, rfl, hrv, _, _, _, _⟩ := own_sliceN O8.out
        have f0 := U8.out.rcd.cell 0
        have f1 := U8.out.rcd.cell 1
        have f2 := U8.out.rcd.cell 2
        have f3 := U8.out.rcd.cell 3
        have f4 := U8.out.rcd.cell 4
        have HP := Lib.hid (logPackR_any 2 x Av j cv zs (0) (uEs bs) (wr.setCell ⟨w.heap.size + 1, 3, none⟩ (.int .u32 (zs : Int))) (by omega) (by have := uSum_lt bs 11; have := HSUM.out; omega) hrv)
        have hum : uMay bs = rMay 2 x (uEs bs) zs (0) := by rw [PM1.out, HKK.out, HXX.out, HSUM.out, HST.out]
        have hub : uRB bs = rB 2 x (uEs bs) zs (0) := by rw [PM2.out, HKK.out, HXX.out, HSUM.out, HST.out]
        have HUM := Lib.hid hum
        have HUB := Lib.hid hub
        clear hrv hum hub
        go_wp2_with fail
        refine HP.out.mono ?_
        rintro e w10 ⟨v10, rfl, hb10, ho10⟩
        clear f0 f1 f2 f3 f4
        have B10 := Lib.hid (below_all U8.out.bel U8.out.bel.size hb10)
        have r10 := U8.out.res.belowAll hb10
        have c10 := U8.out.rcd.belowAll hb10
        have f0 := c10.cell 0
        have f1 := c10.cell 1
        have f2 := c10.cell 2
        have f3 := c10.cell 3
        have f4 := c10.cell 4
        have q0 := r10.cell 0
        have q1 := r10.cell 1
        have q2 := r10.cell 2
        have q3 := r10.cell 3
        have q4 := r10.cell 4
        have z0 := r10.frozen 0
        have z1 := r10.frozen 1
        have z2 := r10.frozen 2
        have z3 := r10.frozen 3
        have z4 := r10.frozen 4
        have OV10 := Lib.hid (own_belowN O8.out hb10)
        have HB10 := Lib.hid (HB.out.below B10.out)
        obtain ⟨A10, c10', rfl, hr10, _, _, _, _⟩ := own_slice ho10
        have R11 := Lib.hid hr10
        have C10 := Lib.hid c10
        have R9 := Lib.hid r10
        clear r10 c10 hb10 ho10 hr10 HP
        cases hmay : rMay 2 x (uEs bs) zs (0)
        · have huo : uOk bs = false := by rw [uOk, HUM.out, hmay]; rfl
          have UV := Lib.hid (show ∀ v, uV bs v = #[.int .i64 0, .int .i64 0, .slice none 0 0, .int .u32 0, .int .i64 0] from fun v => by simp [uV, huo])
          have UE := Lib.hid (show uE bs = 117 by simp [uE, huo])
          have UX := Lib.hid (show uXs bs = [] by simp [uXs, huo])
          have e1 : rE 2 x (uEs bs) zs (0) = 22 := by simp [rE, hmay]
          have R10 := R9
          have B11 := B10
          rw [e1]
          clear e1 huo hmay
          go_wp2_with fail
          refine bodyPost_ret (v := .tuple #[.agg #[.int .i64 0, .int .i64 0, .slice none 0 0, .int .u32 0, .int .i64 0], .int .i64 117]) (by simp [results, Try.results37, go_sem, q0, q1, q2, q3, q4, z0, z1, z2, z3, z4]) rfl ⟨.slice none 0 0, by rw [UV.out, UE.out], ?_⟩
          rw [UX.out]
          exact rec_end (E := 116) (Nat.le_refl _) R10.out B11.out (World.ownsRow_nil _ _ _ _) (by decide) _ _ _ _ _
        have e1 : rE 2 x (uEs bs) zs (0) = 0 := by simp [rE, hmay]
        rw [e1]
        have HEQ := Lib.hid (same_any A A10 256 (rB 2 x (uEs bs) zs (0)).length cap c10' bs (rB 2 x (uEs bs) zs (0)) w10 (by omega) HB10.out R11.out)
        cases hq : (bs == rB 2 x (uEs bs) zs (0))
        · have huo : uOk bs = false := by
            have : (rB 2 x (uEs bs) zs (0) == bs) = false := by rw [beq_eq_false_iff_ne] at hq ⊢; exact fun e => hq e.symm
            rw [uOk, HUB.out, this]; simp
          have UV := Lib.hid (show ∀ v, uV bs v = #[.int .i64 0, .int .i64 0, .slice none 0 0, .int .u32 0, .int .i64 0] from fun v => by simp [uV, huo])
          have UE := Lib.hid (show uE bs = 117 by simp [uE, huo])
          have UX := Lib.hid (show uXs bs = [] by simp [uXs, huo])
          rw [hq] at HEQ
          clear e1 huo hmay hq
          go_wp2_with fail
          refine HEQ.out.mono ?_
          rintro e w11 ⟨rfl, nq, rfl⟩
          have R10 := Lib.hid (R9.out.drewN nq)
          have B11 := Lib.hid (below_drewN B10.out nq)
          go_wp2_with fail
          refine bodyPost_ret (v := .tuple #[.agg #[.int .i64 0, .int .i64 0, .slice none 0 0, .int .u32 0, .int .i64 0], .int .i64 117]) (by simp [results, Try.results37, go_sem, q0, q1, q2, q3, q4, z0, z1, z2, z3, z4]) rfl ⟨.slice none 0 0, by rw [UV.out, UE.out], ?_⟩
          rw [UX.out]
          exact rec_end (E := 116) (Nat.le_refl _) R10.out B11.out (World.ownsRow_nil _ _ _ _) (by decide) _ _ _ _ _
        · have hq' : (rB 2 x (uEs bs) zs (0) == bs) = true := by rw [beq_iff_eq] at hq ⊢; exact hq.symm
          have huo : uOk bs = true := by rw [uOk, HUB.out, hq', HUM.out, hmay]; rfl
          obtain ⟨p3, p4⟩ := PM3.out (by rw [HUM.out, hmay])
          have UV := Lib.hid (show ∀ v, uV bs v = #[.int .i64 (2), .int .i64 x, v, .int .u32 (zs : Int), .int .i64 (0)] from fun v => by simp only [uV, huo, if_true, HKK.out, HXX.out, p3, p4, HSUM.out, HST.out]; try rfl)
          have UE := Lib.hid (show uE bs = 0 by simp [uE, huo])
          have UX := Lib.hid (show uXs bs = uEs bs by simp [uXs, huo])
          rw [hq] at HEQ
          have hlj : (uEs bs).length = j := by rw [uEs_length]; exact HMM.out
          have HLJ := Lib.hid hlj
          clear e1 huo hmay hq hq' hlj p3 p4
          go_wp2_with fail
          refine HEQ.out.mono ?_
          rintro e w11 ⟨rfl, nq, rfl⟩
          have R10 := Lib.hid (R9.out.drewN nq)
          have B11 := Lib.hid (below_drewN B10.out nq)
          have OV11 := Lib.hid (show (w10.drewN nq).ownsRow w.heap.size 116 2 (.slice Av j cv) j (ecells (uEs bs)) from OV10.out)
          go_wp2_with fail
          refine bodyPost_ret (v := .tuple #[.agg #[.int .i64 2, .int .i64 x, .slice Av j cv, .int .u32 (zs : Int), .int .i64 0], .int .i64 0]) (by simp [results, Try.results37, go_sem, q0, q1, q2, q3, q4, z0, z1, z2, z3, z4]) rfl ⟨_, by rw [UV.out, UE.out], ?_⟩
          rw [UX.out, HLJ.out]
          exact rec_end (E := 116) (Nat.le_refl _) R10.out B11.out OV11.out (by decide) _ _ _ _ _
      · obtain ⟨zt, hzt⟩ : ∃ zt, uf bs 11 4 = zt := ⟨_, rfl⟩
        have HSUM := Lib.hid (show uSum bs 11 = 0 by rw [HSM.out]; simp)
        have HST := Lib.hid (show uSt bs 11 = zt by rw [HSU.out]; simp [hzt])
        rw [hzt] at HSN
        have O8 := Lib.hid (own_set_far (i := 4) O7.out X1.out.rcd (by decide) (.int .i64 zt))
        have U8 := Lib.hid (X1.out.set_ 4 (.int .i64 zt))
        have t3 := X1.out.rcd.cell 4
        have y3 := X1.out.rcd.frozen 4
        clear O7 X1 hzt HSM HSU
        go_wp2_with fail
        refine HSN.out.mono ?_
        rintro e w' ⟨rfl, rfl⟩
        clear f0
        obtain ⟨Av, cv, rfl, hrv, _, _, _, _⟩ := own_sliceN O8.out
        have f0 := U8.out.rcd.cell 0
        have f1 := U8.out.rcd.cell 1
        have f2 := U8.out.rcd.cell 2
        have f3 := U8.out.rcd.cell 3
        have f4 := U8.out.rcd.cell 4
        have HP := Lib.hid (logPackR_any 4 x Av j cv 0 (zt) (uEs bs) (wr.setCell ⟨w.heap.size + 1, 4, none⟩ (.int .i64 zt)) (by omega) (by have := uSum_lt bs 11; have := HSUM.out; omega) hrv)
        have hum : uMay bs = rMay 4 x (uEs bs) 0 (zt) := by rw [PM1.out, HKK.out, HXX.out, HSUM.out, HST.out]
        have hub : uRB bs = rB 4 x (uEs bs) 0 (zt) := by rw [PM2.out, HKK.out, HXX.out, HSUM.out, HST.out]
        have HUM := Lib.hid hum
        have HUB := Lib.hid hub
        clear hrv hum hub
        go_wp2_with fail
        refine HP.out.mono ?_
        rintro e w10 ⟨v10, rfl, hb10, ho10⟩
        clear f0 f1 f2 f3 f4
        have B10 := Lib.hid (below_all U8.out.bel U8.out.bel.size hb10)
        have r10 := U8.out.res.belowAll hb10
        have c10 := U8.out.rcd.belowAll hb10
        have f0 := c10.cell 0
        have f1 := c10.cell 1
        have f2 := c10.cell 2
        have f3 := c10.cell 3
        have f4 := c10.cell 4
        have q0 := r10.cell 0
        have q1 := r10.cell 1
        have q2 := r10.cell 2
        have q3 := r10.cell 3
        have q4 := r10.cell 4
        have z0 := r10.frozen 0
        have z1 := r10.frozen 1
        have z2 := r10.frozen 2
        have z3 := r10.frozen 3
        have z4 := r10.frozen 4
        have OV10 := Lib.hid (own_belowN O8.out hb10)
        have HB10 := Lib.hid (HB.out.below B10.out)
        obtain ⟨A10, c10', rfl, hr10, _, _, _, _⟩ := own_slice ho10
        have R11 := Lib.hid hr10
        have C10 := Lib.hid c10
        have R9 := Lib.hid r10
        clear r10 c10 hb10 ho10 hr10 HP
        cases hmay : rMay 4 x (uEs bs) 0 (zt)
        · have huo : uOk bs = false := by rw [uOk, HUM.out, hmay]; rfl
          have UV := Lib.hid (show ∀ v, uV bs v = #[.int .i64 0, .int .i64 0, .slice none 0 0, .int .u32 0, .int .i64 0] from fun v => by simp [uV, huo])
          have UE := Lib.hid (show uE bs = 117 by simp [uE, huo])
          have UX := Lib.hid (show uXs bs = [] by simp [uXs, huo])
          have e1 : rE 4 x (uEs bs) 0 (zt) = 22 := by simp [rE, hmay]
          have R10 := R9
          have B11 := B10
          rw [e1]
          clear e1 huo hmay
          go_wp2_with fail
          refine bodyPost_ret (v := .tuple #[.agg #[.int .i64 0, .int .i64 0, .slice none 0 0, .int .u32 0, .int .i64 0], .int .i64 117]) (by simp [results, Try.results37, go_sem, q0, q1, q2, q3, q4, z0, z1, z2, z3, z4]) rfl ⟨.slice none 0 0, by rw [UV.out, UE.out], ?_⟩
          rw [UX.out]
          exact rec_end (E := 116) (Nat.le_refl _) R10.out B11.out (World.ownsRow_nil _ _ _ _) (by decide) _ _ _ _ _
        have e1 : rE 4 x (uEs bs) 0 (zt) = 0 := by simp [rE, hmay]
        rw [e1]
        have HEQ := Lib.hid (same_any A A10 256 (rB 4 x (uEs bs) 0 (zt)).length cap c10' bs (rB 4 x (uEs bs) 0 (zt)) w10 (by omega) HB10.out R11.out)
        cases hq : (bs == rB 4 x (uEs bs) 0 (zt))
        · have huo : uOk bs = false := by
            have : (rB 4 x (uEs bs) 0 (zt) == bs) = false := by rw [beq_eq_false_iff_ne] at hq ⊢; exact fun e => hq e.symm
            rw [uOk, HUB.out, this]; simp
          have UV := Lib.hid (show ∀ v, uV bs v = #[.int .i64 0, .int .i64 0, .slice none 0 0, .int .u32 0, .int .i64 0] from fun v => by simp [uV, huo])
          have UE := Lib.hid (show uE bs = 117 by simp [uE, huo])
          have UX := Lib.hid (show uXs bs = [] by simp [uXs, huo])
          rw [hq] at HEQ
          clear e1 huo hmay hq
          go_wp2_with fail
          refine HEQ.out.mono ?_
          rintro e w11 ⟨rfl, nq, rfl⟩
          have R10 := Lib.hid (R9.out.drewN nq)
          have B11 := Lib.hid (below_drewN B10.out nq)
          go_wp2_with fail
          refine bodyPost_ret (v := .tuple #[.agg #[.int .i64 0, .int .i64 0, .slice none 0 0, .int .u32 0, .int .i64 0], .int .i64 117]) (by simp [results, Try.results37, go_sem, q0, q1, q2, q3, q4, z0, z1, z2, z3, z4]) rfl ⟨.slice none 0 0, by rw [UV.out, UE.out], ?_⟩
          rw [UX.out]
          exact rec_end (E := 116) (Nat.le_refl _) R10.out B11.out (World.ownsRow_nil _ _ _ _) (by decide) _ _ _ _ _
        · have hq' : (rB 4 x (uEs bs) 0 (zt) == bs) = true := by rw [beq_iff_eq] at hq ⊢; exact hq.symm
          have huo : uOk bs = true := by rw [uOk, HUB.out, hq', HUM.out, hmay]; rfl
          obtain ⟨p3, p4⟩ := PM3.out (by rw [HUM.out, hmay])
          have UV := Lib.hid (show ∀ v, uV bs v = #[.int .i64 (4), .int .i64 x, v, .int .u32 (0 : Int), .int .i64 (zt)] from fun v => by simp only [uV, huo, if_true, HKK.out, HXX.out, p3, p4, HSUM.out, HST.out]; try rfl)
          have UE := Lib.hid (show uE bs = 0 by simp [uE, huo])
          have UX := Lib.hid (show uXs bs = uEs bs by simp [uXs, huo])
          rw [hq] at HEQ
          have hlj : (uEs bs).length = j := by rw [uEs_length]; exact HMM.out
          have HLJ := Lib.hid hlj
          clear e1 huo hmay hq hq' hlj p3 p4
          go_wp2_with fail
          refine HEQ.out.mono ?_
          rintro e w11 ⟨rfl, nq, rfl⟩
          have R10 := Lib.hid (R9.out.drewN nq)
          have B11 := Lib.hid (below_drewN B10.out nq)
          have OV11 := Lib.hid (show (w10.drewN nq).ownsRow w.heap.size 116 2 (.slice Av j cv) j (ecells (uEs bs)) from OV10.out)
          go_wp2_with fail
          refine bodyPost_ret (v := .tuple #[.agg #[.int .i64 4, .int .i64 x, .slice Av j cv, .int .u32 (0 : Int), .int .i64 zt], .int .i64 0]) (by simp [results, Try.results37, go_sem, q0, q1, q2, q3, q4, z0, z1, z2, z3, z4]) rfl ⟨_, by rw [UV.out, UE.out], ?_⟩
          rw [UX.out, HLJ.out]
          exact rec_end (E := 116) (Nat.le_refl _) R10.out B11.out OV11.out (by decide) _ _ _ _ _
      · obtain ⟨zt, hzt⟩ : ∃ zt, uf bs 11 4 = zt := ⟨_, rfl⟩
        have HSUM := Lib.hid (show uSum bs 11 = 0 by rw [HSM.out]; simp)
        have HST := Lib.hid (show uSt bs 11 = zt by rw [HSU.out]; simp [hzt])
        rw [hzt] at HSN
        have O8 := Lib.hid (own_set_far (i := 4) O7.out X1.out.rcd (by decide) (.int .i64 zt))
        have U8 := Lib.hid (X1.out.set_ 4 (.int .i64 zt))
        have t3 := X1.out.rcd.cell 4
        have y3 := X1.out.rcd.frozen 4
        clear O7 X1 hzt HSM HSU
        go_wp2_with fail
        refine HSN.out.mono ?_
        rintro e w' ⟨rfl, rfl⟩
        clear f0
        obtain ⟨Av, cv, rfl, hrv, _, _, _, _⟩ := own_sliceN O8.out
        have f0 := U8.out.rcd.cell 0
        have f1 := U8.out.rcd.cell 1
        have f2 := U8.out.rcd.cell 2
        have f3 := U8.out.rcd.cell 3
        have f4 := U8.out.rcd.cell 4
        have HP := Lib.hid (logPackR_any 4 x Av j cv 0 (zt) (uEs bs) (wr.setCell ⟨w.heap.size + 1, 4, none⟩ (.int .i64 zt)) (by omega) (by have := uSum_lt bs 11; have := HSUM.out; omega) hrv)
        have hum : uMay bs = rMay 4 x (uEs bs) 0 (zt) := by rw [PM1.out, HKK.out, HXX.out, HSUM.out, HST.out]
        have hub : uRB bs = rB 4 x (uEs bs) 0 (zt) := by rw [PM2.out, HKK.out, HXX.out, HSUM.out, HST.out]
        have HUM := Lib.hid hum
        have HUB := Lib.hid hub
        clear hrv hum hub
        go_wp2_with fail
        refine HP.out.mono ?_
        rintro e w10 ⟨v10, rfl, hb10, ho10⟩
        clear f0 f1 f2 f3 f4
        have B10 := Lib.hid (below_all U8.out.bel U8.out.bel.size hb10)
        have r10 := U8.out.res.belowAll hb10
        have c10 := U8.out.rcd.belowAll hb10
        have f0 := c10.cell 0
        have f1 := c10.cell 1
        have f2 := c10.cell 2
        have f3 := c10.cell 3
        have f4 := c10.cell 4
        have q0 := r10.cell 0
        have q1 := r10.cell 1
        have q2 := r10.cell 2
        have q3 := r10.cell 3
        have q4 := r10.cell 4
        have z0 := r10.frozen 0
        have z1 := r10.frozen 1
        have z2 := r10.frozen 2
        have z3 := r10.frozen 3
        have z4 := r10.frozen 4
        have OV10 := Lib.hid (own_belowN O8.out hb10)
        have HB10 := Lib.hid (HB.out.below B10.out)
        obtain ⟨A10, c10', rfl, hr10, _, _, _, _⟩ := own_slice ho10
        have R11 := Lib.hid hr10
        have C10 := Lib.hid c10
        have R9 := Lib.hid r10
        clear r10 c10 hb10 ho10 hr10 HP
        cases hmay : rMay 4 x (uEs bs) 0 (zt)
        · have huo : uOk bs = false := by rw [uOk, HUM.out, hmay]; rfl
          have UV := Lib.hid (show ∀ v, uV bs v = #[.int .i64 0, .int .i64 0, .slice none 0 0, .int .u32 0, .int .i64 0] from fun v => by simp [uV, huo])
          have UE := Lib.hid (show uE bs = 117 by simp [uE, huo])
          have UX := Lib.hid (show uXs bs = [] by simp [uXs, huo])
          have e1 : rE 4 x (uEs bs) 0 (zt) = 22 := by simp [rE, hmay]
          have R10 := R9
          have B11 := B10
          rw [e1]
          clear e1 huo hmay
          go_wp2_with fail
          refine bodyPost_ret (v := .tuple #[.agg #[.int .i64 0, .int .i64 0, .slice none 0 0, .int .u32 0, .int .i64 0], .int .i64 117]) (by simp [results, Try.results37, go_sem, q0, q1, q2, q3, q4, z0, z1, z2, z3, z4]) rfl ⟨.slice none 0 0, by rw [UV.out, UE.out], ?_⟩
          rw [UX.out]
          exact rec_end (E := 116) (Nat.le_refl _) R10.out B11.out (World.ownsRow_nil _ _ _ _) (by decide) _ _ _ _ _
        have e1 : rE 4 x (uEs bs) 0 (zt) = 0 := by simp [rE, hmay]
        rw [e1]
        have HEQ := Lib.hid (same_any A A10 256 (rB 4 x (uEs bs) 0 (zt)).length cap c10' bs (rB 4 x (uEs bs) 0 (zt)) w10 (by omega) HB10.out R11.out)
        cases hq : (bs == rB 4 x (uEs bs) 0 (zt))
        · have huo : uOk bs = false := by
            have : (rB 4 x (uEs bs) 0 (zt) == bs) = false := by rw [beq_eq_false_iff_ne] at hq ⊢; exact fun e => hq e.symm
            rw [uOk, HUB.out, this]; simp
          have UV := Lib.hid (show ∀ v, uV bs v = #[.int .i64 0, .int .i64 0, .slice none 0 0, .int .u32 0, .int .i64 0] from fun v => by simp [uV, huo])
          have UE := Lib.hid (show uE bs = 117 by simp [uE, huo])
          have UX := Lib.hid (show uXs bs = [] by simp [uXs, huo])
          rw [hq] at HEQ
          clear e1 huo hmay hq
          go_wp2_with fail
          refine HEQ.out.mono ?_
          rintro e w11 ⟨rfl, nq, rfl⟩
          have R10 := Lib.hid (R9.out.drewN nq)
          have B11 := Lib.hid (below_drewN B10.out nq)
          go_wp2_with fail
          refine bodyPost_ret (v := .tuple #[.agg #[.int .i64 0, .int .i64 0, .slice none 0 0, .int .u32 0, .int .i64 0], .int .i64 117]) (by simp [results, Try.results37, go_sem, q0, q1, q2, q3, q4, z0, z1, z2, z3, z4]) rfl ⟨.slice none 0 0, by rw [UV.out, UE.out], ?_⟩
          rw [UX.out]
          exact rec_end (E := 116) (Nat.le_refl _) R10.out B11.out (World.ownsRow_nil _ _ _ _) (by decide) _ _ _ _ _
        · have hq' : (rB 4 x (uEs bs) 0 (zt) == bs) = true := by rw [beq_iff_eq] at hq ⊢; exact hq.symm
          have huo : uOk bs = true := by rw [uOk, HUB.out, hq', HUM.out, hmay]; rfl
          obtain ⟨p3, p4⟩ := PM3.out (by rw [HUM.out, hmay])
          have UV := Lib.hid (show ∀ v, uV bs v = #[.int .i64 (4), .int .i64 x, v, .int .u32 (0 : Int), .int .i64 (zt)] from fun v => by simp only [uV, huo, if_true, HKK.out, HXX.out, p3, p4, HSUM.out, HST.out]; try rfl)
          have UE := Lib.hid (show uE bs = 0 by simp [uE, huo])
          have UX := Lib.hid (show uXs bs = uEs bs by simp [uXs, huo])
          rw [hq] at HEQ
          have hlj : (uEs bs).length = j := by rw [uEs_length]; exact HMM.out
          have HLJ := Lib.hid hlj
          clear e1 huo hmay hq hq' hlj p3 p4
          go_wp2_with fail
          refine HEQ.out.mono ?_
          rintro e w11 ⟨rfl, nq, rfl⟩
          have R10 := Lib.hid (R9.out.drewN nq)
          have B11 := Lib.hid (below_drewN B10.out nq)
          have OV11 := Lib.hid (show (w10.drewN nq).ownsRow w.heap.size 116 2 (.slice Av j cv) j (ecells (uEs bs)) from OV10.out)
          go_wp2_with fail
          refine bodyPost_ret (v := .tuple #[.agg #[.int .i64 4, .int .i64 x, .slice Av j cv, .int .u32 (0 : Int), .int .i64 zt], .int .i64 0]) (by simp [results, Try.results37, go_sem, q0, q1, q2, q3, q4, z0, z1, z2, z3, z4]) rfl ⟨_, by rw [UV.out, UE.out], ?_⟩
          rw [UX.out, HLJ.out]
          exact rec_end (E := 116) (Nat.le_refl _) R10.out B11.out OV11.out (by decide) _ _ _ _ _
      · have HSUM := Lib.hid (show uSum bs 11 = 0 by rw [HSM.out, if_neg (by simpa using k2)])
        have HST := Lib.hid (show uSt bs 11 = 0 by rw [HSU.out, if_neg (by simpa using k4)])
        have O8 := O7
        have U8 := X1
        clear O7 X1 HSM HSU f0 HSN
        obtain ⟨Av, cv, rfl, hrv, _, _, _, _⟩ := own_sliceN O8.out
        have f0 := U8.out.rcd.cell 0
        have f1 := U8.out.rcd.cell 1
        have f2 := U8.out.rcd.cell 2
        have f3 := U8.out.rcd.cell 3
        have f4 := U8.out.rcd.cell 4
        have HP := Lib.hid (logPackR_any k x Av j cv 0 (0) (uEs bs) wr (by omega) (by have := uSum_lt bs 11; have := HSUM.out; omega) hrv)
        have hum : uMay bs = rMay k x (uEs bs) 0 (0) := by rw [PM1.out, HKK.out, HXX.out, HSUM.out, HST.out]
        have hub : uRB bs = rB k x (uEs bs) 0 (0) := by rw [PM2.out, HKK.out, HXX.out, HSUM.out, HST.out]
        have HUM := Lib.hid hum
        have HUB := Lib.hid hub
        clear hrv hum hub
        go_wp2_with fail
        refine HP.out.mono ?_
        rintro e w10 ⟨v10, rfl, hb10, ho10⟩
        clear f0 f1 f2 f3 f4
        have B10 := Lib.hid (below_all U8.out.bel U8.out.bel.size hb10)
        have r10 := U8.out.res.belowAll hb10
        have c10 := U8.out.rcd.belowAll hb10
        have f0 := c10.cell 0
        have f1 := c10.cell 1
        have f2 := c10.cell 2
        have f3 := c10.cell 3
        have f4 := c10.cell 4
        have q0 := r10.cell 0
        have q1 := r10.cell 1
        have q2 := r10.cell 2
        have q3 := r10.cell 3
        have q4 := r10.cell 4
        have z0 := r10.frozen 0
        have z1 := r10.frozen 1
        have z2 := r10.frozen 2
        have z3 := r10.frozen 3
        have z4 := r10.frozen 4
        have OV10 := Lib.hid (own_belowN O8.out hb10)
        have HB10 := Lib.hid (HB.out.below B10.out)
        obtain ⟨A10, c10', rfl, hr10, _, _, _, _⟩ := own_slice ho10
        have R11 := Lib.hid hr10
        have C10 := Lib.hid c10
        have R9 := Lib.hid r10
        clear r10 c10 hb10 ho10 hr10 HP
        cases hmay : rMay k x (uEs bs) 0 (0)
        · have huo : uOk bs = false := by rw [uOk, HUM.out, hmay]; rfl
          have UV := Lib.hid (show ∀ v, uV bs v = #[.int .i64 0, .int .i64 0, .slice none 0 0, .int .u32 0, .int .i64 0] from fun v => by simp [uV, huo])
          have UE := Lib.hid (show uE bs = 117 by simp [uE, huo])
          have UX := Lib.hid (show uXs bs = [] by simp [uXs, huo])
          have e1 : rE k x (uEs bs) 0 (0) = 22 := by simp [rE, hmay]
          have R10 := R9
          have B11 := B10
          rw [e1]
          clear e1 huo hmay
          go_wp2_with fail
          refine bodyPost_ret (v := .tuple #[.agg #[.int .i64 0, .int .i64 0, .slice none 0 0, .int .u32 0, .int .i64 0], .int .i64 117]) (by simp [results, Try.results37, go_sem, q0, q1, q2, q3, q4, z0, z1, z2, z3, z4]) rfl ⟨.slice none 0 0, by rw [UV.out, UE.out], ?_⟩
          rw [UX.out]
          exact rec_end (E := 116) (Nat.le_refl _) R10.out B11.out (World.ownsRow_nil _ _ _ _) (by decide) _ _ _ _ _
        have e1 : rE k x (uEs bs) 0 (0) = 0 := by simp [rE, hmay]
        rw [e1]
        have HEQ := Lib.hid (same_any A A10 256 (rB k x (uEs bs) 0 (0)).length cap c10' bs (rB k x (uEs bs) 0 (0)) w10 (by omega) HB10.out R11.out)
        cases hq : (bs == rB k x (uEs bs) 0 (0))
        · have huo : uOk bs = false := by
            have : (rB k x (uEs bs) 0 (0) == bs) = false := by rw [beq_eq_false_iff_ne] at hq ⊢; exact fun e => hq e.symm
            rw [uOk, HUB.out, this]; simp
          have UV := Lib.hid (show ∀ v, uV bs v = #[.int .i64 0, .int .i64 0, .slice none 0 0, .int .u32 0, .int .i64 0] from fun v => by simp [uV, huo])
          have UE := Lib.hid (show uE bs = 117 by simp [uE, huo])
          have UX := Lib.hid (show uXs bs = [] by simp [uXs, huo])
          rw [hq] at HEQ
          clear e1 huo hmay hq
          go_wp2_with fail
          refine HEQ.out.mono ?_
          rintro e w11 ⟨rfl, nq, rfl⟩
          have R10 := Lib.hid (R9.out.drewN nq)
          have B11 := Lib.hid (below_drewN B10.out nq)
          go_wp2_with fail
          refine bodyPost_ret (v := .tuple #[.agg #[.int .i64 0, .int .i64 0, .slice none 0 0, .int .u32 0, .int .i64 0], .int .i64 117]) (by simp [results, Try.results37, go_sem, q0, q1, q2, q3, q4, z0, z1, z2, z3, z4]) rfl ⟨.slice none 0 0, by rw [UV.out, UE.out], ?_⟩
          rw [UX.out]
          exact rec_end (E := 116) (Nat.le_refl _) R10.out B11.out (World.ownsRow_nil _ _ _ _) (by decide) _ _ _ _ _
        · have hq' : (rB k x (uEs bs) 0 (0) == bs) = true := by rw [beq_iff_eq] at hq ⊢; exact hq.symm
          have huo : uOk bs = true := by rw [uOk, HUB.out, hq', HUM.out, hmay]; rfl
          obtain ⟨p3, p4⟩ := PM3.out (by rw [HUM.out, hmay])
          have UV := Lib.hid (show ∀ v, uV bs v = #[.int .i64 (k), .int .i64 x, v, .int .u32 (0 : Int), .int .i64 (0)] from fun v => by simp only [uV, huo, if_true, HKK.out, HXX.out, p3, p4, HSUM.out, HST.out]; try rfl)
          have UE := Lib.hid (show uE bs = 0 by simp [uE, huo])
          have UX := Lib.hid (show uXs bs = uEs bs by simp [uXs, huo])
          rw [hq] at HEQ
          have hlj : (uEs bs).length = j := by rw [uEs_length]; exact HMM.out
          have HLJ := Lib.hid hlj
          clear e1 huo hmay hq hq' hlj p3 p4
          go_wp2_with fail
          refine HEQ.out.mono ?_
          rintro e w11 ⟨rfl, nq, rfl⟩
          have R10 := Lib.hid (R9.out.drewN nq)
          have B11 := Lib.hid (below_drewN B10.out nq)
          have OV11 := Lib.hid (show (w10.drewN nq).ownsRow w.heap.size 116 2 (.slice Av j cv) j (ecells (uEs bs)) from OV10.out)
          go_wp2_with fail
          refine bodyPost_ret (v := .tuple #[.agg #[.int .i64 k, .int .i64 x, .slice Av j cv, .int .u32 (0 : Int), .int .i64 0], .int .i64 0]) (by simp [results, Try.results37, go_sem, q0, q1, q2, q3, q4, z0, z1, z2, z3, z4]) rfl ⟨_, by rw [UV.out, UE.out], ?_⟩
          rw [UX.out, HLJ.out]
          exact rec_end (E := 116) (Nat.le_refl _) R10.out B11.out OV11.out (by decide) _ _ _ _ _
      · have HSUM := Lib.hid (show uSum bs 11 = 0 by rw [HSM.out, if_neg (by simpa using k2)])
        have HST := Lib.hid (show uSt bs 11 = 0 by rw [HSU.out, if_neg (by simpa using k4)])
        have O8 := O7
        have U8 := X1
        clear O7 X1 HSM HSU f0 HSN
        obtain ⟨Av, cv, rfl, hrv, _, _, _, _⟩ := own_sliceN O8.out
        have f0 := U8.out.rcd.cell 0
        have f1 := U8.out.rcd.cell 1
        have f2 := U8.out.rcd.cell 2
        have f3 := U8.out.rcd.cell 3
        have f4 := U8.out.rcd.cell 4
        have HP := Lib.hid (logPackR_any k x Av j cv 0 (0) (uEs bs) wr (by omega) (by have := uSum_lt bs 11; have := HSUM.out; omega) hrv)
        have hum : uMay bs = rMay k x (uEs bs) 0 (0) := by rw [PM1.out, HKK.out, HXX.out, HSUM.out, HST.out]
        have hub : uRB bs = rB k x (uEs bs) 0 (0) := by rw [PM2.out, HKK.out, HXX.out, HSUM.out, HST.out]
        have HUM := Lib.hid hum
        have HUB := Lib.hid hub
        clear hrv hum hub
        go_wp2_with fail
        refine HP.out.mono ?_
        rintro e w10 ⟨v10, rfl, hb10, ho10⟩
        clear f0 f1 f2 f3 f4
        have B10 := Lib.hid (below_all U8.out.bel U8.out.bel.size hb10)
        have r10 := U8.out.res.belowAll hb10
        have c10 := U8.out.rcd.belowAll hb10
        have f0 := c10.cell 0
        have f1 := c10.cell 1
        have f2 := c10.cell 2
        have f3 := c10.cell 3
        have f4 := c10.cell 4
        have q0 := r10.cell 0
        have q1 := r10.cell 1
        have q2 := r10.cell 2
        have q3 := r10.cell 3
        have q4 := r10.cell 4
        have z0 := r10.frozen 0
        have z1 := r10.frozen 1
        have z2 := r10.frozen 2
        have z3 := r10.frozen 3
        have z4 := r10.frozen 4
        have OV10 := Lib.hid (own_belowN O8.out hb10)
        have HB10 := Lib.hid (HB.out.below B10.out)
        obtain ⟨A10, c10', rfl, hr10, _, _, _, _⟩ := own_slice ho10
        have R11 := Lib.hid hr10
        have C10 := Lib.hid c10
        have R9 := Lib.hid r10
        clear r10 c10 hb10 ho10 hr10 HP
        cases hmay : rMay k x (uEs bs) 0 (0)
        · have huo : uOk bs = false := by rw [uOk, HUM.out, hmay]; rfl
          have UV := Lib.hid (show ∀ v, uV bs v = #[.int .i64 0, .int .i64 0, .slice none 0 0, .int .u32 0, .int .i64 0] from fun v => by simp [uV, huo])
          have UE := Lib.hid (show uE bs = 117 by simp [uE, huo])
          have UX := Lib.hid (show uXs bs = [] by simp [uXs, huo])
          have e1 : rE k x (uEs bs) 0 (0) = 22 := by simp [rE, hmay]
          have R10 := R9
          have B11 := B10
          rw [e1]
          clear e1 huo hmay
          go_wp2_with fail
          refine bodyPost_ret (v := .tuple #[.agg #[.int .i64 0, .int .i64 0, .slice none 0 0, .int .u32 0, .int .i64 0], .int .i64 117]) (by simp [results, Try.results37, go_sem, q0, q1, q2, q3, q4, z0, z1, z2, z3, z4]) rfl ⟨.slice none 0 0, by rw [UV.out, UE.out], ?_⟩
          rw [UX.out]
          exact rec_end (E := 116) (Nat.le_refl _) R10.out B11.out (World.ownsRow_nil _ _ _ _) (by decide) _ _ _ _ _
        have e1 : rE k x (uEs bs) 0 (0) = 0 := by simp [rE, hmay]
        rw [e1]
        have HEQ := Lib.hid (same_any A A10 256 (rB k x (uEs bs) 0 (0)).length cap c10' bs (rB k x (uEs bs) 0 (0)) w10 (by omega) HB10.out R11.out)
        cases hq : (bs == rB k x (uEs bs) 0 (0))
        · have huo : uOk bs = false := by
            have : (rB k x (uEs bs) 0 (0) == bs) = false := by rw [beq_eq_false_iff_ne] at hq ⊢; exact fun e => hq e.symm
            rw [uOk, HUB.out, this]; simp
          have UV := Lib.hid (show ∀ v, uV bs v = #[.int .i64 0, .int .i64 0, .slice none 0 0, .int .u32 0, .int .i64 0] from fun v => by simp [uV, huo])
          have UE := Lib.hid (show uE bs = 117 by simp [uE, huo])
          have UX := Lib.hid (show uXs bs = [] by simp [uXs, huo])
          rw [hq] at HEQ
          clear e1 huo hmay hq
          go_wp2_with fail
          refine HEQ.out.mono ?_
          rintro e w11 ⟨rfl, nq, rfl⟩
          have R10 := Lib.hid (R9.out.drewN nq)
          have B11 := Lib.hid (below_drewN B10.out nq)
          go_wp2_with fail
          refine bodyPost_ret (v := .tuple #[.agg #[.int .i64 0, .int .i64 0, .slice none 0 0, .int .u32 0, .int .i64 0], .int .i64 117]) (by simp [results, Try.results37, go_sem, q0, q1, q2, q3, q4, z0, z1, z2, z3, z4]) rfl ⟨.slice none 0 0, by rw [UV.out, UE.out], ?_⟩
          rw [UX.out]
          exact rec_end (E := 116) (Nat.le_refl _) R10.out B11.out (World.ownsRow_nil _ _ _ _) (by decide) _ _ _ _ _
        · have hq' : (rB k x (uEs bs) 0 (0) == bs) = true := by rw [beq_iff_eq] at hq ⊢; exact hq.symm
          have huo : uOk bs = true := by rw [uOk, HUB.out, hq', HUM.out, hmay]; rfl
          obtain ⟨p3, p4⟩ := PM3.out (by rw [HUM.out, hmay])
          have UV := Lib.hid (show ∀ v, uV bs v = #[.int .i64 (k), .int .i64 x, v, .int .u32 (0 : Int), .int .i64 (0)] from fun v => by simp only [uV, huo, if_true, HKK.out, HXX.out, p3, p4, HSUM.out, HST.out]; try rfl)
          have UE := Lib.hid (show uE bs = 0 by simp [uE, huo])
          have UX := Lib.hid (show uXs bs = uEs bs by simp [uXs, huo])
          rw [hq] at HEQ
          have hlj : (uEs bs).length = j := by rw [uEs_length]; exact HMM.out
          have HLJ := Lib.hid hlj
          clear e1 huo hmay hq hq' hlj p3 p4
          go_wp2_with fail
          refine HEQ.out.mono ?_
          rintro e w11 ⟨rfl, nq, rfl⟩
          have R10 := Lib.hid (R9.out.drewN nq)
          have B11 := Lib.hid (below_drewN B10.out nq)
          have OV11 := Lib.hid (show (w10.drewN nq).ownsRow w.heap.size 116 2 (.slice Av j cv) j (ecells (uEs bs)) from OV10.out)
          go_wp2_with fail
          refine bodyPost_ret (v := .tuple #[.agg #[.int .i64 k, .int .i64 x, .slice Av j cv, .int .u32 (0 : Int), .int .i64 0], .int .i64 0]) (by simp [results, Try.results37, go_sem, q0, q1, q2, q3, q4, z0, z1, z2, z3, z4]) rfl ⟨_, by rw [UV.out, UE.out], ?_⟩
          rw [UX.out, HLJ.out]
          exact rec_end (E := 116) (Nat.le_refl _) R10.out B11.out OV11.out (by decide) _ _ _ _ _
theorem logUnpackR_any (A : Option Addr) (len cap : Nat) (bs : List UInt8) (w : World) (hl : len ≤ cap) (hc : cap ≤ 9223372036854775807) (hb : BytesAt w A len bs) :
    Calls Try.prog 37 #[.slice A len cap] w fun e w' => ∃ v, e = .returned (.tuple #[.agg (uV bs v), .int .i64 (uE bs)]) ∧ Below w.heap.size w w' ∧ w'.ownsRow w.heap.size 116 2 v (uXs bs).length (ecells (uXs bs)) := by
  by_cases h : len = 256
  · exact logUnpackR_in A len cap bs w hl hc hb h
  · exact logUnpackR_short A len cap bs w hb h
end Go.Proofs.Ytafonjnanfekkaa.Log
