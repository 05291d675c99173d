
/-
  layer 7: the document's Need, right, magic, Escape, walked.
  THE WALK of hayrickref07.Lay.
-/
import Derived.Test.YtifamhmiibhohaaKR5N11
import Derived.Test.YtifamhmiibhohaaKR5N9
import Derived.Test.YtifamhmiibhohaaKR5N2
import Derived.Test.YtifamhmiibhohaaKR5N3
import Derived.Test.YtifamhmiibhohaaKR5N7
namespace Go.Proofs.Ytifamhmiibhohaa.Mem
open Go.RowKit Go.Proofs.Ytifamhmiibhohaa Go.Proofs.Ytifamhmiibhohaa.Wire Go.Proofs.Ytifamhmiibhohaa.Log
set_option maxHeartbeats 8000000
set_option maxRecDepth 100000
set_option linter.unusedVariables false
set_option linter.unusedSimpArgs false

theorem needR_any (a b : Int) (w : World) (ha : a ≤ 1000000000000000) (hb : b ≤ 1000000000000000) : Calls Try.prog 9 #[.int .i64 a, .int .i64 b] w fun e w' => e = .returned (.int .i64 (need a b)) ∧ w = w' := by
  have HN := Lib.hid (show need a b = max a 0 + (max a 0 + 48 - 1) / 48 + (max b 0 + 60 - 1) / 60 + 1 from rfl)
  obtain ⟨x, hx⟩ : ∃ x, max a 0 = x := ⟨_, rfl⟩
  obtain ⟨y, hy⟩ : ∃ y, max b 0 = y := ⟨_, rfl⟩
  have x0 : 0 ≤ x := by omega
  have y0 : 0 ≤ y := by omega
  have x1 : x ≤ 1000000000000000 := by omega
  have y1 : y ≤ 1000000000000000 := by omega
  rw [hx, hy] at HN
  obtain ⟨q, hq⟩ : ∃ q, x / 48 = q := ⟨_, rfl⟩
  obtain ⟨r, hr⟩ : ∃ r, x % 48 = r := ⟨_, rfl⟩
  obtain ⟨u, hu⟩ : ∃ u, y / 60 = u := ⟨_, rfl⟩
  obtain ⟨v, hv⟩ : ∃ v, y % 60 = v := ⟨_, rfl⟩
  have q2 : x.tdiv 48 = q := by rw [Int.tdiv_eq_ediv_of_nonneg x0]; exact hq
  have r2 : x.tmod 48 = r := by rw [Int.tmod_eq_emod_of_nonneg x0]; exact hr
  have u2 : y.tdiv 60 = u := by rw [Int.tdiv_eq_ediv_of_nonneg y0]; exact hu
  have v2 : y.tmod 60 = v := by rw [Int.tmod_eq_emod_of_nonneg y0]; exact hv
  have d1 : (x + 48 - 1) / 48 = q + if 0 < r then 1 else 0 := by split <;> omega
  have d2 : (y + 60 - 1) / 60 = u + if 0 < v then 1 else 0 := by split <;> omega
  have D := Lib.hid (And.intro d1 d2)
  have b1 : 0 ≤ q ∧ q ≤ 1000000000000000 ∧ 0 ≤ r ∧ r < 48 ∧ 0 ≤ u ∧ u ≤ 1000000000000000 ∧ 0 ≤ v ∧ v < 60 := by omega
  have w1 : IntKind.i64.wrap q = q := by rw [IntKind.wrap_i64]; omega
  have w2 : IntKind.i64.wrap r = r := by rw [IntKind.wrap_i64]; omega
  have w3 : IntKind.i64.wrap u = u := by rw [IntKind.wrap_i64]; omega
  have w4 : IntKind.i64.wrap v = v := by rw [IntKind.wrap_i64]; omega
  have w5 : IntKind.i64.wrap (x + q) = x + q := by rw [IntKind.wrap_i64]; omega
  have w6 : IntKind.i64.wrap (x + q + u) = x + q + u := by rw [IntKind.wrap_i64]; omega
  have w7 : IntKind.i64.wrap (x + q + u + 1) = x + q + u + 1 := by rw [IntKind.wrap_i64]; omega
  have w8 : IntKind.i64.wrap (x + q + u + 1 + 1) = x + q + u + 1 + 1 := by rw [IntKind.wrap_i64]; omega
  have w9 : IntKind.i64.wrap (x + q + u + 1 + 1 + 1) = x + q + u + 1 + 1 + 1 := by rw [IntKind.wrap_i64]; omega
  clear d1 d2 hq hr hu hv b1
  by_cases h1 : 0 < r
  · by_cases h2 : 0 < v
    · have HE := Lib.hid (show x + q + u + 1 + 1 + 1 = need a b by rw [HN.out, D.out.1, D.out.2, if_pos h1, if_pos h2]; omega)
      clear HN D
      go_enter Try.func9, Try.ntmps9
      go_wp2_with fail
      go_ret
      exact ⟨ret_int (by first | exact HE.out | (have := HE.out; omega)), rfl⟩
    · have HE := Lib.hid (show x + q + u + 1 + 1 = need a b by rw [HN.out, D.out.1, D.out.2, if_pos h1, if_neg h2]; omega)
      clear HN D
      go_enter Try.func9, Try.ntmps9
      go_wp2_with fail
      go_ret
      exact ⟨ret_int (by first | exact HE.out | (have := HE.out; omega)), rfl⟩
  · by_cases h2 : 0 < v
    · have HE := Lib.hid (show x + q + u + 1 + 1 = need a b by rw [HN.out, D.out.1, D.out.2, if_neg h1, if_pos h2]; omega)
      clear HN D
      go_enter Try.func9, Try.ntmps9
      go_wp2_with fail
      go_ret
      exact ⟨ret_int (by first | exact HE.out | (have := HE.out; omega)), rfl⟩
    · have HE := Lib.hid (show x + q + u + 1 = need a b by rw [HN.out, D.out.1, D.out.2, if_neg h1, if_neg h2]; omega)
      clear HN D
      go_enter Try.func9, Try.ntmps9
      go_wp2_with fail
      go_ret
      exact ⟨ret_int (by first | exact HE.out | (have := HE.out; omega)), rfl⟩
theorem magicR_any (w : World) : Calls Try.prog 36 #[] w fun e w' => e = .returned (.slice (some ⟨w.heap.size, 0, none⟩) 4 4) ∧ Below w.heap.size w w' ∧ BytesAt w' (some ⟨w.heap.size, 0, none⟩) 4 magicB := by
  go_enter Try.func36, Try.ntmps36
  go_wp2_with fail
  go_ret
  exact ⟨rfl, (Below.refl _ _).alloc (Nat.le_refl _) _, lit_bytes w magicB 4 rfl (by unfold maxLen; omega)⟩
theorem own_set0 {w : World} {base g n cap k : Nat} {bs : List UInt8} (h : w.ownsRow base 5 1 (.slice (some ⟨g, 0, none⟩) n cap) n (bvl (List.replicate k 0 ++ bs.drop k))) (hk : k < n) (hl : bs.length = n) :
    (w.setCell ⟨g, k, none⟩ (.int .u8 0)).ownsRow base 5 1 (.slice (some ⟨g, 0, none⟩) n cap) n (bvl (List.replicate (k + 1) 0 ++ bs.drop (k + 1))) := by
  have h2 := own_set h k 0
  have e : (List.replicate k (0 : UInt8) ++ bs.drop k).set k 0 = List.replicate (k + 1) 0 ++ bs.drop (k + 1) := by
    rw [List.set_append, if_neg (by simp), List.length_replicate, Nat.sub_self, List.drop_eq_getElem_cons (by omega), List.set_cons_zero, List.replicate_succ', List.append_assoc]
    rfl
  rw [e] at h2
  exact h2
theorem escapeR_any (A : Option Addr) (n c : Nat) (bs : List UInt8) (w : World) (hnc : n ≤ c) (hn : n ≤ 140737488351232) (hcc : c ≤ 9223372036854775807) (hA : A = none → n = 0 ∧ c = 0) (hb : BytesAt w A n bs) :
    Calls Try.prog 20 #[.slice A n c] w fun e w' => ∃ v, e = .returned (.tuple #[v, .bool (escIs bs)]) ∧ Below w.heap.size w w' ∧ w'.ownsRow w.heap.size 5 1 v n (bvl (escB bs)) := by
  have hlen := hb.len
  have HB := Lib.hid hb
  have HL := Lib.hid hlen
  have HA := Lib.hid hA
  have HI := Lib.hid (show escIs bs = (decide (4 ≤ n) && (bs.take 4 == magicB)) by rw [escIs, hlen])
  clear hb hlen hA
  by_cases h4 : n < 4
  · have h4i : (n : Int) < 4 := by omega
    have HX := Lib.hid (show escIs bs = false by rw [HI.out, decide_eq_false (by omega)]; rfl)
    have HO := Lib.hid (show escB bs = bs by rw [escB, HX.out]; rfl)
    go_enter Try.func20, Try.ntmps20
    go_wp2_with fail
    refine (copied_any A n c bs w hn HA.out HB.out).mono ?_
    rintro e w1 ⟨v1, rfl, ho1, hb1⟩
    have B1 := Lib.hid hb1
    have O1 := Lib.hid ho1
    clear hb1 ho1
    go_wp2_with fail
    go_quiet (fail)
    go_wp2_with fail
    go_ret2
    exact ⟨_, by rw [HX.out]; rfl, below_drewN B1.out _, by rw [HO.out]; exact O1.out⟩
  · have h4i : ¬ (n : Int) < 4 := by omega
    have h4d : decide ((n : Int) < 4) = false := decide_eq_false h4i
    have h4j : (4 : Int) ≤ (n : Int) := by omega
    have h4k : (4 : Int) ≤ (c : Int) := by omega
    have h4n : 4 ≤ c := by omega
    have H4 := Lib.hid (show decide (4 ≤ n) = true from decide_eq_true (by omega))
    obtain ⟨a, rfl⟩ : ∃ a, A = some a := by
      cases A with
      | none => exact absurd (HA.out rfl).1 (by omega)
      | some a => exact ⟨a, rfl⟩
    go_enter Try.func20, Try.ntmps20
    go_wp2_with fail
    refine (copied_any (some a) n c bs w hn HA.out HB.out).mono ?_
    rintro e w1 ⟨v1, rfl, ho1, hb1⟩
    obtain ⟨g1, c1, _, rfl, _, _, hc1, hc2, _⟩ := own_form ho1 (by omega)
    have hc64 : c1 ≤ 9223372036854775807 := by unfold maxLen at hc2; omega
    have B1 := Lib.hid hb1
    have O1 := Lib.hid ho1
    have Y1 := Lib.hid (HB.out.below hb1)
    clear hb1 ho1
    go_wp2_with fail
    refine region_mix [true, true, true, true, true, true, false, false] (S := fun _ => True) (by kernel_rfl) (by kernel_rfl) (fun _ _ d _ _ h => by cases d <;> exact h) trivial ?_
    iterate 6 (refine mix_take (v := ?_) (by kernel_rfl) ?_ (fun K hK => ?_); rotate_left; (· (intro w' hSw; (try dsimp only at hSw); go_simp; with_reducible rfl)); simp only [Act.put, List.setIfInBounds_toArray, List.set_cons_zero, List.set_cons_succ]; refine hK _ ?_; clear hK K)
    refine mix_do (E := False) (fun K hK => ?_) (by kernel_rfl)
    go_simp
    refine (magicR_any w1.drew).mono ?_
    rintro e w2 ⟨rfl, hb2, hy2⟩
    have B2 := Lib.hid (below_all B1.out.drew B1.out.size hb2)
    have O2 := Lib.hid (own_below O1.out.drew hb2)
    have HS := Lib.hid (same_any (some a) (some ⟨w1.drew.heap.size, 0, none⟩) 4 4 c 4 (bs.take 4) magicB w2 (by omega) ((Y1.out.drew.below hb2).take_ 4 (by omega)) hy2)
    clear hb2 hy2
    refine hK.out _ _ (trivial) ?_
    clear hK K
    try simp only [Act.put, List.setIfInBounds_toArray, List.set_cons_zero, List.set_cons_succ]
    refine mix_do (E := False) (fun K hK => ?_) (by kernel_rfl)
    go_simp
    refine HS.out.mono ?_
    rintro e w3 ⟨rfl, nq, rfl⟩
    have O3 := Lib.hid (show (w2.drewN nq).ownsRow w.heap.size 5 1 (.slice (some ⟨g1, 0, none⟩) n c1) n (bvl bs) from O2.out)
    have B3 := Lib.hid (below_drewN B2.out nq)
    refine hK.out _ _ (trivial) ?_
    clear hK K
    try simp only [Act.put, List.setIfInBounds_toArray, List.set_cons_zero, List.set_cons_succ]
    refine mix_still ?_
    iterate 2 (refine still_take (v := ?_) (by kernel_rfl) ?_ (fun K hK => ?_); rotate_left; (· (go_simp; with_reducible rfl)); simp only [Act.put, List.setIfInBounds_toArray, List.set_cons_zero, List.set_cons_succ]; refine hK _ ?_; clear hK K)
    refine still_end ?_
    clear B1 O1 Y1 O2 B2 HS
    generalize w2.drewN nq = w4 at *
    cases hi : (bs.take 4 == magicB)
    · have HX := Lib.hid (show escIs bs = false by rw [HI.out, hi]; simp)
      have HO := Lib.hid (show escB bs = bs by rw [escB, HX.out]; rfl)
      clear hi
      go_wp2_with fail
      go_ret2
      exact ⟨_, by rw [HX.out]; rfl, B3.out, by rw [HO.out]; exact O3.out⟩
    · have HX := Lib.hid (show escIs bs = true by rw [HI.out, hi, H4.out]; rfl)
      have HO := Lib.hid (show escB bs = [0, 0, 0, 0] ++ bs.drop 4 by rw [escB, HX.out]; rfl)
      have hg1 : w.heap.size ≤ g1 := (O3.out.lt g1 rfl).1
      clear hi
      go_wp2_with fail
      go_loopw [5] (fun ii wr => ∃ k : Nat, k ≤ 4 ∧ ii = .int .i64 k ∧ wr.ownsRow w.heap.size 5 1 (.slice (some ⟨g1, 0, none⟩) n c1) n (bvl (List.replicate k 0 ++ bs.drop k)) ∧ Below w.heap.size w wr) (fun ii _ => 4 - (intOf ii).toNat)
      case atStart => exact ⟨0, by omega, rfl, O3.out, B3.out⟩
      case round =>
        obtain ⟨k, hk, rfl, ho, hb⟩ := hrel
        have HO4 := Lib.hid ho
        have HB4 := Lib.hid hb
        clear ho hb
        by_cases hlt : k < 4
        · have hk0 : (0 : Int) ≤ (k : Int) := by omega
          have hk1 : (k : Int) < 4 := by omega
          have hk2 : (k : Int) < (n : Int) := by omega
          have hk3 : ((k : Int)).toNat = k := by omega
          obtain ⟨x, hx⟩ : ∃ x, wr.cell? ⟨g1, k, none⟩ = some x := by
            rw [HO4.out.cellAt k (by omega)]
            exact ⟨_, List.getElem?_eq_getElem (by have := HO4.out.1; omega)⟩
          have hz := HO4.out.frozenAt k
          have HS4 := Lib.hid (own_set0 HO4.out (by omega) HL.out)
          have HB5 := Lib.hid (HB4.out.setCell (p := ⟨g1, k, none⟩) hg1 (.int .u8 0))
          go_wp2_with fail
          go_roundw
          case rel => exact ⟨k + 1, by omega, by go_num, HS4.out, HB5.out⟩
          case measure => simp [intOf]; omega
        · obtain rfl : k = 4 := by omega
          have hk1 : ¬ ((4 : Nat) : Int) < 4 := by omega
          go_wp2_with fail
          go_ret2
          exact ⟨_, by rw [HX.out]; rfl, HB4.out, by rw [HO.out]; exact HO4.out⟩
/-- A transaction that may be, element by element. -/
def tHd (s : Int) (n m : Nat) : Bool := decide (1 ≤ s ∧ s ≤ 2147483647 ∧ n ≤ 4096 ∧ m ≤ 4096)
def wBad (w : Wt) : Bool := decide (w.1 < 0) || (decide (4096 ≤ w.1) || w.2.length != 256)
def nBad (n : Int) : Bool := decide (n < 0) || decide (4096 ≤ n)
def tRight (s : Int) (ws : List Wt) (rs : List Int) : Bool := tHd s ws.length rs.length && (!(ws.any wBad) && !(rs.any nBad))
theorem any_at_ {α : Type} {p : α → Bool} {l : List α} {i : Nat} {x : α} (h : l[i]? = some x) (hp : p x = true) : l.any p = true := List.any_eq_true.2 ⟨x, List.mem_of_getElem? h, hp⟩
theorem any_take_snoc {α : Type} {p : α → Bool} {l : List α} {i : Nat} {x : α} (h : l[i]? = some x) (h0 : (l.take i).any p = false) (hp : p x = false) : (l.take (i + 1)).any p = false := by
  rw [List.take_add_one, h]; simp [List.any_append, h0, hp]
theorem rightR_any (s : Int) (A R : Option Addr) (n c m d : Nat) (ws : List Wt) (rs : List Int) (w : World) (hw : WsIn w A ws) (hwl : ws.length = n) (hcm : n ≤ 9223372036854775807)
    (hr : RowAt w R m (ints rs)) (hdm : m ≤ 9223372036854775807) :
    Calls Try.prog 19 #[.int .i64 s, .slice A n c, .slice R m d] w fun e w' => e = .returned (.bool (tRight s ws rs)) ∧ w = w' := by
  have hrl : rs.length = m := by have := hr.len; simpa [ints] using this
  have HW := Lib.hid hw
  have HR := Lib.hid hr
  have HF := Lib.hid (show tHd s n m = false → Ending.returned (.bool false) = .returned (.bool (tRight s ws rs)) from fun h => by unfold tRight; rw [hwl, hrl, h]; rfl)
  have HT := Lib.hid (show tHd s n m = true → tRight s ws rs = (!(ws.any wBad) && !(rs.any nBad)) from fun h => by unfold tRight; rw [hwl, hrl, h]; rfl)
  clear hw hr
  by_cases h1 : s < 1
  · have HV := Lib.hid (HF.out (decide_eq_false (by omega)))
    clear HF HT
    go_enter Try.func19, Try.ntmps19
    go_wp2_with fail
    go_ret
    exact ⟨HV.out, rfl⟩
  by_cases h2 : 2147483647 < s
  · have HV := Lib.hid (HF.out (decide_eq_false (by omega)))
    clear HF HT
    go_enter Try.func19, Try.ntmps19
    go_wp2_with fail
    go_ret
    exact ⟨HV.out, rfl⟩
  by_cases h3 : (4096 : Int) < (n : Int)
  · have HV := Lib.hid (HF.out (decide_eq_false (by omega)))
    clear HF HT
    go_enter Try.func19, Try.ntmps19
    go_wp2_with fail
    go_ret
    exact ⟨HV.out, rfl⟩
  by_cases h4 : (4096 : Int) < (m : Int)
  · have HV := Lib.hid (HF.out (decide_eq_false (by omega)))
    clear HF HT
    go_enter Try.func19, Try.ntmps19
    go_wp2_with fail
    go_ret
    exact ⟨HV.out, rfl⟩
  have HE := Lib.hid (HT.out (decide_eq_true (by omega)))
  have HL := Lib.hid (And.intro hwl hrl)
  clear HF HT hwl hrl
  go_enter Try.func19, Try.ntmps19
  go_wp2_with fail
  clear h1 h2 h3 h4
  go_loopw [7] (fun ii wr => ∃ k : Nat, k ≤ n ∧ ii = .int .i64 k ∧ (ws.take k).any wBad = false ∧ w = wr) (fun ii _ => n - (intOf ii).toNat)
  case atStart => exact ⟨0, by omega, rfl, rfl, rfl⟩
  case round =>
    obtain ⟨k, hk, rfl, hany, rfl⟩ := hrel
    have X1 := Lib.hid hany
    clear hany
    by_cases hlt : k < n
    · have hk0 : (0 : Int) ≤ (k : Int) := by omega
      have hk1 : (k : Int) < (n : Int) := by omega
      obtain ⟨⟨b, x⟩, hx⟩ : ∃ y, ws[k]? = some y := ⟨_, List.getElem?_eq_getElem (by have := HL.out.1; omega)⟩
      obtain ⟨a, A2, n2, c2, rfl, k0, k1, hby, q1, q2, q3⟩ := HW.out k b x hx
      have hxl : x.length = n2 := hby.len
      have BAD := Lib.hid (show wBad (b, x) = true → Ending.returned (.bool false) = .returned (.bool (tRight s ws rs)) from fun h => by rw [HE.out, any_at_ hx h]; rfl)
      have HX := Lib.hid hx
      clear hx hby
      by_cases hb1 : b < 0
      · have HV := Lib.hid (BAD.out (by simp [wBad, hb1]))
        go_wp2_with fail
        go_ret
        exact ⟨HV.out, rfl⟩
      by_cases hb2 : 4096 ≤ b
      · have HV := Lib.hid (BAD.out (by simp [wBad, hb2]))
        go_wp2_with fail
        go_ret
        exact ⟨HV.out, rfl⟩
      by_cases hb3 : n2 = 256
      · subst hb3
        have hd : (((256 : Nat) : Int) != 256) = false := by decide
        have HV := Lib.hid (any_take_snoc HX.out X1.out (show wBad (b, x) = false by simp [wBad, hb1, hb2, hxl]))
        clear hxl BAD
        go_wp2_with fail
        go_roundw
        case rel => exact ⟨k + 1, by omega, by go_num, HV.out, by first | trivial | rfl⟩
        case measure => simp [intOf]; omega
      · have hd : ((n2 : Int) != 256) = true := by simp; omega
        have HV := Lib.hid (BAD.out (by simp [wBad, hxl, hb3]))
        clear hxl BAD
        go_wp2_with fail
        go_ret
        exact ⟨HV.out, rfl⟩
    · obtain rfl : k = n := by omega
      have hk1 : ¬ (k : Int) < (k : Int) := by omega
      have HA := Lib.hid (show ws.any wBad = false by have := X1.out; rwa [List.take_of_length_le (by have := HL.out.1; omega)] at this)
      go_wp2_with fail
      go_loopw [8] (fun ii w2 => ∃ j : Nat, j ≤ m ∧ ii = .int .i64 j ∧ (rs.take j).any nBad = false ∧ w = w2) (fun ii _ => m - (intOf ii).toNat)
      case atStart => exact ⟨0, by omega, rfl, rfl, rfl⟩
      case round =>
        obtain ⟨j, hj, rfl, hany, rfl⟩ := hrel
        have X2 := Lib.hid hany
        clear hany
        by_cases hlt : j < m
        · have hj0 : (0 : Int) ≤ (j : Int) := by omega
          have hj1 : (j : Int) < (m : Int) := by omega
          obtain ⟨a, z, rfl, hz, hc⟩ := HR.out.int_at hlt
          have BAD := Lib.hid (show nBad z = true → Ending.returned (.bool false) = .returned (.bool (tRight s ws rs)) from fun h => by rw [HE.out, any_at_ hz h]; simp)
          have HZ := Lib.hid hz
          clear hz
          by_cases hb1 : z < 0
          · have HV := Lib.hid (BAD.out (by simp [nBad, hb1]))
            go_wp2_with fail
            go_ret
            exact ⟨HV.out, rfl⟩
          by_cases hb2 : 4096 ≤ z
          · have HV := Lib.hid (BAD.out (by simp [nBad, hb2]))
            go_wp2_with fail
            go_ret
            exact ⟨HV.out, rfl⟩
          have HV := Lib.hid (any_take_snoc HZ.out X2.out (show nBad z = false by simp [nBad, hb1, hb2]))
          go_wp2_with fail
          go_roundw
          case rel => exact ⟨j + 1, by omega, by go_num, HV.out, by first | trivial | rfl⟩
          case measure => simp [intOf]; omega
        · obtain rfl : j = m := by omega
          have hk1 : ¬ (j : Int) < (j : Int) := by omega
          have HB := Lib.hid (show rs.any nBad = false by have := X2.out; rwa [List.take_of_length_le (by have := HL.out.2; omega)] at this)
          go_wp2_with fail
          go_ret
          exact ⟨by rw [HE.out, HA.out, HB.out]; rfl, rfl⟩
end Go.Proofs.Ytifamhmiibhohaa.Mem

namespace Go.Proofs.Ytifamhmiibhohaa.Mem
open Go.RowKit Go.Proofs.Ytifamhmiibhohaa Go.Proofs.Ytifamhmiibhohaa.Wire Go.Proofs.Ytifamhmiibhohaa.Log
set_option maxHeartbeats 16000000
set_option maxRecDepth 100000
set_option linter.unusedVariables false
set_option linter.unusedSimpArgs false

/-- The document's blocks so far. -/
structure RL (w wr : World) (col : Col) (b : Nat) (vo : Value) (vs : List Value) (bl : List (List UInt8)) : Prop where
  t : Tch 16 24 (fun _ => 0) col w wr
  r : Row wr col b 16 31 1 vo bl.length vs
  d : Dts wr col b vs bl
theorem RL.keep {w wr w' : World} {col col' : Col} {b lo hi : Nat} {vo : Value} {vs : List Value} {bl : List (List UInt8)} (h : RL w wr col b vo vs bl) (ht : Tch lo hi col col' wr w') (h1 : 17 ≤ lo) (h2 : hi ≤ 24 ∨ hi ≤ lo) : RL w w' col' b vo vs bl := by
  refine ⟨h.t.trans ?_, h.r.keep ht (by omega), h.d.keep ht (by omega)⟩
  rcases h2 with h2 | h2
  · exact ht.mono (by omega) h2
  · exact ht.any h2
theorem step_op {P : Program} {w : World} {ops : Array Oper} {o : Oper} {a : Act} {K : Act → World → Prop} {Q : Exit → Act → World → Prop} {E' : Prop} (hgd : o.guard = none) (h : o.wp P a w K Q) : if Region.wanted o (yielded ops a.tmps) = true then Oper.wp P o a w K Q else E' := by
  have hw : Region.wanted o (yielded ops a.tmps) = true := by simp [Region.wanted, hgd]
  rw [if_pos hw]
  exact h
theorem Dts.app {w : World} {a : Col} {B : Nat} {vs us : List Value} {bl cl : List (List UInt8)} (h : Dts w a B vs bl) (k : Dts w a B us cl) : Dts w a B (vs ++ us) (bl ++ cl) := by
  refine ⟨by simp [h.1, k.1], fun i u y h1 h2 => ?_⟩
  rcases Nat.lt_or_ge i vs.length with hi | hi
  · rw [List.getElem?_append_left hi] at h1
    rw [List.getElem?_append_left (by rw [← h.1]; exact hi)] at h2
    exact h.2 i u y h1 h2
  · rw [List.getElem?_append_right hi] at h1
    rw [List.getElem?_append_right (by rw [← h.1]; exact hi), ← h.1] at h2
    exact k.2 _ u y h1 h2
theorem row_bytes_ {w : World} {col : Col} {B r n : Nat} {v : Value} {x : List UInt8} (h : Row w col B r 5 1 v n (bvl x)) : ∃ (A : Option Addr) (c : Nat), v = .slice A n c ∧ BytesAt w A n x := by
  have ho := h.own
  obtain ⟨_, hh⟩ := h.own
  rcases hh with ⟨hv, hn⟩ | ⟨g, cap, cur, hv, _⟩
  · exact ⟨none, 0, by rw [hv, hn], by rw [hv, ← hn] at ho; exact BytesAt.of_own ho⟩
  · exact ⟨_, cap, hv, by rw [hv] at ho; exact BytesAt.of_own ho⟩
theorem tRight_w {s : Int} {ws : List Wt} {rs : List Int} (h : tRight s ws rs = true) : tHd s ws.length rs.length = true ∧ ws.any wBad = false ∧ rs.any nBad = false := by
  simp only [tRight, Bool.and_eq_true, Bool.not_eq_true'] at h
  exact h
theorem layR_no (s : Int) (A R : Option Addr) (n c m d : Nat) (ws : List Wt) (rs : List Int) (w : World) (hw : WsIn w A ws) (hwl : ws.length = n) (hcm : n ≤ 9223372036854775807)
    (hr : RowAt w R m (ints rs)) (hdm : m ≤ 9223372036854775807) (hno : tRight s ws rs = false) :
    Calls Try.prog 7 #[.int .i64 s, .slice A n c, .slice R m d] w fun e w' => e = .returned (.tuple #[.slice none 0 0, .int .i64 22]) ∧ w = w' := by
  have HR := Lib.hid (rightR_any s A R n c m d ws rs w hw hwl hcm hr hdm)
  rw [hno] at HR
  clear hw hr
  go_enter Try.func7, Try.ntmps7
  go_wp2_with fail
  refine HR.out.mono ?_
  rintro e w1 ⟨rfl, rfl⟩
  go_wp2_with fail
  go_ret2
  exact ⟨rfl, rfl⟩
theorem layR_main (s : Int) (A R : Option Addr) (n c m d : Nat) (ws : List Wt) (rs : List Int) (w : World) (hw : WsIn w A ws) (hwl : ws.length = n) (hnc : n ≤ c) (hcm : c ≤ 9223372036854775807)
    (hr : RowAt w R m (ints rs)) (hmd : m ≤ d) (hdm : d ≤ 9223372036854775807) (hyes : tRight s ws rs = true) (hok : tOk s ws rs = true) :
    Calls Try.prog 7 #[.int .i64 s, .slice A n c, .slice R m d] w fun e w' => Laid w s ws rs e w' := by
  have hrl : rs.length = m := by have := hr.len; simpa [ints] using this
  obtain ⟨o1, o2, o3, o4, o5⟩ := tOk_all hok
  have HRT := Lib.hid (rightR_any s A R n c m d ws rs w hw hwl (by omega) hr (by omega))
  rw [hyes] at HRT
  obtain ⟨b, hb⟩ : ∃ b, w.heap.size = b := ⟨_, rfl⟩
  obtain ⟨NW, hNW⟩ : ∃ N, nch 48 n = N := ⟨_, rfl⟩
  obtain ⟨NR, hNR⟩ : ∃ N, nch 60 m = N := ⟨_, rfl⟩
  have hn4 : n ≤ 4096 := by omega
  have hm4 : m ≤ 4096 := by omega
  have nw1 := nch_mul (k := 48) (n := n) (by omega)
  have nr1 := nch_mul (k := 60) (n := m) (by omega)
  have nw2 : nch 48 n ≤ 100 := by
    unfold nch
    have := Nat.div_le_div_right (c := 48) (show n + 48 - 1 ≤ 4143 by omega)
    omega
  have nr2 : nch 60 m ≤ 100 := by
    unfold nch
    have := Nat.div_le_div_right (c := 60) (show m + 60 - 1 ≤ 4155 by omega)
    omega
  rw [hwl] at o3
  rw [hrl] at o4
  rw [hNW] at nw1 nw2 o3
  rw [hNR] at nr1 nr2 o4
  have HW := Lib.hid hw
  have HR := Lib.hid hr
  have HOW := Lib.hid o3
  have HOR := Lib.hid o4
  have HL := Lib.hid (And.intro hwl hrl)
  have HNW := Lib.hid nw1
  have HNR := Lib.hid nr1
  have HB := Lib.hid hb
  clear hw hr hyes o1 o2 o3 o4 o5 nw1 nr1
  go_enter Try.func7, Try.ntmps7
  go_wp2_with fail
  refine HRT.out.mono ?_
  rintro e w1 ⟨rfl, rfl⟩
  go_wp2_with fail
  go_loopw [8, 9] (fun vv ii wr => ∃ (j : Nat) (col : Col) (vo : Value) (vs : List Value), vo = vv ∧ ii = .int .i64 ((j * 48 : Nat) : Int) ∧ j ≤ NW ∧ RL w wr col b vo vs ((List.range j).flatMap fun j => layW s (cutAt 48 ws j))) (fun _ ii _ => 5000 - (intOf ii).toNat)
  case atStart => exact ⟨0, fun _ => 0, _, [], rfl, rfl, by omega, ⟨Tch.refl _ _ _ _, Row.nil _ _ _ _ _ _, Dts.nil _ _ _⟩⟩
  case round =>
    obtain ⟨j, col, vo, vs, rfl, rfl, hj, hL⟩ := hrel
    have L0 := Lib.hid hL
    clear hL
    by_cases hlt : j < NW
    · have hjn : j * 48 < n := HNW.out.2 j hlt
      have hji : ((j * 48 : Nat) : Int) < (n : Int) := by omega
      obtain ⟨bl, hbl⟩ : ∃ bl, ((List.range j).flatMap fun j => layW s (cutAt 48 ws j)) = bl := ⟨_, rfl⟩
      have hbll : bl.length ≤ 5000 := by
        have h5 := flatW_n s ws j
        rw [hbl] at h5
        omega
      obtain ⟨e, he⟩ : ∃ e, min 48 (n - j * 48) = e := ⟨_, rfl⟩
      obtain ⟨p, hp⟩ : ∃ p, cutAt 48 ws j = p := ⟨_, rfl⟩
      have hpl : p.length = e := by rw [← hp, cutAt_len, HL.out.1, he]
      obtain ⟨q, hq⟩ : ∃ q, j * 48 = q := ⟨_, rfl⟩
      have he1 : 1 ≤ e ∧ e ≤ 48 := by omega
      have hpw : ∀ t : Nat, p[t]? = if t < 48 then ws[q + t]? else none := fun t => by
        rw [← hp, ← hq]; unfold cutAt; rw [List.getElem?_take]; split
        · rw [List.getElem?_drop]
        · rfl
      have HOK := Lib.hid (HOW.out j hlt)
      rw [hp] at HOK
      rw [hbl] at L0
      have HPW := Lib.hid hpw
      have HBL := Lib.hid (show ((List.range (j + 1)).flatMap fun j => layW s (cutAt 48 ws j)) = bl ++ [rB 1 s (wEnts p) 0 0] ++ (p.map fun w => escB w.2) by
        rw [List.range_succ, List.flatMap_append, hbl, List.flatMap_cons, List.flatMap_nil, List.append_nil, hp, layW, List.append_assoc]; rfl)
      have hjq : ((j + 1) * 48) = q + 48 := by omega
      have hq5 : q ≤ 5000 := by omega
      rw [hq] at hji
      have he' : min 48 (n - q) = e := by rw [← hq]; exact he
      obtain ⟨r0, hr0⟩ : ∃ r0, wr.heap.size = r0 := ⟨_, rfl⟩
      obtain ⟨y1, ey1⟩ : ∃ y, wr.alloc (.cells #[.int .i64 1, .int .i64 s, .slice none 0 0, .int .u32 0, .int .i64 0] 58) = y := ⟨_, rfl⟩
      obtain ⟨cy, ecy⟩ : ∃ cy, paint col r0 22 = cy := ⟨_, rfl⟩
      have ty : Tch 22 23 col cy wr y1 := by
        have t0 : Tch 22 23 col col wr y1 := by rw [← ey1]; exact (Tch.refl _ _ _ _).alloc _
        rw [← ecy]
        exact t0.paint (by omega) (by rw [← ey1]; simp; omega) (by omega)
      have L1 := Lib.hid (L0.out.keep ty (by omega) (by omega))
      have KR1 := Lib.hid (show Bk y1 cy b 22 r0 58 #[.int .i64 1, .int .i64 s, .slice none 0 0, .int .u32 0, .int .i64 0] from ⟨by rw [← ey1, ← hr0]; exact Blk.new _ _ _, by rw [← ecy, paint_self], by have := L0.out.t.size; omega⟩)
      have EY := Lib.hid ey1
      have ER := Lib.hid hr0
      rw [hq]
      clear hbl hp hpw ty ey1 ecy hq he L0
      go_wp2_with fail
      rw [EY.out]
      go_loopw [11, 12] (fun dd ii wz => ∃ (t u : Nat) (cr : Col) (vd ve : Value) (ds : List Value), vd = dd ∧ ii = .int .i64 (u : Int) ∧ q + t = u ∧ t ≤ e ∧ RL w wz cr b vo vs bl ∧ Bk wz cr b 22 r0 58 #[.int .i64 1, .int .i64 s, ve, .int .u32 0, .int .i64 0] ∧ Row wz cr b 20 31 1 vd t ds ∧ Dts wz cr b ds ((p.take t).map fun w => escB w.2) ∧ Row wz cr b 21 59 2 ve t (ecells (wEnts (p.take t)))) (fun _ ii _ => q + 48 - (intOf ii).toNat)
      case atStart => exact ⟨0, q, cy, _, _, [], rfl, rfl, by omega, by omega, L1.out, KR1.out, Row.nil _ _ _ _ _ _, Dts.nil _ _ _, Row.nil _ _ _ _ _ _⟩
      case round =>
        obtain ⟨t, u, cr, vd, ve, ds, rfl, rfl, hu, ht, g1, g3, g4, g5, g6⟩ := hrel
        have hbsz : b ≤ wr.heap.size := by have := g1.t.size; omega
        have hdl : ds.length = t := by have := g4.own.1; omega
        have w48 : IntKind.i64.wrap ((q : Int) + 48) = (q : Int) + 48 := by rw [IntKind.wrap_i64]; omega
        have G1 := Lib.hid g1
        have G3 := Lib.hid g3
        have G4 := Lib.hid g4
        have G5 := Lib.hid g5
        have G6 := Lib.hid g6
        clear g1 g3 g4 g5 g6
        by_cases hte : t < e
        · have hc1 : (u : Int) < (q : Int) + 48 := by omega
          have hc2 : (u : Int) < (n : Int) := by omega
          have hc3 : (0 : Int) ≤ (u : Int) := by omega
          have hc4 : ((u : Int)).toNat = u := by omega
          obtain ⟨⟨nn, bb⟩, hx⟩ : ∃ y, p[t]? = some y := ⟨_, List.getElem?_eq_getElem (by omega)⟩
          have hxw : ws[u]? = some (nn, bb) := by
            have := HPW.out t
            rw [if_pos (by omega), hx, hu] at this
            exact this.symm
          have hb256 : bb.length = 256 := by
            have h0 := HOK.out
            simp only [okW, Bool.and_eq_true, List.all_eq_true] at h0
            simpa using h0.1 _ (List.mem_of_getElem? hx)
          have htk : p.take (t + 1) = p.take t ++ [(nn, bb)] := by rw [List.take_add_one, hx]; rfl
          obtain ⟨a, A2, n2, c2, rfl, k0, k1, hby, q1, q2, q3⟩ := (HW.out.below (G1.out.t.below (Nat.le_refl _) (fun i _ => by omega))) u nn bb hxw
          obtain rfl : n2 = 256 := by have := hby.len; omega
          have HTK := Lib.hid htk
          have HES := Lib.hid (escapeR_any A2 256 c2 bb wr q1 (by omega) (by omega) q3 hby)
          obtain ⟨isE, hisE⟩ : ∃ isE, escIs bb = isE := ⟨_, rfl⟩
          rw [hisE] at HES
          have HIS := Lib.hid hisE
          clear hx hxw htk hby hisE
          go_wp2_with fail
          refine HES.out.mono ?_
          rintro e' y4 ⟨v4, rfl, b4, o4⟩
          obtain ⟨g4, cp4, _, rfl, hg4, _⟩ := own_form o4 (by omega)
          obtain ⟨cr4, ecr4⟩ : ∃ cr4, paint cr g4 1 = cr4 := ⟨_, rfl⟩
          obtain ⟨v0, hv0⟩ : ∃ v0, y4.drew = v0 := ⟨_, rfl⟩
          have t4 : Tch 16 16 cr cr4 wr v0 := by rw [← ecr4, ← hv0]; exact ((Tch.of_below b4).paint hg4 (o4.lt _ rfl).2 (by omega)).drew
          have D4 := Lib.hid (show Row v0 cr4 b 1 5 1 (.slice (some ⟨g4, 0, none⟩) 256 cp4) 256 (bvl (escB bb)) from ⟨by rw [← hv0]; exact own_mono o4 hbsz, fun g e => by injection e with e; subst e; rw [← ecr4, paint_self]⟩)
          have M1 := Lib.hid (G1.out.keep (t4.any (lo' := 17) (hi' := 17) (Nat.le_refl _)) (by omega) (by omega))
          have M3 := Lib.hid (G3.out.keep t4 (by omega))
          have M4 := Lib.hid (G4.out.keep t4 (by omega))
          have M5 := Lib.hid (G5.out.keep t4 (by omega))
          have M6 := Lib.hid (G6.out.keep t4 (by omega))
          have hk4 : v0.cell? (a.add (u * 2)) = some (.int .i64 nn) := by
            have hlt := World.block_lt_of_cell? _ _ k0
            rw [← hv0]
            exact (b4.cell hlt).trans k0
          have HV0 := Lib.hid hv0
          have HK4 := Lib.hid hk4
          have SK := Lib.hid (fun (W' : World) (h1 : Blk W' r0 58 #[.int .i64 1, .int .i64 s, ve, .int .u32 0, .int .i64 0]) (h2 : Below v0.heap.size v0 W') => show (fun w' : World => w'.cell? ⟨r0, 2, none⟩ = some ve ∧ w'.cell? (a.add (u * 2)) = some (.int .i64 nn)) W' from ⟨h1.cell 2, (h2.cell (World.block_lt_of_cell? _ _ HK4.out)).trans HK4.out⟩)
          have hb4 : b ≤ v0.heap.size := Nat.le_trans hbsz t4.size
          clear b4 o4 ecr4 t4 G1 G3 G4 G5 G6 HES k0 k1 hv0 hk4
          go_wp2_with fail
          have hNS := SK.out v0 M3.out.blk (Below.refl _ _)
          refine region_need_at (v := v0) (fun w' => w'.cell? ⟨r0, 2, none⟩ = some ve ∧ w'.cell? (a.add (u * 2)) = some (.int .i64 nn)) (fun i => i == 1 || (i == 4 || (i == 5 || (i == 6 || (i == 8 || i == 9))))) HV0.out (by kernel_rfl) ?_
          refine nw_free (i := 0) (v := ?_) rfl (by kernel_rfl) (fun _ _ d _ _ h => by cases d <;> exact h) (by kernel_rfl) ?_ (fun K hK => ?_); rotate_left; (· (intro w'; go_simp; with_reducible rfl)); simp only [Act.put, List.setIfInBounds_toArray, List.set_cons_zero, List.set_cons_succ]; refine hK _ ?_; clear hK K
          refine nw_free (i := 2) (v := ?_) rfl (by kernel_rfl) (fun _ _ d _ _ h => by cases d <;> exact h) (by kernel_rfl) ?_ (fun K hK => ?_); rotate_left; (· (intro w'; go_simp; with_reducible rfl)); simp only [Act.put, List.setIfInBounds_toArray, List.set_cons_zero, List.set_cons_succ]; refine hK _ ?_; clear hK K
          refine nw_free (i := 3) (v := ?_) rfl (by kernel_rfl) (fun _ _ d _ _ h => by cases d <;> exact h) (by kernel_rfl) ?_ (fun K hK => ?_); rotate_left; (· (intro w'; go_simp; with_reducible rfl)); simp only [Act.put, List.setIfInBounds_toArray, List.set_cons_zero, List.set_cons_succ]; refine hK _ ?_; clear hK K
          refine nw_free (i := 7) (v := ?_) rfl (by kernel_rfl) (fun _ _ d _ _ h => by cases d <;> exact h) (by kernel_rfl) ?_ (fun K hK => ?_); rotate_left; (· (intro w'; go_simp; with_reducible rfl)); simp only [Act.put, List.setIfInBounds_toArray, List.set_cons_zero, List.set_cons_succ]; refine hK _ ?_; clear hK K
          refine nw_take (i := 1) (v := ?_) rfl (by kernel_rfl) (by kernel_rfl) (fun _ _ d _ _ h => by cases d <;> exact h) (by exact hNS) (by kernel_rfl) ?_ (fun K hK => ?_); rotate_left; (· (intro w' hSw; (try dsimp only at hSw); go_simp; with_reducible rfl)); simp only [Act.put, List.setIfInBounds_toArray, List.set_cons_zero, List.set_cons_succ]; refine hK _ ?_; clear hK K
          refine nw_take (i := 4) (v := ?_) rfl (by kernel_rfl) (by kernel_rfl) (fun _ _ d _ _ h => by cases d <;> exact h) (by exact hNS) (by kernel_rfl) ?_ (fun K hK => ?_); rotate_left; (· (intro w' hSw; (try dsimp only at hSw); go_simp; with_reducible rfl)); simp only [Act.put, List.setIfInBounds_toArray, List.set_cons_zero, List.set_cons_succ]; refine hK _ ?_; clear hK K
          refine nw_take (i := 5) (v := ?_) rfl (by kernel_rfl) (by kernel_rfl) (fun _ _ d _ _ h => by cases d <;> exact h) (by exact hNS) (by kernel_rfl) ?_ (fun K hK => ?_); rotate_left; (· (intro w' hSw; (try dsimp only at hSw); go_simp; with_reducible rfl)); simp only [Act.put, List.setIfInBounds_toArray, List.set_cons_zero, List.set_cons_succ]; refine hK _ ?_; clear hK K
          refine nw_take (i := 6) (v := ?_) rfl (by kernel_rfl) (by kernel_rfl) (fun _ _ d _ _ h => by cases d <;> exact h) (by exact hNS) (by kernel_rfl) ?_ (fun K hK => ?_); rotate_left; (· (intro w' hSw; (try dsimp only at hSw); go_simp; with_reducible rfl)); simp only [Act.put, List.setIfInBounds_toArray, List.set_cons_zero, List.set_cons_succ]; refine hK _ ?_; clear hK K
          refine nw_take (i := 8) (v := ?_) rfl (by kernel_rfl) (by kernel_rfl) (fun _ _ d _ _ h => by cases d <;> exact h) (by exact hNS) (by kernel_rfl) ?_ (fun K hK => ?_); rotate_left; (· (intro w' hSw; (try dsimp only at hSw); go_simp; with_reducible rfl)); simp only [Act.put, List.setIfInBounds_toArray, List.set_cons_zero, List.set_cons_succ]; refine hK _ ?_; clear hK K
          clear hNS
          refine nw_one (i := 9) (E := False) rfl (by kernel_rfl) (fun K hK => ?_) (by kernel_rfl)
          go_simp
          obtain ⟨y5, ey5⟩ : ∃ y, v0.alloc (.cells #[.int .i64 nn, .bool isE] 59) = y := ⟨_, rfl⟩
          have b5 : Below v0.heap.size v0 y5 := ey5 ▸ (Below.refl v0.heap.size v0).alloc (Nat.le_refl _) _
          have t5 : Tch 16 16 cr4 cr4 v0 y5 := Tch.of_below b5
          have X5 := Lib.hid (show RowAt y5 (some ⟨v0.heap.size, 0, none⟩) (1 * 2) [.int .i64 nn, .bool isE] by rw [← ey5]; exact lit_rowN v0 59 [.int .i64 nn, .bool isE] (1 * 2) v0.heap.size rfl rfl)
          have N1 := Lib.hid (M1.out.keep (t5.any (lo' := 17) (hi' := 17) (Nat.le_refl _)) (by omega) (by omega))
          have N3 := Lib.hid (M3.out.keep t5 (by omega))
          have N4 := Lib.hid (M4.out.keep t5 (by omega))
          have N5 := Lib.hid ((M5.out.snoc D4.out).keep t5 (by omega))
          have N6 := Lib.hid (M6.out.keep t5 (by omega))
          have ND := Lib.hid (D4.out.keep t5 (by omega))
          have hb5 : b ≤ y5.heap.size := Nat.le_trans hb4 t5.size
          rw [ey5]
          refine hK.out _ _ (fun _ => SK.out _ N3.out.blk b5) ?_
          clear hK K
          try simp only [Act.put, List.setIfInBounds_toArray, List.set_cons_zero, List.set_cons_succ]
          clear b5 t5 M1 M3 M4 M5 M6 D4 ey5
          refine nw_one (i := 10) (E := False) rfl (by kernel_rfl) (fun K hK => ?_) (by kernel_rfl)
          refine step_op rfl ?_
          refine app_op y5 56 59 (.agg #[.int .i64 0, .bool false]) 2 16 Try.underlying56 infoEntR rfl (by decide) (.tmp 62) (.tmp 70) rfl cr4 b 21 21 22 ve t (ecells (wEnts (p.take t))) rfl N6.out ⟨by omega, by omega⟩ ⟨v0.heap.size, 0, none⟩ 1 1 [.int .i64 nn, .bool isE] rfl X5.out (by intro u hu; simp at hu; rcases hu with rfl | rfl <;> rfl) (by unfold maxLen; omega) (by omega) hb5 ?_
          intro ve6 y6 cr6 r6 t6 k6
          obtain ⟨g6, cp6, _, rfl, _⟩ := own_formN r6.own (by omega)
          have O1 := Lib.hid (N1.out.keep (t6.mono (lo' := 17) (hi' := 24) (by omega) (by omega)) (by omega) (by omega))
          have O3 := Lib.hid (N3.out.keep t6 (by omega))
          have O4 := Lib.hid (N4.out.keep t6 (by omega))
          have O5 := Lib.hid (N5.out.keep t6 (by omega))
          have O6 := Lib.hid (show Row y6 cr6 b 21 59 2 (.slice (some ⟨g6, 0, none⟩) (t + 1) cp6) (t + 1) (ecells (wEnts (p.take (t + 1)))) by
            rw [HTK.out, wEnts, List.map_append, ecells, List.flatMap_append]
            show Row y6 cr6 b 21 59 2 (.slice (some ⟨g6, 0, none⟩) (t + 1) cp6) (t + 1) (_ ++ [.int .i64 nn, .bool (escIs bb)])
            rw [HIS.out]; exact r6)
          have OD := Lib.hid (ND.out.keep t6 (by omega))
          have hb6 : b ≤ y6.heap.size := Nat.le_trans hb5 t6.size
          refine hK.out _ _ ((fun h => absurd h (by decide))) ?_
          clear hK K
          try simp only [Act.put, List.setIfInBounds_toArray, List.set_cons_zero, List.set_cons_succ]
          clear r6 t6 k6 N1 N3 N4 N5 N6 ND X5
          have c6 := O3.out.blk.cell 2
          have z6 := O3.out.blk.frozen 2
          refine nw_one (i := 11) (E := False) rfl (by kernel_rfl) (fun K hK => ?_) (by kernel_rfl)
          go_simp
          refine hK.out _ _ ((fun h => absurd h (by decide))) ?_
          clear hK K
          try simp only [Act.put, List.setIfInBounds_toArray, List.set_cons_zero, List.set_cons_succ]
          refine nw_one (i := 12) (E := False) rfl (by kernel_rfl) (fun K hK => ?_) (by kernel_rfl)
          go_simp
          obtain ⟨y7, ey7⟩ : ∃ y, y6.setCell ⟨r0, 2, none⟩ (.slice (some ⟨g6, 0, none⟩) (t + 1) cp6) = y := ⟨_, rfl⟩
          rw [ey7]
          have t7 : Tch 22 23 cr6 cr6 y6 y7 := by rw [← ey7]; exact (Tch.refl _ _ _ _).setCell (p := ⟨r0, 2, none⟩) (by have := O3.out.c; show 22 ≤ cr6 r0 ∧ cr6 r0 < 23; omega) _
          have P1 := Lib.hid (O1.out.keep t7 (by omega) (by omega))
          have P3 := Lib.hid (show Bk y7 cr6 b 22 r0 58 #[.int .i64 1, .int .i64 s, .slice (some ⟨g6, 0, none⟩) (t + 1) cp6, .int .u32 0, .int .i64 0] by rw [← ey7]; exact O3.out.set 2 _)
          have P4 := Lib.hid (O4.out.keep t7 (by omega))
          have P5 := Lib.hid (show Dts y7 cr6 b (ds ++ [.slice (some ⟨g4, 0, none⟩) 256 cp4]) ((p.take (t + 1)).map fun w => escB w.2) by
            rw [HTK.out, List.map_append]
            exact O5.out.keep t7 (by omega))
          have P6 := Lib.hid (O6.out.keep t7 (by omega))
          have PD := Lib.hid (OD.out.keep t7 (by omega))
          have hb7 : b ≤ y7.heap.size := Nat.le_trans hb6 t7.size
          refine hK.out _ _ ((fun h => absurd h (by decide))) ?_
          clear hK K
          try simp only [Act.put, List.setIfInBounds_toArray, List.set_cons_zero, List.set_cons_succ]
          refine nw_end (by kernel_rfl) ?_
          clear c6 z6 t7 O1 O3 O4 O5 O6 OD ey7
          obtain ⟨y8, ey8⟩ : ∃ y, y7.alloc (.cells #[.slice (some ⟨g4, 0, none⟩) 256 cp4] 31) = y := ⟨_, rfl⟩
          have t8 : Tch 16 16 cr6 cr6 y7 y8 := by rw [← ey8]; exact (Tch.refl _ _ _ _).alloc _
          have X8 := Lib.hid (show RowAt y8 (some ⟨y7.heap.size, 0, none⟩) (1 * 1) [.slice (some ⟨g4, 0, none⟩) 256 cp4] by rw [← ey8]; exact lit_rowN y7 31 [.slice (some ⟨g4, 0, none⟩) 256 cp4] (1 * 1) y7.heap.size rfl rfl)
          have Q1 := Lib.hid (P1.out.keep (t8.any (lo' := 17) (hi' := 17) (Nat.le_refl _)) (by omega) (by omega))
          have Q3 := Lib.hid (P3.out.keep t8 (by omega))
          have Q4 := Lib.hid (P4.out.keep t8 (by omega))
          have Q5 := Lib.hid (P5.out.keep t8 (by omega))
          have Q6 := Lib.hid (P6.out.keep t8 (by omega))
          have hb8 : b ≤ y8.heap.size := Nat.le_trans hb7 t8.size
          have EY8 := Lib.hid ey8
          clear ey8 t8 P1 P3 P4 P5 P6 PD
          have wu : IntKind.i64.wrap ((u : Int) + 1) = ((u + 1 : Nat) : Int) := by rw [IntKind.wrap_i64]; omega
          go_wp2_with (first
            | (at_builtin
               rw [EY8.out]
               refine app_row y8 25 31 (.slice none 0 0) 1 24 Try.underlying25 infoRows rfl (by decide) rfl (.tmp 73) (.tmp 75) rfl cr6 b 20 20 21 vd t ds rfl Q4.out ⟨by omega, by omega⟩ (some ⟨y7.heap.size, 0, none⟩) 1 1 [.slice (some ⟨g4, 0, none⟩) 256 cp4] rfl (fun e => by cases e) X8.out (by intro u hu; simp at hu; subst hu; rfl) (by unfold maxLen; omega) (by omega) hb8 ?_
               intro vd9 y9 cr9 r9 t9 _
               have R1 := Lib.hid (Q1.out.keep (t9.mono (lo' := 17) (hi' := 24) (by omega) (by omega)) (by omega) (by omega))
               have R3 := Lib.hid (Q3.out.keep t9 (by omega))
               have R4 := Lib.hid r9
               have R5 := Lib.hid (Q5.out.keep t9 (by omega))
               have R6 := Lib.hid (Q6.out.keep t9 (by omega))
               clear r9 t9 Q1 Q3 Q4 Q5 Q6 X8)
            | fail)
          go_roundw
          case rel => first | exact ⟨t + 1, u + 1, cr9, _, _, _, rfl, by first | rfl | go_num, by omega, by omega, R1.out, R3.out, R4.out, R5.out, R6.out⟩ | ((repeat apply Exists.intro); refine ⟨?_, rfl⟩; exact ⟨t + 1, u + 1, cr9, _, _, _, rfl, by first | rfl | go_num, by omega, by omega, R1.out, R3.out, R4.out, R5.out, R6.out⟩)
          case measure => simp [intOf]; omega
        · obtain rfl : t = e := by omega
          have hpt : p.take t = p := List.take_of_length_le (by omega)
          have hend : ¬ (u : Int) < (q : Int) + 48 ∨ (u : Int) < (q : Int) + 48 ∧ ¬ (u : Int) < (n : Int) := by omega
          have g5 := G5.out
          have g6 := G6.out
          rw [hpt] at g5 g6
          obtain ⟨gd, cd, _, rfl, _, _, hcd1, hcd2, _⟩ := own_form G4.out.own (by omega)
          obtain ⟨ge, ce, _, rfl, _, _, hce1, hce2, _⟩ := own_formN g6.own (by omega)
          have hmy : rMay 1 s (wEnts p) 0 0 = true := by
            have h0 := HOK.out
            simp only [okW, Bool.and_eq_true] at h0
            exact h0.2
          have HPK := Lib.hid (logPackR_any 1 s (some ⟨ge, 0, none⟩) t ce 0 0 (wEnts p) wr (by omega) (by omega) (rowAt_ownN g6.own))
          rw [show ((0 : Nat) : Int) = 0 from rfl, show rE 1 s (wEnts p) 0 0 = 0 by simp [rE, hmy]] at HPK
          obtain ⟨rc, hrc⟩ : ∃ rc, rB 1 s (wEnts p) 0 0 = rc := ⟨_, rfl⟩
          have hrl2 : rc.length = 256 := by rw [← hrc]; exact rB_len hmy (show 0 < 4294967296 by omega)
          rw [hrc, hrl2] at HPK
          have HRC := Lib.hid hrc
          have l0 : wr.cell? ⟨r0, 0, none⟩ = some (.int .i64 1) := G3.out.blk.cell 0
          have l1 : wr.cell? ⟨r0, 1, none⟩ = some (.int .i64 s) := G3.out.blk.cell 1
          have l2 : wr.cell? ⟨r0, 2, none⟩ = some (.slice (some ⟨ge, 0, none⟩) t ce) := G3.out.blk.cell 2
          have l3 : wr.cell? ⟨r0, 3, none⟩ = some (.int .u32 0) := G3.out.blk.cell 3
          have l4 : wr.cell? ⟨r0, 4, none⟩ = some (.int .i64 0) := G3.out.blk.cell 4
          have GD := Lib.hid g5
          clear g5 g6 G5 G6 hrc hmy hpt
          rcases hend with hc1 | ⟨hc1, hc2⟩
          all_goals
            go_wp2_with fail
            refine HPK.out.mono ?_
            rintro e' y2 ⟨v2, rfl, b2, o2⟩
            obtain ⟨g2, cp2, _, rfl, hg2, _⟩ := own_form o2 (by omega)
            obtain ⟨cr2, ecr2⟩ : ∃ cr2, paint cr g2 1 = cr2 := ⟨_, rfl⟩
            obtain ⟨y3, ey3⟩ : ∃ y, y2.alloc (.cells #[.slice (some ⟨g2, 0, none⟩) 256 cp2] 31) = y := ⟨_, rfl⟩
            have t2 : Tch 16 16 cr cr2 wr y2 := by rw [← ecr2]; exact (Tch.of_below b2).paint hg2 (o2.lt _ rfl).2 (by omega)
            have t3 : Tch 16 16 cr2 cr2 y2 y3 := by rw [← ey3]; exact (Tch.refl _ _ _ _).alloc _
            have D2 : Row y2 cr2 b 1 5 1 (.slice (some ⟨g2, 0, none⟩) 256 cp2) 256 (bvl rc) := ⟨own_mono o2 hbsz, fun g e => by injection e with e; subst e; rw [← ecr2, paint_self]⟩
            have D3 := Lib.hid (D2.keep t3 (by omega))
            have X3 := Lib.hid (show RowAt y3 (some ⟨y2.heap.size, 0, none⟩) (1 * 1) [.slice (some ⟨g2, 0, none⟩) 256 cp2] by rw [← ey3]; exact lit_rowN y2 31 [.slice (some ⟨g2, 0, none⟩) 256 cp2] (1 * 1) y2.heap.size rfl rfl)
            have t23 := t2.trans t3
            have M1 := Lib.hid (G1.out.keep (t23.any (lo' := 17) (hi' := 17) (Nat.le_refl _)) (by omega) (by omega))
            have M4 := Lib.hid (G4.out.keep t23 (by omega))
            have MD := Lib.hid (GD.out.keep t23 (by omega))
            have hb3 : b ≤ y3.heap.size := Nat.le_trans hbsz t23.size
            have EY3 := Lib.hid ey3
            clear b2 o2 ecr2 t2 t3 ey3 t23 D2 G1 G3 G4 GD HPK l0 l1 l2 l3 l4
            go_wp2_with (first
              | (at_builtin
                 first
                 | (rw [EY3.out]
                    refine app_row y3 25 31 (.slice none 0 0) 1 24 Try.underlying25 infoRows rfl (by decide) rfl (.tmp 82) (.tmp 84) rfl cr2 b 16 16 17 vo bl.length vs rfl M1.out.r ⟨by omega, by omega⟩ (some ⟨y2.heap.size, 0, none⟩) 1 1 [.slice (some ⟨g2, 0, none⟩) 256 cp2] rfl (fun e => by cases e) X3.out (by intro u hu; simp at hu; subst hu; rfl) (by unfold maxLen; omega) (by omega) hb3 ?_
                    intro vo4 y4 cr4 r4 t4 _
                    have L4 := Lib.hid (show RL w y4 cr4 b vo4 (vs ++ [.slice (some ⟨g2, 0, none⟩) 256 cp2]) (bl ++ [rc]) from ⟨M1.out.t.trans (t4.mono (by omega) (by omega)), by rw [List.length_append]; exact r4, (M1.out.d.keep t4 (by omega)).snoc (D3.out.keep t4 (by omega))⟩)
                    have N4 := Lib.hid (M4.out.keep t4 (by omega))
                    have ND := Lib.hid (MD.out.keep t4 (by omega))
                    have X4 := Lib.hid (show RowAt y4 (some ⟨gd, 0, none⟩) (t * 1) ds from rowAt_ownN N4.out.own)
                    have hb4 : b ≤ y4.heap.size := Nat.le_trans hb3 t4.size
                    have hl4 : (bl ++ [rc]).length = bl.length + 1 := by simp
                    clear r4 t4 M1 M4 MD D3 X3)
                 | (refine app_row y4 25 31 (.slice none 0 0) 1 24 Try.underlying25 infoRows rfl (by decide) rfl (.tmp 86) (.tmp 87) rfl cr4 b 16 16 17 vo4 (bl ++ [rc]).length (vs ++ [.slice (some ⟨g2, 0, none⟩) 256 cp2]) rfl L4.out.r ⟨by omega, by omega⟩ (some ⟨gd, 0, none⟩) t cd ds rfl (fun e => by cases e) X4.out (by
                      intro u hu
                      obtain ⟨i, hi⟩ := List.getElem?_of_mem hu
                      obtain ⟨x, hx⟩ : ∃ x, (p.map fun w => escB w.2)[i]? = some x := ⟨_, List.getElem?_eq_getElem (by have := ND.out.1; have := (List.getElem?_eq_some_iff.1 hi).1; omega)⟩
                      obtain ⟨_, _, _, rfl, _⟩ := own_form (ND.out.2 i u x hi hx).own (by omega)
                      rfl) (by unfold maxLen; omega) (by omega) hb4 ?_
                    intro vo5 y5 cr5 r5 t5 _
                    have L5 := Lib.hid (show RL w y5 cr5 b vo5 (vs ++ [.slice (some ⟨g2, 0, none⟩) 256 cp2] ++ ds) (bl ++ [rc] ++ p.map fun w => escB w.2) from ⟨L4.out.t.trans (t5.mono (by omega) (by omega)), by rw [List.length_append, List.length_map, hpl]; exact r5, (L4.out.d.keep t5 (by omega)).app (ND.out.keep t5 (by omega))⟩)
                    clear r5 t5 N4 ND X4 L4))
              | fail)
            go_roundw
            case rel => first | exact ⟨j + 1, cr5, _, _, rfl, by rw [hjq]; go_num, by omega, by rw [HBL.out, HRC.out]; exact L5.out⟩ | ((repeat apply Exists.intro); refine ⟨?_, rfl⟩; exact ⟨j + 1, cr5, _, _, rfl, by rw [hjq]; go_num, by omega, by rw [HBL.out, HRC.out]; exact L5.out⟩)
            case measure => simp [intOf]; omega
    · obtain rfl : j = NW := by omega
      have hji : ¬ ((j * 48 : Nat) : Int) < (n : Int) := by have := HNW.out.1; omega
      obtain ⟨hW, hhW⟩ : ∃ hW, ((List.range j).flatMap fun j => layW s (cutAt 48 ws j)) = hW := ⟨_, rfl⟩
      have hWl : hW.length ≤ 5000 := by
        have h5 := flatW_n s ws j
        rw [hhW] at h5
        omega
      rw [hhW] at L0
      have HHW := Lib.hid hhW
      clear hhW
      go_wp2_with fail
      go_loopw [8, 17] (fun vv ii wz => ∃ (j : Nat) (col : Col) (vo : Value) (vs : List Value), vo = vv ∧ ii = .int .i64 ((j * 60 : Nat) : Int) ∧ j ≤ NR ∧ RL w wz col b vo vs (hW ++ (List.range j).flatMap fun j => layR s (cutAt 60 rs j))) (fun _ ii _ => 6200 - (intOf ii).toNat)
      case atStart => exact ⟨0, col, _, vs, rfl, rfl, by omega, by simpa using L0.out⟩
      case round =>
        obtain ⟨k, col, vo, vs, rfl, rfl, hk, hL⟩ := hrel
        have L2 := Lib.hid hL
        clear hL L0
        by_cases hlt : k < NR
        · have hkm : k * 60 < m := HNR.out.2 k hlt
          have hji2 : ((k * 60 : Nat) : Int) < (m : Int) := by omega
          obtain ⟨bl, hbl⟩ : ∃ bl, (hW ++ (List.range k).flatMap fun j => layR s (cutAt 60 rs j)) = bl := ⟨_, rfl⟩
          have hbll : bl.length ≤ 5200 := by
            have h5 := flatR_n s rs k
            rw [← hbl, List.length_append, h5]
            omega
          obtain ⟨e, he⟩ : ∃ e, min 60 (m - k * 60) = e := ⟨_, rfl⟩
          obtain ⟨p, hp⟩ : ∃ p, cutAt 60 rs k = p := ⟨_, rfl⟩
          have hpl : p.length = e := by rw [← hp, cutAt_len, HL.out.2, he]
          obtain ⟨q, hq⟩ : ∃ q, k * 60 = q := ⟨_, rfl⟩
          have he1 : 1 ≤ e ∧ e ≤ 60 := by omega
          have hpw : ∀ t : Nat, p[t]? = if t < 60 then rs[q + t]? else none := fun t => by
            rw [← hp, ← hq]; unfold cutAt; rw [List.getElem?_take]; split
            · rw [List.getElem?_drop]
            · rfl
          have HOK := Lib.hid (HOR.out k hlt)
          rw [hp] at HOK
          rw [hbl] at L2
          have HPW := Lib.hid hpw
          have HBL := Lib.hid (show (hW ++ (List.range (k + 1)).flatMap fun j => layR s (cutAt 60 rs j)) = bl ++ [rB 3 s (rEnts p) 0 0] by
            rw [List.range_succ, List.flatMap_append, ← List.append_assoc, hbl, List.flatMap_cons, List.flatMap_nil, List.append_nil, hp, layR])
          have hkq : ((k + 1) * 60) = q + 60 := by omega
          have hq5 : q ≤ 6000 := by omega
          rw [hq] at hji2
          have he' : min 60 (m - q) = e := by rw [← hq]; exact he
          obtain ⟨r0, hr0⟩ : ∃ r0, wr.heap.size = r0 := ⟨_, rfl⟩
          obtain ⟨y1, ey1⟩ : ∃ y, wr.alloc (.cells #[.int .i64 3, .int .i64 s, .slice none 0 0, .int .u32 0, .int .i64 0] 58) = y := ⟨_, rfl⟩
          obtain ⟨cy, ecy⟩ : ∃ cy, paint col r0 22 = cy := ⟨_, rfl⟩
          have ty : Tch 22 23 col cy wr y1 := by
            have t0 : Tch 22 23 col col wr y1 := by rw [← ey1]; exact (Tch.refl _ _ _ _).alloc _
            rw [← ecy]
            exact t0.paint (by omega) (by rw [← ey1]; simp; omega) (by omega)
          have L1 := Lib.hid (L2.out.keep ty (by omega) (by omega))
          have KR1 := Lib.hid (show Bk y1 cy b 22 r0 58 #[.int .i64 3, .int .i64 s, .slice none 0 0, .int .u32 0, .int .i64 0] from ⟨by rw [← ey1, ← hr0]; exact Blk.new _ _ _, by rw [← ecy, paint_self], by have := L2.out.t.size; omega⟩)
          have EY := Lib.hid ey1
          have ER := Lib.hid hr0
          rw [hq]
          clear hbl hp hpw ty ey1 ecy hq he L2
          go_wp2_with fail
          rw [EY.out]
          go_loopw [19] (fun ii wz => ∃ (t u : Nat) (cr : Col) (ve : Value), ii = .int .i64 (u : Int) ∧ q + t = u ∧ t ≤ e ∧ RL w wz cr b vo vs bl ∧ Bk wz cr b 22 r0 58 #[.int .i64 3, .int .i64 s, ve, .int .u32 0, .int .i64 0] ∧ Row wz cr b 21 59 2 ve t (ecells (rEnts (p.take t)))) (fun ii _ => q + 60 - (intOf ii).toNat)
          case atStart => exact ⟨0, q, cy, _, rfl, by omega, by omega, L1.out, KR1.out, Row.nil _ _ _ _ _ _⟩
          case round =>
            obtain ⟨t, u, cr, ve, rfl, hu, ht, g1, g3, g6⟩ := hrel
            have hbsz : b ≤ wr.heap.size := by have := g1.t.size; omega
            have w60 : IntKind.i64.wrap ((q : Int) + 60) = (q : Int) + 60 := by rw [IntKind.wrap_i64]; omega
            by_cases hte : t < e
            · have hc1 : (u : Int) < (q : Int) + 60 := by omega
              have hc2 : (u : Int) < (m : Int) := by omega
              have hc3 : (0 : Int) ≤ (u : Int) := by omega
              have hc4 : ((u : Int)).toNat = u := by omega
              obtain ⟨nn, hx⟩ : ∃ y, p[t]? = some y := ⟨_, List.getElem?_eq_getElem (by omega)⟩
              have hxw : rs[u]? = some nn := by
                have := HPW.out t
                rw [if_pos (by omega), hx, hu] at this
                exact this.symm
              have htk : p.take (t + 1) = p.take t ++ [nn] := by rw [List.take_add_one, hx]; rfl
              obtain ⟨a, z, rfl, hz, k0⟩ := HR.out.int_at (k := u) (by omega)
              rw [hxw] at hz
              injection hz with hz
              subst hz
              have HTK := Lib.hid htk
              obtain ⟨v0, hv0⟩ : ∃ v0, wr.drew = v0 := ⟨_, rfl⟩
              have M1 := Lib.hid (show RL w v0 cr b vo vs bl by rw [← hv0]; exact g1.keep ((Tch.refl 17 17 _ _).drew) (by omega) (by omega))
              have M3 := Lib.hid (show Bk v0 cr b 22 r0 58 #[.int .i64 3, .int .i64 s, ve, .int .u32 0, .int .i64 0] by rw [← hv0]; exact g3.keep ((Tch.refl 17 17 _ _).drew) (by omega))
              have M6 := Lib.hid (show Row v0 cr b 21 59 2 ve t (ecells (rEnts (p.take t))) by rw [← hv0]; exact g6.keep ((Tch.refl 17 17 _ _).drew) (by omega))
              have hk4 : v0.cell? (a.add u) = some (.int .i64 nn) := by
                have hlt := World.block_lt_of_cell? _ _ k0
                exact ((M1.out.t.below (Nat.le_refl _) (fun i _ => by omega)).cell hlt).trans k0
              have HV0 := Lib.hid hv0
              have HK4 := Lib.hid hk4
              have SK := Lib.hid (fun (W' : World) (h1 : Blk W' r0 58 #[.int .i64 3, .int .i64 s, ve, .int .u32 0, .int .i64 0]) (h2 : Below v0.heap.size v0 W') => show (fun w' : World => w'.cell? ⟨r0, 2, none⟩ = some ve ∧ w'.cell? (a.add u) = some (.int .i64 nn)) W' from ⟨h1.cell 2, (h2.cell (World.block_lt_of_cell? _ _ HK4.out)).trans HK4.out⟩)
              have hb4 : b ≤ v0.heap.size := by rw [← hv0]; exact hbsz
              clear g1 g3 g6 k0 hv0 hk4 hx hxw htk
              go_wp2_with fail
              have hNS := SK.out v0 M3.out.blk (Below.refl _ _)
              refine region_need_at (v := v0) (fun w' => w'.cell? ⟨r0, 2, none⟩ = some ve ∧ w'.cell? (a.add u) = some (.int .i64 nn)) (fun i => i == 1 || (i == 4 || (i == 5 || (i == 6 || i == 7)))) HV0.out (by kernel_rfl) ?_
              refine nw_free (i := 0) (v := ?_) rfl (by kernel_rfl) (fun _ _ d _ _ h => by cases d <;> exact h) (by kernel_rfl) ?_ (fun K hK => ?_); rotate_left; (· (intro w'; go_simp; with_reducible rfl)); simp only [Act.put, List.setIfInBounds_toArray, List.set_cons_zero, List.set_cons_succ]; refine hK _ ?_; clear hK K
              refine nw_free (i := 2) (v := ?_) rfl (by kernel_rfl) (fun _ _ d _ _ h => by cases d <;> exact h) (by kernel_rfl) ?_ (fun K hK => ?_); rotate_left; (· (intro w'; go_simp; with_reducible rfl)); simp only [Act.put, List.setIfInBounds_toArray, List.set_cons_zero, List.set_cons_succ]; refine hK _ ?_; clear hK K
              refine nw_free (i := 3) (v := ?_) rfl (by kernel_rfl) (fun _ _ d _ _ h => by cases d <;> exact h) (by kernel_rfl) ?_ (fun K hK => ?_); rotate_left; (· (intro w'; go_simp; with_reducible rfl)); simp only [Act.put, List.setIfInBounds_toArray, List.set_cons_zero, List.set_cons_succ]; refine hK _ ?_; clear hK K
              refine nw_take (i := 1) (v := ?_) rfl (by kernel_rfl) (by kernel_rfl) (fun _ _ d _ _ h => by cases d <;> exact h) (by exact hNS) (by kernel_rfl) ?_ (fun K hK => ?_); rotate_left; (· (intro w' hSw; (try dsimp only at hSw); go_simp; with_reducible rfl)); simp only [Act.put, List.setIfInBounds_toArray, List.set_cons_zero, List.set_cons_succ]; refine hK _ ?_; clear hK K
              refine nw_take (i := 4) (v := ?_) rfl (by kernel_rfl) (by kernel_rfl) (fun _ _ d _ _ h => by cases d <;> exact h) (by exact hNS) (by kernel_rfl) ?_ (fun K hK => ?_); rotate_left; (· (intro w' hSw; (try dsimp only at hSw); go_simp; with_reducible rfl)); simp only [Act.put, List.setIfInBounds_toArray, List.set_cons_zero, List.set_cons_succ]; refine hK _ ?_; clear hK K
              refine nw_take (i := 5) (v := ?_) rfl (by kernel_rfl) (by kernel_rfl) (fun _ _ d _ _ h => by cases d <;> exact h) (by exact hNS) (by kernel_rfl) ?_ (fun K hK => ?_); rotate_left; (· (intro w' hSw; (try dsimp only at hSw); go_simp; with_reducible rfl)); simp only [Act.put, List.setIfInBounds_toArray, List.set_cons_zero, List.set_cons_succ]; refine hK _ ?_; clear hK K
              refine nw_take (i := 6) (v := ?_) rfl (by kernel_rfl) (by kernel_rfl) (fun _ _ d _ _ h => by cases d <;> exact h) (by exact hNS) (by kernel_rfl) ?_ (fun K hK => ?_); rotate_left; (· (intro w' hSw; (try dsimp only at hSw); go_simp; with_reducible rfl)); simp only [Act.put, List.setIfInBounds_toArray, List.set_cons_zero, List.set_cons_succ]; refine hK _ ?_; clear hK K
              clear hNS
              refine nw_one (i := 7) (E := False) rfl (by kernel_rfl) (fun K hK => ?_) (by kernel_rfl)
              go_simp
              obtain ⟨y5, ey5⟩ : ∃ y, v0.alloc (.cells #[.int .i64 nn, .bool false] 59) = y := ⟨_, rfl⟩
              have b5 : Below v0.heap.size v0 y5 := ey5 ▸ (Below.refl v0.heap.size v0).alloc (Nat.le_refl _) _
              have t5 : Tch 16 16 cr cr v0 y5 := Tch.of_below b5
              have X5 := Lib.hid (show RowAt y5 (some ⟨v0.heap.size, 0, none⟩) (1 * 2) [.int .i64 nn, .bool false] by rw [← ey5]; exact lit_rowN v0 59 [.int .i64 nn, .bool false] (1 * 2) v0.heap.size rfl rfl)
              have N1 := Lib.hid (M1.out.keep (t5.any (lo' := 17) (hi' := 17) (Nat.le_refl _)) (by omega) (by omega))
              have N3 := Lib.hid (M3.out.keep t5 (by omega))
              have N6 := Lib.hid (M6.out.keep t5 (by omega))
              have hb5 : b ≤ y5.heap.size := Nat.le_trans hb4 t5.size
              rw [ey5]
              refine hK.out _ _ (fun _ => SK.out _ N3.out.blk b5) ?_
              clear hK K
              try simp only [Act.put, List.setIfInBounds_toArray, List.set_cons_zero, List.set_cons_succ]
              clear b5 t5 M1 M3 M6 ey5
              refine nw_one (i := 8) (E := False) rfl (by kernel_rfl) (fun K hK => ?_) (by kernel_rfl)
              refine step_op rfl ?_
              refine app_op y5 56 59 (.agg #[.int .i64 0, .bool false]) 2 16 Try.underlying56 infoEntR rfl (by decide) (.tmp 111) (.tmp 117) rfl cr b 21 21 22 ve t (ecells (rEnts (p.take t))) rfl N6.out ⟨by omega, by omega⟩ ⟨v0.heap.size, 0, none⟩ 1 1 [.int .i64 nn, .bool false] rfl X5.out (by intro u hu; simp at hu; rcases hu with rfl | rfl <;> rfl) (by unfold maxLen; omega) (by omega) hb5 ?_
              intro ve6 y6 cr6 r6 t6 k6
              obtain ⟨g6, cp6, _, rfl, _⟩ := own_formN r6.own (by omega)
              have O1 := Lib.hid (N1.out.keep (t6.mono (lo' := 17) (hi' := 24) (by omega) (by omega)) (by omega) (by omega))
              have O3 := Lib.hid (N3.out.keep t6 (by omega))
              have O6 := Lib.hid (show Row y6 cr6 b 21 59 2 (.slice (some ⟨g6, 0, none⟩) (t + 1) cp6) (t + 1) (ecells (rEnts (p.take (t + 1)))) by
                rw [HTK.out, rEnts, List.map_append, ecells, List.flatMap_append]
                exact r6)
              have hb6 : b ≤ y6.heap.size := Nat.le_trans hb5 t6.size
              refine hK.out _ _ ((fun h => absurd h (by decide))) ?_
              clear hK K
              try simp only [Act.put, List.setIfInBounds_toArray, List.set_cons_zero, List.set_cons_succ]
              clear r6 t6 k6 N1 N3 N6 X5
              have c6 := O3.out.blk.cell 2
              have z6 := O3.out.blk.frozen 2
              refine nw_one (i := 9) (E := False) rfl (by kernel_rfl) (fun K hK => ?_) (by kernel_rfl)
              go_simp
              refine hK.out _ _ ((fun h => absurd h (by decide))) ?_
              clear hK K
              try simp only [Act.put, List.setIfInBounds_toArray, List.set_cons_zero, List.set_cons_succ]
              refine nw_one (i := 10) (E := False) rfl (by kernel_rfl) (fun K hK => ?_) (by kernel_rfl)
              go_simp
              obtain ⟨y7, ey7⟩ : ∃ y, y6.setCell ⟨r0, 2, none⟩ (.slice (some ⟨g6, 0, none⟩) (t + 1) cp6) = y := ⟨_, rfl⟩
              rw [ey7]
              have t7 : Tch 22 23 cr6 cr6 y6 y7 := by rw [← ey7]; exact (Tch.refl _ _ _ _).setCell (p := ⟨r0, 2, none⟩) (by have := O3.out.c; show 22 ≤ cr6 r0 ∧ cr6 r0 < 23; omega) _
              have P1 := Lib.hid (O1.out.keep t7 (by omega) (by omega))
              have P3 := Lib.hid (show Bk y7 cr6 b 22 r0 58 #[.int .i64 3, .int .i64 s, .slice (some ⟨g6, 0, none⟩) (t + 1) cp6, .int .u32 0, .int .i64 0] by rw [← ey7]; exact O3.out.set 2 _)
              have P6 := Lib.hid (O6.out.keep t7 (by omega))
              have hb7 : b ≤ y7.heap.size := Nat.le_trans hb6 t7.size
              refine hK.out _ _ ((fun h => absurd h (by decide))) ?_
              clear hK K
              try simp only [Act.put, List.setIfInBounds_toArray, List.set_cons_zero, List.set_cons_succ]
              refine nw_end (by kernel_rfl) ?_
              clear c6 z6 t7 O1 O3 O6 ey7
              have wu : IntKind.i64.wrap ((u : Int) + 1) = ((u + 1 : Nat) : Int) := by rw [IntKind.wrap_i64]; omega
              go_wp2
              go_roundw
              case rel => exact ⟨t + 1, u + 1, cr6, _, by first | rfl | go_num, by omega, by omega, P1.out, P3.out, P6.out⟩
              case measure => simp [intOf]; omega
            · obtain rfl : t = e := by omega
              have hpt : p.take t = p := List.take_of_length_le (by omega)
              have hend : ¬ (u : Int) < (q : Int) + 60 ∨ (u : Int) < (q : Int) + 60 ∧ ¬ (u : Int) < (m : Int) := by omega
              rw [hpt] at g6
              obtain ⟨ge, ce, _, rfl, _, _, hce1, hce2, _⟩ := own_formN g6.own (by omega)
              have hmy : rMay 3 s (rEnts p) 0 0 = true := HOK.out
              have HPK := Lib.hid (logPackR_any 3 s (some ⟨ge, 0, none⟩) t ce 0 0 (rEnts p) wr (by omega) (by omega) (rowAt_ownN g6.own))
              rw [show ((0 : Nat) : Int) = 0 from rfl, show rE 3 s (rEnts p) 0 0 = 0 by simp [rE, hmy]] at HPK
              obtain ⟨rc, hrc⟩ : ∃ rc, rB 3 s (rEnts p) 0 0 = rc := ⟨_, rfl⟩
              have hrl2 : rc.length = 256 := by rw [← hrc]; exact rB_len hmy (show 0 < 4294967296 by omega)
              rw [hrc, hrl2] at HPK
              have HRC := Lib.hid hrc
              have l0 : wr.cell? ⟨r0, 0, none⟩ = some (.int .i64 3) := g3.blk.cell 0
              have l1 : wr.cell? ⟨r0, 1, none⟩ = some (.int .i64 s) := g3.blk.cell 1
              have l2 : wr.cell? ⟨r0, 2, none⟩ = some (.slice (some ⟨ge, 0, none⟩) t ce) := g3.blk.cell 2
              have l3 : wr.cell? ⟨r0, 3, none⟩ = some (.int .u32 0) := g3.blk.cell 3
              have l4 : wr.cell? ⟨r0, 4, none⟩ = some (.int .i64 0) := g3.blk.cell 4
              have G1 := Lib.hid g1
              clear g1 g3 g6 hrc hmy hpt
              rcases hend with hc1 | ⟨hc1, hc2⟩
              all_goals
                go_wp2_with fail
                refine HPK.out.mono ?_
                rintro e' y2 ⟨v2, rfl, b2, o2⟩
                obtain ⟨g2, cp2, _, rfl, hg2, _⟩ := own_form o2 (by omega)
                obtain ⟨cr2, ecr2⟩ : ∃ cr2, paint cr g2 1 = cr2 := ⟨_, rfl⟩
                obtain ⟨y3, ey3⟩ : ∃ y, y2.alloc (.cells #[.slice (some ⟨g2, 0, none⟩) 256 cp2] 31) = y := ⟨_, rfl⟩
                have t2 : Tch 16 16 cr cr2 wr y2 := by rw [← ecr2]; exact (Tch.of_below b2).paint hg2 (o2.lt _ rfl).2 (by omega)
                have t3 : Tch 16 16 cr2 cr2 y2 y3 := by rw [← ey3]; exact (Tch.refl _ _ _ _).alloc _
                have D2 : Row y2 cr2 b 1 5 1 (.slice (some ⟨g2, 0, none⟩) 256 cp2) 256 (bvl rc) := ⟨own_mono o2 hbsz, fun g e => by injection e with e; subst e; rw [← ecr2, paint_self]⟩
                have D3 := Lib.hid (D2.keep t3 (by omega))
                have X3 := Lib.hid (show RowAt y3 (some ⟨y2.heap.size, 0, none⟩) (1 * 1) [.slice (some ⟨g2, 0, none⟩) 256 cp2] by rw [← ey3]; exact lit_rowN y2 31 [.slice (some ⟨g2, 0, none⟩) 256 cp2] (1 * 1) y2.heap.size rfl rfl)
                have t23 := t2.trans t3
                have M1 := Lib.hid (G1.out.keep (t23.any (lo' := 17) (hi' := 17) (Nat.le_refl _)) (by omega) (by omega))
                have hb3 : b ≤ y3.heap.size := Nat.le_trans hbsz t23.size
                have EY3 := Lib.hid ey3
                clear b2 o2 ecr2 t2 t3 ey3 t23 D2 G1 HPK l0 l1 l2 l3 l4
                go_wp2_with (first
                  | (at_builtin
                     rw [EY3.out]
                     refine app_row y3 25 31 (.slice none 0 0) 1 24 Try.underlying25 infoRows rfl (by decide) rfl (.tmp 125) (.tmp 127) rfl cr2 b 16 16 17 vo bl.length vs rfl M1.out.r ⟨by omega, by omega⟩ (some ⟨y2.heap.size, 0, none⟩) 1 1 [.slice (some ⟨g2, 0, none⟩) 256 cp2] rfl (fun e => by cases e) X3.out (by intro u hu; simp at hu; subst hu; rfl) (by unfold maxLen; omega) (by omega) hb3 ?_
                     intro vo4 y4 cr4 r4 t4 _
                     have L4 := Lib.hid (show RL w y4 cr4 b vo4 (vs ++ [.slice (some ⟨g2, 0, none⟩) 256 cp2]) (bl ++ [rc]) from ⟨M1.out.t.trans (t4.mono (by omega) (by omega)), by rw [List.length_append]; exact r4, (M1.out.d.keep t4 (by omega)).snoc (D3.out.keep t4 (by omega))⟩)
                     clear r4 t4 M1 D3 X3)
                  | fail)
                go_roundw
                case rel => first | exact ⟨k + 1, cr4, _, _, rfl, by rw [hkq]; go_num, by omega, by rw [HBL.out, HRC.out]; exact L4.out⟩ | ((repeat apply Exists.intro); refine ⟨?_, rfl⟩; exact ⟨k + 1, cr4, _, _, rfl, by rw [hkq]; go_num, by omega, by rw [HBL.out, HRC.out]; exact L4.out⟩)
                case measure => simp [intOf]; omega
        · obtain rfl : k = NR := by omega
          have hji2 : ¬ ((k * 60 : Nat) : Int) < (m : Int) := by have := HNR.out.1; omega
          obtain ⟨th, hth⟩ : ∃ th, (hW ++ (List.range k).flatMap fun j => layR s (cutAt 60 rs j)) = th := ⟨_, rfl⟩
          have hth2 : tHead s ws rs = th := by rw [tHead, HL.out.1, HL.out.2, hNW, hNR, HHW.out]; exact hth
          have hNs : th.length ≤ 6000 := by
            have := tHead_few hok
            rw [hth2] at this
            omega
          have h256 : ∀ x ∈ th, x.length = 256 := by rw [← hth2]; exact tHead_256 hok
          rw [hth] at L2
          have HTH := Lib.hid hth2
          have H256 := Lib.hid h256
          obtain ⟨N, hN⟩ : ∃ N, th.length = N := ⟨_, rfl⟩
          clear hth hth2 h256
          obtain ⟨Ao, co, rfl, _⟩ := own_sliceN L2.out.r.own
          rw [hN]
          go_wp2_with fail
          go_loopw [22, 23] (fun aa ii wz => ∃ (i : Nat) (ca : Col) (va : Value), va = aa ∧ ii = .int .i64 (i : Int) ∧ i ≤ N ∧ RL w wz ca b (.slice Ao th.length co) vs th ∧ Row wz ca b 17 5 1 va (i * 256) (bvl (th.take i).flatten)) (fun _ ii _ => N - (intOf ii).toNat)
          case atStart => exact ⟨0, col, _, rfl, rfl, by omega, L2.out, Row.nil _ _ _ _ _ _⟩
          case round =>
            obtain ⟨i, ca, va, rfl, rfl, hi, g1, g2⟩ := hrel
            have G1 := Lib.hid g1
            have G2 := Lib.hid g2
            have hbsz : b ≤ wr.heap.size := by have := g1.t.size; omega
            clear g1 g2
            by_cases hlt : i < N
            · have hii : (i : Int) < (N : Int) := by omega
              have hi0 : (0 : Int) ≤ (i : Int) := by omega
              have hin : ((i : Int)).toNat = i := by omega
              obtain ⟨x, hx⟩ : ∃ x, th[i]? = some x := ⟨_, List.getElem?_eq_getElem (by omega)⟩
              have hx256 := H256.out x (List.mem_of_getElem? hx)
              obtain ⟨dv, hdv⟩ : ∃ dv, vs[i]? = some dv := ⟨_, List.getElem?_eq_getElem (by have := G1.out.d.1; omega)⟩
              have hrow := G1.out.d.2 i dv x hdv hx
              obtain ⟨gd, cd, _, rfl, _⟩ := own_form hrow.own (by omega)
              have hRW := rowAt_ownN G1.out.r.own
              rw [Nat.mul_one] at hRW
              obtain ⟨ao, rfl, hcs⟩ := hRW.2 (by omega)
              have hcell := hcs i _ hdv
              have XB := Lib.hid (show RowAt wr (some ⟨gd, 0, none⟩) (256 * 1) (bvl x) from rowAt_ownN hrow.own)
              have HTK := Lib.hid (show (th.take (i + 1)).flatten = (th.take i).flatten ++ x by rw [List.take_add_one, hx]; simp)
              clear hx hdv hrow hRW hcs
              go_wp2_with (first
                | (at_builtin
                   refine app_row wr 31 5 (.int .u8 0) 1 1 Try.underlying31 infoByte rfl (by decide) rfl (.tmp 135) (.tmp 139) rfl ca b 17 17 18 va (i * 256) (bvl (th.take i).flatten) rfl G2.out ⟨by omega, by omega⟩ (some ⟨gd, 0, none⟩) 256 cd (bvl x) rfl (fun e => by cases e) XB.out (fun u hu => by obtain ⟨y, _, rfl⟩ := List.mem_map.1 hu; rfl) (by unfold maxLen; omega) (by omega) hbsz ?_
                   intro va4 y4 cr4 r4 t4 _
                   have R1 := Lib.hid (G1.out.keep t4 (by omega) (by omega))
                   have R2 := Lib.hid (show Row y4 cr4 b 17 5 1 va4 ((i + 1) * 256) (bvl (th.take (i + 1)).flatten) by
                     rw [HTK.out, bvl, List.map_append, show (i + 1) * 256 = i * 256 + 256 by omega]; exact r4)
                   clear r4 t4 G1 G2 XB)
                | fail)
              go_roundw
              case rel => first | exact ⟨i + 1, cr4, _, rfl, by go_num, by omega, R1.out, R2.out⟩ | ((repeat apply Exists.intro); refine ⟨?_, rfl⟩; exact ⟨i + 1, cr4, _, rfl, by go_num, by omega, R1.out, R2.out⟩)
              case measure => simp [intOf]; omega
            · obtain rfl : i = N := by omega
              have hni : ¬ (i : Int) < (i : Int) := by omega
              have hfu : th.take i = th := List.take_of_length_le (by omega)
              have g2 := G2.out
              rw [hfu] at g2
              have hfl : th.flatten.length = i * 256 := by rw [flat_len H256.out, hN]
              obtain ⟨L, hLL⟩ : ∃ L, i * 256 = L := ⟨_, rfl⟩
              rw [hLL] at g2 hfl
              obtain ⟨Aa, caa, rfl, hby⟩ := row_bytes_ g2
              obtain ⟨sm, hsm⟩ : ∃ sm, tSum s th = sm := ⟨_, rfl⟩
              have hsm2 : sm < 4294967296 := by rw [← hsm]; exact (crc (rS s) th.flatten).isLt
              have hmy : rMay 2 s [] sm 0 = true := by rw [rMay2]; exact (tOk_all hok).2.2.2.2
              have HCR := Lib.hid (show Calls Try.prog 12 #[.int .u32 ((rS s).toNat : Int), .slice Aa L caa] wr fun e w' => e = .returned (.int .u32 (sm : Int)) ∧ wr = w' from (ref_crc (rS s) Aa L caa th.flatten wr (by omega) hby).mono (by
                rintro e w' ⟨rfl, rfl⟩
                rw [show (crc (rS s) th.flatten).toNat = sm from hsm]
                exact ⟨rfl, rfl⟩))
              have wsd : IntKind.u32.wrap s = ((rS s).toNat : Int) := by
                rw [rS, BitVec.toNat_ofInt, IntKind.wrap_u32]; omega
              have HPK := Lib.hid (logPackR_any 2 s none 0 0 sm 0 [] wr (by omega) hsm2 (RowAt.nil_ _ _))
              obtain ⟨rb, hrb⟩ : ∃ rb, rB 2 s [] sm 0 = rb := ⟨_, rfl⟩
              have hrl2 : rb.length = 256 := by rw [← hrb]; exact rB_len hmy hsm2
              rw [show rE 2 s [] sm 0 = 0 by simp [rE, hmy], hrb, hrl2] at HPK
              have HTB := Lib.hid (show tB s ws rs = th ++ [rb] by rw [tB, HTH.out, hsm, hrb])
              clear g2 hby hsm hrb hmy hfu
              go_wp2_with fail
              refine HCR.out.mono ?_
              rintro e' w' ⟨rfl, rfl⟩
              go_wp2_with fail
              refine HPK.out.mono ?_
              rintro e' y2 ⟨v2, rfl, b2, o2⟩
              obtain ⟨g2, cp2, _, rfl, hg2, _⟩ := own_form o2 (by omega)
              obtain ⟨cr2, ecr2⟩ : ∃ cr2, paint ca g2 1 = cr2 := ⟨_, rfl⟩
              obtain ⟨y3, ey3⟩ : ∃ y, y2.alloc (.cells #[.slice (some ⟨g2, 0, none⟩) 256 cp2] 31) = y := ⟨_, rfl⟩
              have t2 : Tch 16 16 ca cr2 wr y2 := by rw [← ecr2]; exact (Tch.of_below b2).paint hg2 (o2.lt _ rfl).2 (by omega)
              have t3 : Tch 16 16 cr2 cr2 y2 y3 := by rw [← ey3]; exact (Tch.refl _ _ _ _).alloc _
              have D2 : Row y2 cr2 b 1 5 1 (.slice (some ⟨g2, 0, none⟩) 256 cp2) 256 (bvl rb) := ⟨own_mono o2 hbsz, fun g e => by injection e with e; subst e; rw [← ecr2, paint_self]⟩
              have D3 := Lib.hid (D2.keep t3 (by omega))
              have X3 := Lib.hid (show RowAt y3 (some ⟨y2.heap.size, 0, none⟩) (1 * 1) [.slice (some ⟨g2, 0, none⟩) 256 cp2] by rw [← ey3]; exact lit_rowN y2 31 [.slice (some ⟨g2, 0, none⟩) 256 cp2] (1 * 1) y2.heap.size rfl rfl)
              have M1 := Lib.hid (G1.out.keep ((t2.trans t3).any (lo' := 17) (hi' := 17) (Nat.le_refl _)) (by omega) (by omega))
              have MR := Lib.hid (show Row y3 cr2 b 16 31 1 (.slice Ao i co) i vs by have := M1.out.r; rwa [hN] at this)
              have hb3 : b ≤ y3.heap.size := Nat.le_trans hbsz (t2.trans t3).size
              have EY3 := Lib.hid ey3
              clear b2 o2 ecr2 t2 t3 ey3 D2 G1 G2 HPK
              go_wp2_with (first
                | (at_builtin
                   rw [EY3.out]
                   refine app_row y3 25 31 (.slice none 0 0) 1 24 Try.underlying25 infoRows rfl (by decide) rfl (.tmp 151) (.tmp 153) rfl cr2 b 16 16 17 (.slice Ao i co) i vs rfl MR.out ⟨by omega, by omega⟩ (some ⟨y2.heap.size, 0, none⟩) 1 1 [.slice (some ⟨g2, 0, none⟩) 256 cp2] rfl (fun e => by cases e) X3.out (by intro u hu; simp at hu; subst hu; rfl) (by unfold maxLen; omega) (by omega) hb3 ?_
                   intro vo4 y4 cr4 r4 t4 _
                   have L4 := Lib.hid (show RL w y4 cr4 b vo4 (vs ++ [.slice (some ⟨g2, 0, none⟩) 256 cp2]) (th ++ [rb]) from ⟨M1.out.t.trans (t4.mono (by omega) (by omega)), by rw [List.length_append, hN]; exact r4, (M1.out.d.keep t4 (by omega)).snoc (D3.out.keep t4 (by omega))⟩)
                   clear r4 t4 M1 D3 X3)
                | fail)
              go_ret2
              refine .inr ⟨hok, _, cr4, rfl, L4.out.t.below (Nat.le_refl _) (fun i _ => by omega), ?_⟩
              rw [HTB.out, hb]
              exact ⟨_, L4.out.r, L4.out.d⟩
theorem rMay_of {k s : Int} {es : List Ent} (hk : k = 1 ∧ 1 ≤ es.length ∧ es.length ≤ 48 ∨ k = 3 ∧ 1 ≤ es.length ∧ es.length ≤ 60 ∨ k = 2 ∧ es.length = 0) (h1 : 1 ≤ s) (h2 : s ≤ 2147483647) (he : ∀ e ∈ es, eWrong k e = false) : rMay k s es 0 0 = true := by
  have ha : es.any (eWrong k) = false := List.any_eq_false.2 fun e h => by rw [he e h]; decide
  rcases hk with ⟨rfl, h3, h4⟩ | ⟨rfl, h3, h4⟩ | ⟨rfl, h3⟩
  · have hm : most 1 = 48 := rfl
    simp only [rMay, head?, tail?, ha, hm, Bool.and_eq_true, Bool.not_eq_true', Bool.or_eq_false_iff, decide_eq_false_iff_not]
    exact ⟨⟨by omega, by omega, by omega, by omega, by omega⟩, trivial, by decide⟩
  · have hm : most 3 = 60 := rfl
    simp only [rMay, head?, tail?, ha, hm, Bool.and_eq_true, Bool.not_eq_true', Bool.or_eq_false_iff, decide_eq_false_iff_not]
    exact ⟨⟨by omega, by omega, by omega, by omega, by omega⟩, trivial, by decide⟩
  · have hm : most 2 = 0 := rfl
    simp only [rMay, head?, tail?, ha, hm, Bool.and_eq_true, Bool.not_eq_true', Bool.or_eq_false_iff, decide_eq_false_iff_not]
    exact ⟨⟨by omega, by omega, by omega, by omega, by omega⟩, trivial, by decide⟩
theorem mem_cut {α : Type} {k : Nat} (hk : 1 ≤ k) {l : List α} {x : α} (h : x ∈ l) : ∃ j, j < nch k l.length ∧ x ∈ cutAt k l j := by
  obtain ⟨i, hi⟩ := List.getElem?_of_mem h
  have hil := (List.getElem?_eq_some_iff.1 hi).1
  have e1 : i / k * k + i % k = i := by rw [Nat.mul_comm]; exact Nat.div_add_mod i k
  have e2 : i % k < k := Nat.mod_lt _ (by omega)
  refine ⟨i / k, (nch_iff hk).2 (by omega), ?_⟩
  refine List.mem_of_getElem? (i := i % k) ?_
  unfold cutAt
  rw [List.getElem?_take, if_pos e2, List.getElem?_drop, e1]
  exact hi
theorem of_cut {α : Type} {k j : Nat} {l : List α} {x : α} (h : x ∈ cutAt k l j) : x ∈ l := List.mem_of_mem_drop (List.mem_of_mem_take h)
theorem tOk_right (s : Int) (ws : List Wt) (rs : List Int) : tOk s ws rs = tRight s ws rs := by
  rw [Bool.eq_iff_iff]
  constructor
  · intro h
    obtain ⟨h1, h2, h3, h4, h5⟩ := tOk_all h
    have hs := (rGood h5).seq
    simp only [tRight, tHd, Bool.and_eq_true, Bool.not_eq_true', decide_eq_true_eq]
    refine ⟨⟨hs.1, hs.2, h1, h2⟩, List.any_eq_false.2 fun w hw => ?_, List.any_eq_false.2 fun n hn => ?_⟩
    · obtain ⟨j, hj, hm⟩ := mem_cut (k := 48) (by omega) hw
      have ho := h3 j hj
      simp only [okW, Bool.and_eq_true, List.all_eq_true] at ho
      have e1 := (rGood ho.2).ents (w.1, escIs w.2) (List.mem_map.2 ⟨w, hm, rfl⟩)
      have e2 := ho.1 w hm
      simp only at e1
      simp at e2
      simp only [wBad, Bool.or_eq_true, decide_eq_true_eq, bne_iff_ne, ne_eq]
      omega
    · obtain ⟨j, hj, hm⟩ := mem_cut (k := 60) (by omega) hn
      have e1 := (rGood (h4 j hj)).ents (n, false) (List.mem_map.2 ⟨n, hm, rfl⟩)
      simp only at e1
      simp only [nBad, Bool.or_eq_true, decide_eq_true_eq]
      omega
  · intro h
    simp only [tRight, tHd, Bool.and_eq_true, Bool.not_eq_true', decide_eq_true_eq] at h
    obtain ⟨⟨h1, h2, h3, h4⟩, h5, h6⟩ := h
    refine tOk_yes h3 h4 (fun j hj => ?_) (fun j hj => ?_) (rMay_of (.inr (.inr ⟨rfl, rfl⟩)) h1 h2 (fun e h => by cases h))
    · have hjn := (nch_iff (by omega)).1 hj
      have hlen := cutAt_len 48 ws j
      have hall : ∀ w ∈ cutAt 48 ws j, ¬ w.1 < 0 ∧ ¬ 4096 ≤ w.1 ∧ w.2.length = 256 := fun w hw => by
        have := List.any_eq_false.1 h5 w (of_cut hw)
        simp only [wBad, Bool.or_eq_true, decide_eq_true_eq, bne_iff_ne, ne_eq, not_or, Decidable.not_not] at this
        exact this
      rw [okW, Bool.and_eq_true]
      refine ⟨List.all_eq_true.2 fun w hw => by simpa using (hall w hw).2.2, rMay_of (.inl ⟨rfl, ?_, ?_⟩) h1 h2 fun e he => ?_⟩
      · rw [wEnts, List.length_map]; omega
      · rw [wEnts, List.length_map]; omega
      · obtain ⟨w, hw, rfl⟩ := List.mem_map.1 he
        obtain ⟨e1, e2, _⟩ := hall w hw
        simp [eWrong, e1, e2]
    · have hjn := (nch_iff (by omega)).1 hj
      have hlen := cutAt_len 60 rs j
      refine rMay_of (.inr (.inl ⟨rfl, ?_, ?_⟩)) h1 h2 fun e he => ?_
      · rw [rEnts, List.length_map]; omega
      · rw [rEnts, List.length_map]; omega
      · obtain ⟨n, hn, rfl⟩ := List.mem_map.1 he
        have := List.any_eq_false.1 h6 n (of_cut hn)
        simp only [nBad, Bool.or_eq_true, decide_eq_true_eq, not_or] at this
        simp [eWrong, this.1, this.2]
/-- The document's Lay, whatever comes in. -/
theorem layR_any (s : Int) (A R : Option Addr) (n c m d : Nat) (ws : List Wt) (rs : List Int) (w : World) (hw : WsIn w A ws) (hwl : ws.length = n) (hnc : n ≤ c) (hcm : c ≤ 9223372036854775807)
    (hr : RowAt w R m (ints rs)) (hmd : m ≤ d) (hdm : d ≤ 9223372036854775807) :
    Calls Try.prog 7 #[.int .i64 s, .slice A n c, .slice R m d] w fun e w' => Laid w s ws rs e w' := by
  cases h : tRight s ws rs
  · exact (layR_no s A R n c m d ws rs w hw hwl (by omega) hr (by omega) h).mono fun e w' ⟨h1, h2⟩ => .inl ⟨by rw [tOk_right]; exact h, h1, by rw [← h2]; exact Below.refl _ _⟩
  · exact layR_main s A R n c m d ws rs w hw hwl hnc hcm hr hmd hdm h (by rw [tOk_right]; exact h)
end Go.Proofs.Ytifamhmiibhohaa.Mem
