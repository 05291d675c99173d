
/-
  THE WALKS of layer 4 (layout), the program's, second part: Groups, Span, Place, InodeAt.
-/
import Derived.Test.YtafonjnanfekkaaLayA
namespace Go.Proofs.Ytafonjnanfekkaa.Lay
open Go.RowKit
set_option maxHeartbeats 8000000
set_option linter.unusedVariables false
set_option linter.unusedSimpArgs false

/-- A geometry in a block of its own. -/
def geoCells (B P I J : Int) : Array Value := #[.int .i64 B, .int .i64 P, .int .i64 I, .int .i64 J]
theorem geo_cell {w w1 : World} {B P I J : Int} {t : TypeId} (hb : Below (w.heap.size + 1) (w.alloc (.cells #[.int .i64 B, .int .i64 P, .int .i64 I, .int .i64 J] t)) w1) :
    w1.cell? ⟨w.heap.size, 0, none⟩ = some (.int .i64 B) ∧ w1.cell? ⟨w.heap.size, 1, none⟩ = some (.int .i64 P) ∧ w1.cell? ⟨w.heap.size, 2, none⟩ = some (.int .i64 I) ∧ w1.cell? ⟨w.heap.size, 3, none⟩ = some (.int .i64 J) := by
  have h := fun i => hb.cell (p := ⟨w.heap.size, i, none⟩) (by show w.heap.size < w.heap.size + 1; omega)
  refine ⟨(h 0).trans ?_, (h 1).trans ?_, (h 2).trans ?_, (h 3).trans ?_⟩ <;> simp [go_sem]
theorem lgroups_any (B P I J : Int) (w : World) :
    Calls Try.prog 62 #[.agg #[.int .i64 B, .int .i64 P, .int .i64 I, .int .i64 J]] w fun e w' => e = .returned (.int .i64 (grp B P I J)) ∧ Below w.heap.size w w' := by
  cases h : gok B P I J
  · have hc : (chk B P I J != 0) = true := by simp [chk, h]
    have hz := grp_no h
    have HZ := Lib.hid hz
    clear hz h
    go_enter Try.func62, Try.ntmps62
    go_wp2_with (go_at_call 43; refine (lcheck_any _ _ _ _ _).mono ?_; rintro e w1 ⟨rfl, hb⟩)
    go_ret
    exact ⟨ret_int HZ.out.symm, below_of_new hb⟩
  · have hc : (chk B P I J != 0) = false := by simp [chk, h]
    have hz := grp_yes h
    have HZ := Lib.hid hz
    have G := Geo.of h
    have b1 := G.b1; have b2 := G.b2; have p1 := G.p1; have p2 := G.p2; have n1 := G.n1; have n2 := G.n2
    clear hz h G
    go_enter Try.func62, Try.ntmps62
    go_wp2_with (go_at_call 43; refine (lcheck_any _ _ _ _ _).mono ?_; rintro e w1 ⟨rfl, hb⟩; obtain ⟨g0, g1, g2, g3⟩ := geo_cell (by simpa using hb); have HB := Lib.hid hb; clear hb)
    go_ret
    exact ⟨ret_int HZ.out.symm, below_of_new HB.out⟩

theorem lspan_any (B P I J g : Int) (w : World) :
    Calls Try.prog 59 #[.agg #[.int .i64 B, .int .i64 P, .int .i64 I, .int .i64 J], .int .i64 g] w fun e w' => e = .returned (.tuple #[.int .i64 (spanA B P I J g), .int .i64 (spanB B P I J g), .int .i64 (spanE B P I J g)]) ∧ Below w.heap.size w w' := by
  have fin := (Below.refl w.heap.size w).alloc (Nat.le_refl _) (.cells #[.int .i64 B, .int .i64 P, .int .i64 I, .int .i64 J] 37)
  have FIN := Lib.hid fin
  clear fin
  cases h : isg B P I J g
  · have hz : spanA B P I J g = 0 ∧ spanB B P I J g = 0 ∧ spanE B P I J g = 22 := by simp [spanA, spanB, spanE, h]
    have HZ := Lib.hid hz
    by_cases hg : g < 0
    · clear hz h
      go_enter Try.func59, Try.ntmps59
      go_wp2_with (go_at_call 62; refine (lgroups_any _ _ _ _ _).mono ?_; rintro e w1 ⟨rfl, hb⟩)
      go_ret3
      obtain ⟨z1, z2, z3⟩ := HZ.out
      exact ⟨ret3 z1.symm z2.symm z3.symm, FIN.out⟩
    · have hg2 : grp B P I J ≤ g := by simp [isg] at h; omega
      clear hz h
      go_enter Try.func59, Try.ntmps59
      go_wp2_with (go_at_call 62; refine (lgroups_any _ _ _ _ _).mono ?_; rintro e w1 ⟨rfl, hb⟩; have HB := Lib.hid hb; clear hb)
      go_ret3
      obtain ⟨z1, z2, z3⟩ := HZ.out
      exact ⟨ret3 z1.symm z2.symm z3.symm, below_of_new HB.out⟩
  · obtain ⟨hgo, g0, g1⟩ := isg_true h
    have hg2 : g < grp B P I J := by rw [grp_yes hgo]; omega
    have hz : spanA B P I J g = g * P ∧ spanB B P I J g = (if g * P + P < B then g * P + P else B) ∧ spanE B P I J g = 0 := by simp [spanA, spanB, spanE, h]
    have HZ := Lib.hid hz
    have G := Geo.of hgo
    obtain ⟨x1, x2, x3⟩ := G.mul g0 g1
    have b1 := G.b1; have b2 := G.b2; have p1 := G.p1; have p2 := G.p2; have n1 := G.n1; have n2 := G.n2
    clear hz h G hgo g1 x2
    by_cases hm : B < g * P + P
    all_goals
      go_enter Try.func59, Try.ntmps59
      go_wp2_with (go_at_call 62; refine (lgroups_any _ _ _ _ _).mono ?_; rintro e w1 ⟨rfl, hb⟩; obtain ⟨c0, c1, c2, c3⟩ := geo_cell (by simpa using hb); have HB := Lib.hid hb; clear hb)
      go_quiet (fail)
      go_wp2
      go_ret3
      obtain ⟨z1, z2, z3⟩ := HZ.out
      refine ⟨ret3 z1.symm (z2.trans (by split <;> omega)).symm z3.symm, (below_of_new HB.out).trans ?_⟩
      exact ⟨rfl, rfl, rfl, Nat.le_refl _, fun _ _ => rfl⟩

theorem lplace_any (B P I J g : Int) (w : World) :
    Calls Try.prog 60 #[.agg #[.int .i64 B, .int .i64 P, .int .i64 I, .int .i64 J], .int .i64 g] w fun e w' =>
      e = .returned (.tuple #[.int .i64 (placeA B P I J g), .int .i64 (placeB B P I J g), .int .i64 (placeC B P I J g), .int .i64 (placeD B P I J g), .int .i64 (spanE B P I J g)]) ∧ Below w.heap.size w w' := by
  cases h : isg B P I J g
  · have hz : placeA B P I J g = 0 ∧ placeB B P I J g = 0 ∧ placeC B P I J g = 0 ∧ placeD B P I J g = 0 := by simp [placeA, placeB, placeC, placeD, h]
    have HZ := Lib.hid hz
    have hs : (spanE B P I J g != 0) = true := by simp [spanE, h]
    clear hz h
    go_enter Try.func60, Try.ntmps60
    go_wp2_with (go_at_call 59; refine (lspan_any _ _ _ _ _ _).mono ?_; rintro e w1 ⟨rfl, hb⟩; have HB := Lib.hid hb; clear hb)
    obtain ⟨z1, z2, z3, z4⟩ := HZ.out
    refine bodyPost_ret (results_tmp5 rfl _ _ _) rfl ?_
    exact ⟨ret5 z1.symm z2.symm z3.symm z4.symm rfl, below_of_new HB.out⟩
  · obtain ⟨hgo, g0, g1⟩ := isg_true h
    have hz : placeA B P I J g = base P J g ∧ placeB B P I J g = base P J g + 1 ∧ placeC B P I J g = base P J g + 2 ∧ placeD B P I J g = base P J g + 2 + I / 2 := by simp [placeA, placeB, placeC, placeD, h]
    have HZ := Lib.hid hz
    have G := Geo.of hgo
    obtain ⟨x1, x2, x3⟩ := G.mul g0 g1
    have hsa : spanA B P I J g = g * P := by simp [spanA, h]
    have HSA := Lib.hid hsa
    have hs : (spanE B P I J g != 0) = false := by simp [spanE, h]
    have i1 := G.i1; have i2 := G.i2; have j1 := G.j1; have j2 := G.j2
    by_cases hg : g = 0
    · have hba : base P J g = 2 + J := by simp [base, hg]
      have HBA := Lib.hid hba
      clear hba hsa hz h G hgo g1 x2
      have hg' : (g == 0) = true := by simp [hg]
      clear hg
      go_enter Try.func60, Try.ntmps60
      go_wp2_with (go_at_call 59; refine (lspan_any _ _ _ _ _ _).mono ?_; rintro e w1 ⟨rfl, hb⟩; obtain ⟨c0, c1, c2, c3⟩ := geo_cell (by simpa using hb); have HB := Lib.hid hb; clear hb)
      go_quiet (fail)
      go_wp2
      obtain ⟨z1, z2, z3, z4⟩ := HZ.out
      have hba := HBA.out
      refine bodyPost_ret (results_tmp5 rfl _ _ _) rfl ?_
      exact ⟨ret5 (z1.trans hba).symm (by rw [z2, hba]) (by rw [z3, hba]) (by rw [z4, hba]) (by simp at hs; exact hs.symm), below_drewN (below_of_new HB.out) _⟩
    · have hba : base P J g = g * P := by simp [base, hg]
      have HBA := Lib.hid hba
      have hg' : (g == 0) = false := by simp [hg]
      have y0 : 0 ≤ spanA B P I J g := by omega
      have y1 : spanA B P I J g ≤ 4095 := by omega
      clear hba hsa hz h G hgo g1 x2 hg
      go_enter Try.func60, Try.ntmps60
      go_wp2_with (go_at_call 59; refine (lspan_any _ _ _ _ _ _).mono ?_; rintro e w1 ⟨rfl, hb⟩; obtain ⟨c0, c1, c2, c3⟩ := geo_cell (by simpa using hb); have HB := Lib.hid hb; clear hb)
      go_quiet (fail)
      go_wp2
      obtain ⟨z1, z2, z3, z4⟩ := HZ.out
      have hba := HBA.out
      have hsa := HSA.out
      refine bodyPost_ret (results_tmp5 rfl _ _ _) rfl ?_
      exact ⟨ret5 (by rw [z1, hba, hsa]) (by rw [z2, hba, hsa]) (by rw [z3, hba, hsa]) (by rw [z4, hba, hsa]) (by simp at hs; exact hs.symm), below_drewN (below_of_new HB.out) _⟩

theorem linode_any (B P I J n : Int) (w : World) :
    Calls Try.prog 61 #[.agg #[.int .i64 B, .int .i64 P, .int .i64 I, .int .i64 J], .int .i64 n] w fun e w' =>
      e = .returned (.tuple #[.int .i64 (inoA B P I J n), .int .i64 (inoB B P I J n), .int .i64 (inoE B P I J n)]) ∧ Below w.heap.size w w' := by
  have fin := (Below.refl w.heap.size w).alloc (Nat.le_refl _) (.cells #[.int .i64 B, .int .i64 P, .int .i64 I, .int .i64 J] 37)
  have FIN := Lib.hid fin
  clear fin
  cases h : isi B P I J n
  · have hz : inoA B P I J n = 0 ∧ inoB B P I J n = 0 ∧ inoE B P I J n = 22 := by simp [inoA, inoB, inoE, h]
    have HZ := Lib.hid hz
    by_cases hn : n < 1
    · clear hz h
      go_enter Try.func61, Try.ntmps61
      go_wp2_with fail
      go_quiet (fail)
      go_wp2
      go_ret3
      obtain ⟨z1, z2, z3⟩ := HZ.out
      exact ⟨ret3 z1.symm z2.symm z3.symm, below_drewN FIN.out _⟩
    · have hn2 : grp B P I J * I < n := by simp [isi] at h; omega
      have hgr := grp_le B P I J
      obtain ⟨gr0, gr1⟩ := hgr
      have hw : IntKind.i64.wrap (grp B P I J * I) = grp B P I J * I := by
        cases hk : gok B P I J
        · rw [grp_no hk]; simp [IntKind.wrap_i64]
        · have G := Geo.of hk
          have i1 := G.i1; have i2 := G.i2
          have : grp B P I J * I ≤ 14 * 512 := Int.mul_le_mul gr1 i2 (by omega) (by omega)
          have : 0 ≤ grp B P I J * I := Int.mul_nonneg gr0 (by omega)
          rw [IntKind.wrap_i64]; omega
      have hd : decide (n < 1) = false := by simp; omega
      have hd2 : decide (grp B P I J * I < n) = true := by simpa using hn2
      clear hz h
      go_enter Try.func61, Try.ntmps61
      go_wp2_with fail
      go_region_held3 (fun w' => w'.cell? ⟨w.heap.size, 0, none⟩ = some (.int .i64 B) ∧ w'.cell? ⟨w.heap.size, 1, none⟩ = some (.int .i64 P) ∧ w'.cell? ⟨w.heap.size, 2, none⟩ = some (.int .i64 I) ∧ w'.cell? ⟨w.heap.size, 3, none⟩ = some (.int .i64 J))
        (first | go_keep | (refine ⟨?_, ?_, ?_, ?_⟩ <;> (rw [hb.cell (by simp)]; simp [go_sem])))
        (first | (go_simp; go_at_call 62; refine (lgroups_any _ _ _ _ _).mono ?_; rintro e w1 ⟨rfl, hb⟩))
      go_wp2
      go_ret3
      obtain ⟨z1, z2, z3⟩ := HZ.out
      exact ⟨ret3 z1.symm z2.symm z3.symm, FIN.out.drew.trans (hb.mono (by simp))⟩
  · obtain ⟨hgo, n0, n1⟩ := isi_true h
    have hz : inoA B P I J n = placeC B P I J ((n - 1) / I) + (n - 1) % I / 2 ∧ inoB B P I J n = (n - 1) % I % 2 * 128 ∧ inoE B P I J n = 0 := by simp [inoA, inoB, inoE, h]
    have HZ := Lib.hid hz
    have G := Geo.of hgo
    obtain ⟨x1, x2, x3, x4, x5⟩ := G.ino n0 n1
    have i1 := G.i1; have i2 := G.i2; have j1 := G.j1; have j2 := G.j2
    have hgg := grp_yes hgo
    have hle := G.n2
    have m1 : grp B P I J * I ≤ 14 * 512 := Int.mul_le_mul (by omega) i2 (by omega) (by omega)
    have m0 : 0 ≤ grp B P I J * I := Int.mul_nonneg (by have := G.n1; omega) (by omega)
    have hw : IntKind.i64.wrap (grp B P I J * I) = grp B P I J * I := by rw [IntKind.wrap_i64]; omega
    have hd : decide (n < 1) = false := by simp; omega
    have hd2 : decide (grp B P I J * I < n) = false := by rw [hgg]; simpa using n1
    obtain ⟨q0, q1⟩ : 0 ≤ placeC B P I J ((n - 1) / I) ∧ placeC B P I J ((n - 1) / I) ≤ 5000 := by
      have hi := isg_mk hgo x1 x2
      obtain ⟨y1, y2, y3⟩ := G.mul x1 x2
      simp only [placeC, hi, if_true, base]
      split <;> omega
    clear hz h hgg n1 m1 m0 hgo G x2
    go_enter Try.func61, Try.ntmps61
    go_wp2_with fail
    go_region_held3 (fun w' => w'.cell? ⟨w.heap.size, 0, none⟩ = some (.int .i64 B) ∧ w'.cell? ⟨w.heap.size, 1, none⟩ = some (.int .i64 P) ∧ w'.cell? ⟨w.heap.size, 2, none⟩ = some (.int .i64 I) ∧ w'.cell? ⟨w.heap.size, 3, none⟩ = some (.int .i64 J))
      (first | go_keep | (refine ⟨?_, ?_, ?_, ?_⟩ <;> (rw [hb.cell (by simp)]; simp [go_sem])))
      (first | (go_simp; go_at_call 62; refine (lgroups_any _ _ _ _ _).mono ?_; rintro e w1 ⟨rfl, hb⟩))
    clear hw
    obtain ⟨c0, c1, c2, c3⟩ : w1.cell? ⟨w.heap.size, 0, none⟩ = some (.int .i64 B) ∧ w1.cell? ⟨w.heap.size, 1, none⟩ = some (.int .i64 P) ∧ w1.cell? ⟨w.heap.size, 2, none⟩ = some (.int .i64 I) ∧ w1.cell? ⟨w.heap.size, 3, none⟩ = some (.int .i64 J) := by
      refine ⟨?_, ?_, ?_, ?_⟩ <;> (rw [hb.cell (by simp)]; simp [go_sem])
    have HB := Lib.hid hb
    clear hb
    go_wp2
    go_quiet (fail)
    go_wp2_with (go_at_call 60; refine (lplace_any _ _ _ _ _ _).mono ?_; rintro e w2 ⟨rfl, hb2⟩; have HB2 := Lib.hid hb2; clear hb2)
    go_ret3
    obtain ⟨z1, z2, z3⟩ := HZ.out
    exact ⟨ret3 z1.symm z2.symm z3.symm, (FIN.out.drew.trans (HB.out.mono (by simp))).trans ((below_drewN (Below.refl _ w1) nq).trans (HB2.out.mono (by have := HB.out.size; simp at this; simp; omega)))⟩
end Go.Proofs.Ytafonjnanfekkaa.Lay
