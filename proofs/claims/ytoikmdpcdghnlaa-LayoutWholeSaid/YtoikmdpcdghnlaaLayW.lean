/-
  THE LAW LayoutWhole of layer 4: the walk of the law's own text.
-/
import Derived.Test.YtoikmdpcdghnlaaLayP
import Derived.Test.YtoikmdpcdghnlaaLayV
namespace Go.Proofs.Ytoikmdpcdghnlaa.Lay
open Go.RowKit
set_option maxHeartbeats 16000000
set_option maxRecDepth 100000
set_option linter.unusedVariables false
set_option linter.unusedSimpArgs false


theorem whole_no (B P I J : Int) (w : World) (h : gok B P I J = false) :
    Calls Try.prog 4 #[.agg #[.int .i64 B, .int .i64 P, .int .i64 I, .int .i64 J]] w fun e w' => e = .returned (.bool true) ∧ Below w.heap.size w w' := by
  have hc : (chk B P I J != 0) = true := by simp [chk, h]
  have hg : (grp B P I J == 0) = true := by simp [grp, h]
  clear h
  go_enter Try.func4, Try.ntmps4
  go_wp2_with fail
  refine (awake_any _).mono ?_
  rintro e w1 ⟨rfl, hb⟩
  have HB := Lib.hid (below_of_new hb)
  have G := (GeoAt.new w 23 B P I J).below hb
  obtain ⟨c0, c1, c2, c3⟩ := G.out
  clear hb
  go_wp2_with (first | (go_at_call 15; refine (lgroups_any _ _ _ _ _).mono ?_; rintro e w2 ⟨rfl, hb⟩; replace HB := Lib.hid (HB.out.trans (hb.mono HB.out.size)); clear c0 c1 c2 c3; replace G := G.below hb; obtain ⟨c0, c1, c2, c3⟩ := G.out; clear hb) | (go_at_call 13; refine (lcheck_any _ _ _ _ _).mono ?_; rintro e w2 ⟨rfl, hb⟩; replace HB := Lib.hid (HB.out.trans (hb.mono HB.out.size)); clear c0 c1 c2 c3; replace G := G.below hb; obtain ⟨c0, c1, c2, c3⟩ := G.out; clear hb))
  go_ret
  exact ⟨rfl, HB.out⟩

theorem whole_yes (B P I J : Int) (w : World) (h : gok B P I J = true) :
    Calls Try.prog 4 #[.agg #[.int .i64 B, .int .i64 P, .int .i64 I, .int .i64 J]] w fun e w' => e = .returned (.bool true) ∧ Below w.heap.size w w' := by
  have G0 := Geo.of h
  have hc : (chk B P I J != 0) = false := by simp [chk, h]
  obtain ⟨n, hn⟩ : ∃ n : Nat, (n : Int) = grp B P I J := ⟨(grp B P I J).toNat, by have := grp_le B P I J; omega⟩
  have hn14 : n ≤ 14 := by have := grp_le B P I J; omega
  have HN := Lib.hid hn
  have HGO := Lib.hid h
  have b1 := G0.b1; have b2 := G0.b2; have i1 := G0.i1; have i2 := G0.i2
  have m0 : 0 ≤ (n : Int) * I := Int.mul_nonneg (by omega) (by omega)
  have m1 : (n : Int) * I ≤ 14 * 512 := Int.mul_le_mul (by omega) i2 (by omega) (by omega)
  obtain ⟨N, hN⟩ : ∃ N : Nat, (N : Int) = (n : Int) * I := ⟨((n : Int) * I).toNat, by omega⟩
  have HNN := Lib.hid hN
  clear h hn G0 hN
  go_enter Try.func4, Try.ntmps4
  go_wp2_with fail
  refine (awake_any _).mono ?_
  rintro e w1 ⟨rfl, hb⟩
  have HB := Lib.hid (below_of_new hb)
  have G := (GeoAt.new w 23 B P I J).below hb
  obtain ⟨c0, c1, c2, c3⟩ := G.out
  clear hb
  go_wp2_with (first | (go_at_call 15; refine (lgroups_any _ _ _ _ _).mono ?_; rintro e w2 ⟨rfl, hb⟩; replace HB := Lib.hid (HB.out.trans (hb.mono HB.out.size)); clear c0 c1 c2 c3; replace G := G.below hb; obtain ⟨c0, c1, c2, c3⟩ := G.out; clear hb; rw [← HN.out]) | (go_at_call 13; refine (lcheck_any _ _ _ _ _).mono ?_; rintro e w2 ⟨rfl, hb⟩; replace HB := Lib.hid (HB.out.trans (hb.mono HB.out.size)); clear c0 c1 c2 c3; replace G := G.below hb; obtain ⟨c0, c1, c2, c3⟩ := G.out; clear hb))
  go_loopw [5, 6, 7] (fun a d i wr => ∃ k : Nat, k ≤ n ∧ i = .int .i64 k ∧ a = .int .i64 (ate B P I J k) ∧ d = .int .i64 (dsum B P I J k) ∧ GeoAt wr w.heap.size B P I J ∧ Below w.heap.size w wr) (fun _ _ i _ => n - (intOf i).toNat)
  case atStart => exact ⟨0, Nat.zero_le _, rfl, rfl, rfl, G, HB.out⟩
  case round =>
    clear c0 c1 c2 c3 G HB
    obtain ⟨k, hk, rfl, rfl, rfl, G, hbr⟩ := hrel
    obtain ⟨c0, c1, c2, c3⟩ := G.out
    have HB := Lib.hid hbr
    clear hbr
    by_cases hlt : k < n
    · obtain ⟨f1, f2, f3, f4, f5, f6, f7, f8, f9, f10⟩ := group_facts HGO.out k (by have := HN.out; rw [grp_yes HGO.out] at this; omega)
      obtain ⟨a0, a1, _⟩ := dsum_le HGO.out k (by have := HN.out; rw [grp_yes HGO.out] at this; omega)
      have t1 : (spanE B P I J k != 0) = false := by simp [f1]
      have t2 : (spanA B P I J k != ate B P I J k) = false := by simp [f2]
      have t3 : (placeB B P I J k != placeA B P I J k + 1) = false := by simp [f5]
      have t4 : (placeC B P I J k != placeB B P I J k + 1) = false := by simp [f6]
      have u1 : 0 ≤ placeA B P I J k := by omega
      have u2 : placeA B P I J k ≤ 5000 := by omega
      have u3 : 0 ≤ placeB B P I J k := by omega
      have u4 : placeB B P I J k ≤ 5000 := by omega
      have u5 : 0 ≤ placeD B P I J k := by omega
      have u6 : placeD B P I J k ≤ 5000 := by omega
      have u7 : 0 ≤ spanB B P I J k := by omega
      clear f1 f2 f5 f6
      have hds : dsum B P I J (k + 1) = dsum B P I J k + spanB B P I J k - placeD B P I J k := by simp only [dsum]; omega
      have HDS := Lib.hid hds
      clear hds
      go_wp2_with (first | (go_at_call 7; refine (lspan_any _ _ _ _ _ _).mono ?_; rintro e w2 ⟨rfl, hb⟩; replace HB := Lib.hid (HB.out.trans (hb.mono HB.out.size)); clear c0 c1 c2 c3; replace G := G.below hb; obtain ⟨c0, c1, c2, c3⟩ := G.out; clear hb) | (go_at_call 9; refine (lplace_any _ _ _ _ _ _).mono ?_; rintro e w2 ⟨rfl, hb⟩; replace HB := Lib.hid (HB.out.trans (hb.mono HB.out.size)); clear c0 c1 c2 c3; replace G := G.below hb; obtain ⟨c0, c1, c2, c3⟩ := G.out; clear hb))
      go_roundw
      case rel => exact ⟨k + 1, by omega, by go_num, rfl, by rw [HDS.out], G, HB.out⟩
      case measure => simp [intOf]; omega
    · obtain rfl : k = n := by omega
      have hat : (ate B P I J k != B) = false := by simp [ate_end HGO.out k HN.out]
      have hdf := fixd_eq HGO.out k HN.out
      obtain ⟨a0, a1, _⟩ := dsum_le HGO.out k (by have := HN.out; rw [grp_yes HGO.out] at this; omega)
      have hw : IntKind.i64.wrap (B - fixd B P I J) = B - fixd B P I J := by rw [IntKind.wrap_i64]; omega
      have hd : (dsum B P I J k != B - fixd B P I J) = false := by simp; omega
      clear hdf
      go_wp2_with fail
      replace HB := Lib.hid HB.out.drew
      replace G : GeoAt wr.drew w.heap.size B P I J := G
      go_region_held3 (fun w' => w'.cell? ⟨w.heap.size, 0, none⟩ = some (.int .i64 B) ∧ w'.cell? ⟨w.heap.size, 1, none⟩ = some (.int .i64 P) ∧ w'.cell? ⟨w.heap.size, 2, none⟩ = some (.int .i64 I) ∧ w'.cell? ⟨w.heap.size, 3, none⟩ = some (.int .i64 J))
        (first | go_keep | exact G.out)
        (first | (go_simp; go_at_call 17; refine (lfixed_any _ _ _ _ _).mono ?_; rintro e w2 ⟨rfl, hb⟩; replace HB := Lib.hid (HB.out.trans (hb.mono HB.out.size)); clear c0 c1 c2 c3; replace G := G.below hb; obtain ⟨c0, c1, c2, c3⟩ := G.out; clear hb))
      clear hw hd hat
      go_wp2_with fail
      go_loopw [16, 17] (fun l i wr => ∃ q : Nat, 1 ≤ q ∧ q ≤ N + 1 ∧ i = .int .i64 q ∧ l = .int .i64 (ila B P I J q) ∧ GeoAt wr w.heap.size B P I J ∧ Below w.heap.size w wr) (fun _ i _ => N + 1 - (intOf i).toNat)
      case atStart => exact ⟨1, by omega, by omega, rfl, rfl, G, HB.out⟩
      case round =>
        clear c0 c1 c2 c3 G HB a0 a1
        obtain ⟨q, q0, q1, rfl, rfl, G, hbr⟩ := hrel
        obtain ⟨c0, c1, c2, c3⟩ := G.out
        have HB := Lib.hid hbr
        clear hbr
        by_cases hlt : q ≤ N
        · have hle : (q : Int) ≤ (k : Int) * I := by have := HNN.out; omega
          have hq : (q : Int) ≤ ((B - 1) / P + 1) * I := by have := HN.out; rw [grp_yes HGO.out] at this; rw [← this]; exact hle
          obtain ⟨f1, f2, f3, f4, f5, f6, f7, f8⟩ := ilo_eq HGO.out (n := q) (by omega) hq
          obtain ⟨l1, l2, l3⟩ := ila_lt HGO.out q q0 hq
          obtain ⟨x1, x2, x3, x4, x5⟩ := (Geo.of HGO.out).ino (n := q) (by omega) hq
          have t0 : (inoE B P I J q != 0) = false := by simp [f1]
          have v1 : 0 ≤ inoA B P I J q := by omega
          have v2 : inoA B P I J q ≤ 6000 := by omega
          have v3 : placeC B P I J (((q : Int) - 1) / I) ≤ inoA B P I J q := by omega
          have v4 : inoA B P I J q < placeD B P I J (((q : Int) - 1) / I) := by have := (Geo.of HGO.out).i3; omega
          have v5 : ila B P I J q < inoA B P I J q * 256 + inoB B P I J q := l1
          have v6 : 0 ≤ inoB B P I J q := by omega
          have v7 : inoB B P I J q ≤ 128 := by omega
          have hb2 : inoB B P I J q = 0 ∨ inoB B P I J q = 128 := by omega
          have hd3 : IntKind.i64.wrap ((q : Int) - 1) = (q : Int) - 1 := by rw [IntKind.wrap_i64]; omega
          have hd4 : IntKind.i64.wrap (((q : Int) - 1).tdiv I) = ((q : Int) - 1) / I := by rw [Int.tdiv_eq_ediv_of_nonneg (by omega), IntKind.wrap_i64]; have : ((q : Int) - 1) / I ≤ (q : Int) - 1 := Int.ediv_le_self _ (by omega); omega
          have hI : ¬ I = 0 := by omega
          have hla : ila B P I J (q + 1) = inoA B P I J q * 256 + inoB B P I J q := by
            obtain ⟨q', rfl⟩ : ∃ q', q = q' + 1 := ⟨q - 1, by omega⟩
            rfl
          have HLA := Lib.hid hla
          have HB2 := Lib.hid hb2
          clear f1 f2 f3 f4 f5 f6 hla hb2 l1 hq f7 f8 x1 x2 x3 x4
          go_wp2_with (first | (go_at_call 11; refine (linode_any _ _ _ _ _ _).mono ?_; rintro e w3 ⟨rfl, hb⟩; replace HB := Lib.hid (HB.out.trans (hb.mono HB.out.size)); clear c0 c1 c2 c3; replace G := G.below hb; obtain ⟨c0, c1, c2, c3⟩ := G.out; clear hb))
          replace HB := Lib.hid HB.out.drew
          replace G : GeoAt w3.drew w.heap.size B P I J := G
          go_region_held3 (fun w' => w'.cell? ⟨w.heap.size, 0, none⟩ = some (.int .i64 B) ∧ w'.cell? ⟨w.heap.size, 1, none⟩ = some (.int .i64 P) ∧ w'.cell? ⟨w.heap.size, 2, none⟩ = some (.int .i64 I) ∧ w'.cell? ⟨w.heap.size, 3, none⟩ = some (.int .i64 J))
            (first | go_keep | exact G.out)
            (first | (go_simp; go_at_call 9; refine (lplace_any _ _ _ _ _ _).mono ?_; rintro e w4 ⟨rfl, hb⟩; replace HB := Lib.hid (HB.out.trans (hb.mono HB.out.size)); clear c0 c1 c2 c3; replace G := G.below hb; obtain ⟨c0, c1, c2, c3⟩ := G.out; clear hb))
          clear hd3 hd4 hI
          rcases HB2.out with hz | hz
          · have t1 : (inoB B P I J q != 0) = false := by simp [hz]
            clear hz
            go_wp2_with fail
            go_roundw
            case rel => exact ⟨q + 1, by omega, by omega, by go_num, by rw [HLA.out], G, HB.out⟩
            case measure => simp [intOf]; omega
          · have t1 : (inoB B P I J q != 0) = true := by simp [hz]
            have t2 : (inoB B P I J q != 128) = false := by simp [hz]
            clear hz
            go_wp2_with fail
            go_roundw
            case rel => exact ⟨q + 1, by omega, by omega, by go_num, by rw [HLA.out], G, HB.out⟩
            case measure => simp [intOf]; omega
        · have hle : ¬ (q : Int) ≤ (k : Int) * I := by have := HNN.out; omega
          go_wp2_with fail
          go_ret
          exact ⟨rfl, HB.out⟩

theorem layoutWhole_walk (B P I J : Int) (w : World) :
    Calls Try.prog 4 #[.agg #[.int .i64 B, .int .i64 P, .int .i64 I, .int .i64 J]] w fun e w' => e = .returned (.bool true) ∧ Below w.heap.size w w' := by
  cases h : gok B P I J
  · exact whole_no B P I J w h
  · exact whole_yes B P I J w h
end Go.Proofs.Ytoikmdpcdghnlaa.Lay
