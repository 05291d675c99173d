
/-
  THE WALKS of layer 4 (layout), blocks: numbers, widths, sealed, record.
-/
import Derived.Test.YtafonjnanfekkaaG
import Derived.Test.YtafonjnanfekkaaLayF
import Derived.Test.YtafonjnanfekkaaWire8
import Derived.Test.YtafonjnanfekkaaLaw2
import Derived.Test.YtafonjnanfekkaaWire9
import Derived.Test.YtafonjnanfekkaaAwake
namespace Go.Proofs.Ytafonjnanfekkaa.Lay
open Go.RowKit Go.Proofs.Ytafonjnanfekkaa.Wire
set_option maxHeartbeats 8000000
set_option maxRecDepth 100000
set_option linter.unusedVariables false
set_option linter.unusedSimpArgs false

/-- The numbers that come one behind the other, from a place on. -/
def recs (bs : List UInt8) : Int → List Int → List Int
  | _, [] => []
  | p, z :: ws => (getX bs p z : Int) :: recs bs (p + z) ws
theorem recs_length (bs : List UInt8) : ∀ (ws : List Int) (p : Int), (recs bs p ws).length = ws.length
  | [], _ => rfl
  | z :: ws, p => by simp [recs, recs_length bs ws]
theorem recs_at (bs : List UInt8) : ∀ (ws : List Int) (p : Int) (k : Nat) (z : Int), ws[k]? = some z → (recs bs p ws)[k]? = some ((getX bs (p + (ws.take k).sum) z : Int))
  | [], _, _, _, h => by simp at h
  | y :: ws, p, 0, z, h => by simp at h; subst h; simp [recs]
  | y :: ws, p, k + 1, z, h => by
    simp only [recs, List.getElem?_cons_succ, List.take_succ_cons, List.sum_cons]
    rw [recs_at bs ws (p + y) k z (by simpa using h), Int.add_assoc]
theorem getX_lt (bs : List UInt8) (p z : Int) (hz : z ≤ 4) : getX bs p z < 4294967296 := by
  unfold getX
  split
  · rename_i hf
    have hl := sub_length hf
    have := num_lt (sub bs p z)
    have h2 : 256 ^ (sub bs p z).length ≤ 256 ^ 4 := Nat.pow_le_pow_right (by omega) (by omega)
    omega
  · omega

theorem numbers_any4 (A : Option Addr) (n c : Nat) (l : List Nat) (w : World) (hn : n ≤ 17592186044415) (hr : RowAt w A n (ints (l.map fun (x : Nat) => (x : Int)))) (h63 : ∀ x ∈ l, x ≤ 9223372036854775807) :
    Calls Try.prog 66 #[.slice A n c] w fun e w' => ∃ v, e = .returned v ∧ Below w.heap.size w w' ∧ w'.ownsRow w.heap.size 84 1 v n (nums l) := by
  have hlw : l.length = n := by have := hr.len; simpa [ints] using this
  have HR := Lib.hid hr
  have HLW := Lib.hid hlw
  have H63 := Lib.hid h63
  clear hr hlw h63
  go_enter Try.func66, Try.ntmps66
  go_wp2_with fail
  go_loopw [3, 8] (fun v i wr => ∃ (k : Nat), k ≤ n ∧ i = .int .i64 k ∧ wr.ownsRow w.heap.size 84 1 v k (nums (l.take k)) ∧ Below w.heap.size w wr) (fun _ i _ => n - (intOf i).toNat)
  case atStart => exact ⟨0, by omega, rfl, World.ownsRow_nil _ _ _ _, Below.refl _ _⟩
  case round =>
    obtain ⟨k, hk, rfl, hown, hbel⟩ := hrel
    have hsz := hbel.size
    by_cases hlt : k < n
    · obtain ⟨a, z, rfl, hz, hcz0⟩ := HR.out.int_at hlt
      rw [List.getElem?_map, List.getElem?_eq_getElem (by have := HLW.out; omega)] at hz
      obtain ⟨y, hy⟩ : ∃ y, l[k]? = some y := ⟨_, List.getElem?_eq_getElem (by have := HLW.out; omega)⟩
      have hzy : z = (y : Int) := by
        rw [List.getElem?_eq_getElem (by have := HLW.out; omega)] at hy
        simp at hz hy; rw [← hz, hy]
      subst hzy
      have y63 : y ≤ 9223372036854775807 := H63.out y (List.mem_of_getElem? hy)
      have hlt0 := World.block_lt_of_cell? w _ hcz0
      have hcz := (hbel.cell hlt0).trans hcz0
      have htk : l.take (k + 1) = l.take k ++ [y] := by rw [List.take_add_one, hy]; rfl
      have X5 := Lib.hid hown
      have X6 := Lib.hid hbel
      have X7 := Lib.hid htk
      clear hown hbel htk hy hz
      go_wp2_with (first
        | (at_builtin
           refine app_u64 _ rfl (.tmp 12) (.tmp 15) rfl w.heap.size u3 k (nums (l.take k)) rfl (X5.out.alloc _) ⟨wr.heap.size, 0, none⟩ 1 y rfl (by simp) (by omega) (by simp; omega) ?_
           intro v' w2 hown2 hg2
           have bel2 := Lib.hid (below_row (X6.out.alloc hsz (.cells #[.int .u64 (y : Int)] 84)) hg2 (fun g e => (X5.out.lt g e).1) (by simp; omega))
           have own2 := Lib.hid hown2
           clear hown2 hg2)
        | fail)
      go_roundw
      case rel => exact ⟨k + 1, by omega, by go_num, by rw [X7.out, nums, List.map_append]; exact own2.out, bel2.out⟩
      case measure => simp [intOf]; omega
    · obtain rfl : k = n := by omega
      have hul : l.take k = l := List.take_of_length_le (by rw [HLW.out]; exact Nat.le_refl _)
      rw [hul] at hown
      have X5 := Lib.hid hown
      have X6 := Lib.hid hbel
      clear hown hbel hul
      go_wp2_with fail
      go_ret
      exact ⟨_, rfl, X6.out, X5.out⟩

/-- The widths of the first block's numbers. -/
def superWs : List Int := [4, 2, 4, 4, 4, 4, 4, 4, 4, 4, 1]
theorem widths_any (w : World) : Calls Try.prog 67 #[] w fun e w' => ∃ v, e = .returned v ∧ Below w.heap.size w w' ∧ w'.ownsRow w.heap.size 3 1 v 11 (ints superWs) := by
  have hl := lit_ownN w 3 1 (ints superWs) 11 rfl (by unfold maxLen; omega)
  have HL := Lib.hid hl
  have HB := Lib.hid ((Below.refl w.heap.size w).alloc (Nat.le_refl _) (.cells (ints superWs).toArray 3))
  clear hl
  go_enter Try.func67, Try.ntmps67
  go_wp2
  go_ret
  exact ⟨_, rfl, HB.out, HL.out⟩

theorem rep3 (m : Nat) : ints (List.replicate (m + 3) 4) = ints (List.replicate m 4) ++ ints [4, 4, 4] := by
  rw [show ([4, 4, 4] : List Int) = List.replicate 3 4 from rfl, ints, ints, ints, ← List.map_append, List.replicate_append_replicate]
theorem gwidths_any (n : Nat) (w : World) (hn : n ≤ 1048576) : Calls Try.prog 74 #[.int .i64 (n : Int)] w fun e w' => ∃ v, e = .returned v ∧ Below w.heap.size w w' ∧ w'.ownsRow w.heap.size 3 1 v (3 * n) (ints (List.replicate (3 * n) 4)) := by
  go_enter Try.func74, Try.ntmps74
  go_wp2_with fail
  go_loopw [3, 5] (fun v i wr => ∃ (k : Nat), k ≤ n ∧ i = .int .i64 k ∧ wr.ownsRow w.heap.size 3 1 v (3 * k) (ints (List.replicate (3 * k) 4)) ∧ Below w.heap.size w wr) (fun _ i _ => n - (intOf i).toNat)
  case atStart => exact ⟨0, by omega, rfl, World.ownsRow_nil _ _ _ _, Below.refl _ _⟩
  case round =>
    obtain ⟨k, hk, rfl, hown, hbel⟩ := hrel
    have hsz := hbel.size
    by_cases hlt : k < n
    · have X5 := Lib.hid hown
      have X6 := Lib.hid hbel
      have XL := Lib.hid (lit_rowN wr 3 (ints [4, 4, 4]) 3 wr.heap.size rfl rfl)
      clear hown hbel
      go_wp2_with (first
        | (at_builtin
           refine app_i64 _ rfl (.tmp 7) (.tmp 8) rfl w.heap.size u3 (3 * k) (ints (List.replicate (3 * k) 4)) rfl (X5.out.alloc _) (some ⟨wr.heap.size, 0, none⟩) 3 3 [4, 4, 4] rfl (fun e => by cases e) XL.out (by omega) (by simp; omega) ?_
           intro v' w2 hown2 hg2
           have bel2 := Lib.hid (below_row (X6.out.alloc hsz (.cells (ints [4, 4, 4]).toArray 3)) hg2 (fun g e => (X5.out.lt g e).1) (by simp; omega))
           have own2 := Lib.hid hown2
           clear hown2 hg2)
        | fail)
      go_roundw
      case rel => exact ⟨k + 1, by omega, by go_num, by
        rw [show 3 * (k + 1) = 3 * k + 3 by omega, rep3]; exact own2.out, bel2.out⟩
      case measure => simp [intOf]; omega
    · obtain rfl : k = n := by omega
      have X5 := Lib.hid hown
      have X6 := Lib.hid hbel
      clear hown hbel
      go_wp2_with fail
      go_ret
      exact ⟨_, rfl, X6.out, X5.out⟩

theorem sealB_length (seed : BitVec 32) (bs : List UInt8) : (sealB seed bs).length = bs.length := by
  unfold sealB
  split
  · simp [le_length]; omega
  · rfl
theorem seal_any (base n c : Nat) (A : Option Addr) (bs : List UInt8) (seed : BitVec 32) (w : World) (hbl : bs.length = n)
    (hown : w.ownsRow base 5 1 (.slice A n c) n (bvl bs)) :
    Calls Try.prog 19 #[.slice A n c, .int .u32 (seed.toNat : Int)] w fun e w' => e = .returned (.int .i64 (sealE n)) ∧
      w'.ownsRow base 5 1 (.slice A n c) n (bvl (sealB seed bs)) ∧ w.grownBy w' (Value.slice A n c).ownBlock := by
  by_cases h0 : 0 < n
  · obtain ⟨g, cap, cs, e, _, _, _, _, _⟩ := own_form hown h0
    injection e with e1 e2 e3
    subst e1 e3
    refine (seal_row base g n c n bs [] seed w hbl (Nat.le_refl _) (by rw [List.append_nil]; exact hown)).mono ?_
    rintro e w' ⟨he, ho, hg⟩
    rw [List.append_nil] at ho
    exact ⟨he, ho, hg⟩
  · obtain rfl : n = 0 := by omega
    refine (seal_no A 0 c seed w (by omega) (by omega)).mono ?_
    rintro e w' ⟨he, hb⟩
    exact ⟨he, by rw [show sealB seed bs = bs by rw [sealB, if_neg (by omega)]]; exact own_below hown hb, only_of_below hb _⟩

theorem packB_lenle (l : List Nat) (ws : List Int) (size : Int) (hs : size ≤ 4096) : (packB l ws size).length ≤ 4096 := by
  unfold packB
  split
  · rename_i hm
    simp only [pmay, Bool.and_eq_true, decide_eq_true_eq] at hm
    obtain ⟨m1, m2, m3, m4⟩ := hm
    cases hp : packs l ws with
    | none => simp
    | some bs =>
      have hbl : bs = pre l ws l.length := by
        rcases first_big l ws m1 with hbig | ⟨j, x, z, j1, j2, j3, _⟩
        · have := packs_some l ws m1 hbig
          rw [hp] at this; injection this
        · have := packs_none l ws j x z j1 j2 j3
          rw [hp] at this; cases this
      have hpl := pre_length l ws l.length m1 m2
      rw [m1, List.take_length, ← m1, ← hbl] at hpl
      simp; omega
  · simp
theorem sealed_lay (A0 A1 : Option Addr) (n0 c0 n1 c1 : Nat) (l : List Nat) (ws : List Int) (seed : BitVec 32) (w : World) (hn : n1 ≤ 1125899906842624) (h64 : ∀ x ∈ l, x < 18446744073709551616)
    (hl : RowAt w A0 n0 (nums l)) (hr : RowAt w A1 n1 (ints ws)) :
    Calls Try.prog 65 #[.slice A0 n0 c0, .slice A1 n1 c1, .int .u32 (seed.toNat : Int)] w fun e w' => ∃ v, e = .returned v ∧ Below w.heap.size w w' ∧
      w'.ownsRow w.heap.size 5 1 v (sealB seed (packB l ws 256)).length (bvl (sealB seed (packB l ws 256))) := by
  have HP := Lib.hid (pack_any A0 A1 n0 c0 n1 c1 l ws 256 w hn h64 hl hr)
  have hsl := sealB_length seed (packB l ws 256)
  clear hl hr h64
  go_enter Try.func65, Try.ntmps65
  go_wp2_with fail
  refine HP.out.mono ?_
  rintro e w1 ⟨v, rfl, hb1, ho1⟩
  generalize hpb : packB l ws 256 = pb at *
  have HPB := Lib.hid hpb
  clear hpb
  obtain ⟨A, c, rfl, _, _, _, _, _⟩ := own_slice ho1
  obtain ⟨n, hpn⟩ : ∃ n, pb.length = n := ⟨_, rfl⟩
  rw [hpn] at ho1 hsl ⊢
  have HS := Lib.hid (seal_any _ n c A pb seed w1 hpn ho1)
  have B1 := Lib.hid hb1
  have O1 := Lib.hid ho1
  have HSL := Lib.hid hsl
  clear hb1 ho1 hpn hsl
  go_wp2_with fail
  refine HS.out.mono ?_
  rintro e w2 ⟨rfl, ho2, hg2⟩
  have O2 := Lib.hid ho2
  have B2 := Lib.hid (below_own O1.out B1.out (Nat.le_refl _) hg2)
  clear ho2 hg2
  go_wp2_with fail
  go_ret
  refine ⟨_, rfl, B2.out, ?_⟩
  rw [HPB.out, HSL.out]
  exact O2.out

theorem record_any (A0 A1 : Option Addr) (n c0 len c1 : Nat) (ws : List Int) (bs : List UInt8) (w : World) (hn : n ≤ 1048576) (hl : len ≤ c1) (hc1 : c1 ≤ 9223372036854775807)
    (hr : RowAt w A0 n (ints ws)) (hb : BytesAt w A1 len bs) (hw : wok ws = true) (h4 : ∀ z ∈ ws, z ≤ 4) :
    Calls Try.prog 71 #[.slice A1 len c1, .slice A0 n c0] w fun e w' => ∃ v, e = .returned v ∧ Below w.heap.size w w' ∧
      w'.ownsRow w.heap.size 3 1 v n (ints (recs bs 0 ws)) := by
  have hlw : ws.length = n := by have := hr.len; simpa [ints] using this
  have hwl := (wsum_le ws hw).2
  have HW := Lib.hid hw
  have H4 := Lib.hid h4
  have HR := Lib.hid hr
  have HB := Lib.hid hb
  have HLW := Lib.hid hlw
  rw [hlw] at hwl
  clear hr hb hw hlw h4
  go_enter Try.func71, Try.ntmps71
  go_wp2_with fail
  go_loopw [5, 6, 8, 9, 10, 13] (fun v p _ _ _ i wr => ∃ (k s : Nat), k ≤ n ∧ i = .int .i64 k ∧ (s : Int) = (ws.take k).sum ∧ p = .int .i64 s ∧
    wr.ownsRow w.heap.size 3 1 v k (ints ((recs bs 0 ws).take k)) ∧ Below w.heap.size w wr) (fun _ _ _ _ _ i _ => n - (intOf i).toNat)
  case atStart => exact ⟨0, 0, by omega, rfl, by simp, rfl, World.ownsRow_nil _ _ _ _, Below.refl _ _⟩
  case round =>
    obtain ⟨k, s, hk, rfl, hs, rfl, hown, hbel⟩ := hrel
    have hsz := hbel.size
    obtain ⟨s0, s1⟩ := wsum_mono HW.out k
    by_cases hlt : k < n
    · obtain ⟨a, z, rfl, hz, hcz0⟩ := HR.out.int_at hlt
      have hlt0 := World.block_lt_of_cell? w _ hcz0
      have hcz := (hbel.cell hlt0).trans hcz0
      obtain ⟨z1, z2⟩ := wok_at HW.out hz
      have z4 := H4.out z (List.mem_of_getElem? hz)
      obtain ⟨zn, rfl⟩ := Int.eq_ofNat_of_zero_le (by omega : 0 ≤ z)
      obtain ⟨s3, s4⟩ := wsum_mono HW.out (k + 1)
      have hss := wsum_succ hz
      have hsb : s ≤ 8388608 := by omega
      have hra := recs_at bs ws 0 k _ hz
      rw [Int.zero_add, ← hs] at hra
      have hxl := getX_lt bs (s : Int) (zn : Int) z4
      have HG := Lib.hid (get_any A1 len c1 (s : Int) (zn : Int) bs wr hl hc1 (HB.out.below hbel))
      generalize getX bs (s : Int) (zn : Int) = y at hra hxl HG
      generalize getE len (s : Int) (zn : Int) = ye at HG
      have htk : (recs bs 0 ws).take (k + 1) = (recs bs 0 ws).take k ++ [(y : Int)] := by rw [List.take_add_one, hra]; rfl
      have X5 := Lib.hid hown
      have X6 := Lib.hid hbel
      have X7 := Lib.hid htk
      have X9 := Lib.hid hs
      have XS := Lib.hid hss
      clear hown hbel htk hra hz hs hss
      go_wp2_with fail
      refine HG.out.mono ?_
      rintro e w1 ⟨rfl, hb1⟩
      have hs1 := hb1.size
      have Y5 := Lib.hid (own_below X5.out hb1)
      have Y6 := Lib.hid (below_all X6.out hsz hb1)
      have XL := Lib.hid (lit_rowN w1 3 (ints [(y : Int)]) 1 w1.heap.size rfl rfl)
      have hcz1 := (Y6.out.cell hlt0).trans hcz0
      clear hb1 hcz HG
      go_wp2_with (first
        | (at_builtin
           refine app_i64 _ rfl (.tmp 24) (.tmp 27) rfl w.heap.size u5 k (ints ((recs bs 0 ws).take k)) rfl (Y5.out.alloc _) (some ⟨w1.heap.size, 0, none⟩) 1 1 [(y : Int)] rfl (fun e => by cases e) XL.out (by omega) (by simp; omega) ?_
           intro v' w2 hown2 hg2
           have bel2 := Lib.hid (below_row (Y6.out.alloc (by omega) (.cells (ints [(y : Int)]).toArray 3)) hg2 (fun g e => (Y5.out.lt g e).1) (by simp; omega))
           have own2 := Lib.hid hown2
           clear hown2 hg2)
        | fail)
      go_roundw
      case rel => exact ⟨k + 1, s + zn, by omega, by go_num, by rw [XS.out, ← X9.out]; omega, by go_num, by rw [X7.out, ints, List.map_append]; exact own2.out, bel2.out⟩
      case measure => simp [intOf]; omega
    · obtain rfl : k = n := by omega
      have hul : (recs bs 0 ws).take k = recs bs 0 ws := List.take_of_length_le (by rw [recs_length, HLW.out]; exact Nat.le_refl _)
      rw [hul] at hown
      have X5 := Lib.hid hown
      have X6 := Lib.hid hbel
      clear hown hbel hul hs
      go_wp2_with fail
      go_ret
      exact ⟨_, rfl, X6.out, X5.out⟩
end Go.Proofs.Ytafonjnanfekkaa.Lay
