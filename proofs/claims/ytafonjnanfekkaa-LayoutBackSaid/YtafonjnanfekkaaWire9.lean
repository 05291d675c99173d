
/-
  THE WALKS of layer 1 (wire), the program's, ninth part: Unpack.
-/
import Derived.Test.YtafonjnanfekkaaWire8
import Derived.Test.YtafonjnanfekkaaA
import Derived.Deep.RegionLaw
namespace Go.Proofs.Ytafonjnanfekkaa.Wire
open Go.RowKit
set_option maxHeartbeats 16000000
set_option maxRecDepth 100000
set_option linter.unusedVariables false
set_option linter.unusedSimpArgs false

theorem step_app_u64 (w : World) {ops : Array Oper} {o : Oper} {a : Act} {K : Act → World → Prop} {Q : Exit → Act → World → Prop} {E : Prop} (hgd : o.guard = none) (s x : Operand)
    (ho : o.op = .call { callee := .builtin .append, args := #[s, x], argTypes := #[22, 22] })
    (base : Nat) (v : Value) (n : Nat) (xs : List Value) (hs : a.eval s = v) (hown : w.ownsRow base 84 1 v n xs)
    (ad : Addr) (c : Nat) (y : Nat) (hx : a.eval x = .slice (some ad) 1 c) (hb : w.cell? ad = some (.int .u64 (y : Int)))
    (hbd : n + 1 ≤ 17592186044416) (hbase : base ≤ w.heap.size)
    (h : ∀ v' w', w'.ownsRow base 84 1 v' (n + 1) (xs ++ nums [y]) → w.grownBy w' v.ownBlock → K (a.put o.dst v') w') :
    if Region.wanted o (yielded ops a.tmps) = true then Oper.wp Try.prog o a w K Q else E := by
  have hw : Region.wanted o (yielded ops a.tmps) = true := by simp [Region.wanted, hgd]
  rw [if_pos hw]
  obtain ⟨i0, hi, hz0, hz1, hz2⟩ := info_parts infoU64
  refine wp_append_own w s x 22 ho base 84 i0 (.int .u64 0) 1 8 Try.underlying22 hi hz0 hz1 hz2 rfl (by decide) v n xs hs hown ad 1 c (nums [y]) hx (by simp [nums]) ?_ ?_ (by unfold maxLen; omega) (by omega) hbase (fun v' w' h1 h2 _ => h v' w' h1 h2)
  · intro j u hu
    cases j with
    | zero => simp [nums] at hu; subst hu; rw [show ad.add 0 = ad by unfold Addr.add; simp]; exact hb
    | succ j => simp [nums] at hu
  · intro u hu
    simp [nums] at hu; subst hu; rfl

theorem unpacks_length : ∀ (ws : List Int) (bs : List UInt8), (unpacks bs ws).length = ws.length
  | [], _ => rfl
  | z :: ws, bs => by simp [unpacks, unpacks_length ws]
theorem unpacks_at : ∀ (ws : List Int) (bs : List UInt8) (k : Nat) (z : Int), wok ws = true → ws[k]? = some z → (unpacks bs ws)[k]? = some (num ((bs.drop ((ws.take k).sum).toNat).take z.toNat))
  | [], _, _, _, _, h => by simp at h
  | y :: ws, bs, 0, z, _, h => by simp at h; subst h; simp [unpacks]
  | y :: ws, bs, k + 1, z, hw, h => by
    simp only [wok, List.all_cons, Bool.and_eq_true] at hw
    obtain ⟨h1, h2⟩ := wok1_true hw.1
    have hm := (wsum_mono (ws := ws) hw.2 k).1
    simp only [unpacks, List.getElem?_cons_succ, List.take_succ_cons, List.sum_cons]
    rw [unpacks_at ws (bs.drop y.toNat) k z hw.2 (by simpa using h), List.drop_drop]
    congr 4
    omega

theorem whole_q2 (A : Option Addr) (n cap : Nat) (ws : List Int) (S : Int) (w : World) (hn : n ≤ 1125899906842624) (hr : RowAt w A n (ints ws)) (hw : wok ws = true) (hs : ws.sum = S) :
    Calls Try.prog 53 #[.slice A n cap] w fun e w' => e = .returned (.int .i64 S) ∧ w' = w := by
  subst hs; exact whole_q A n cap ws w hn hr hw

theorem below_row {B : Nat} {a b c : World} {row : Option Nat} (h : Below B a b) (k : b.grownBy c row) (hr : ∀ g, row = some g → B ≤ g) (hs : B ≤ b.heap.size) : Below B a c :=
  ⟨k.os.trans h.os, k.tape.trans h.tape, k.output.trans h.output, Nat.le_trans h.size k.size, fun i hi => (k.block i (Nat.lt_of_lt_of_le hi hs) (fun e => by have := hr i e.symm; omega)).trans (h.block i hi)⟩

/-- All blocks that were there stay, but these two. -/
def Kept (g1 g2 : Nat) (w w' : World) : Prop := ∀ i, i < w.heap.size → i ≠ g1 → i ≠ g2 → w'.heap[i]? = w.heap[i]?

theorem unpack1_bad (g0 g1 g2 : Nat) (A0 A1 : Option Addr) (n c0 len c1 : Nat) (ws : List Int) (w : World) (hn : n ≤ 1125899906842624) (hr : RowAt w A0 n (ints ws)) (hw : wok ws = false)
    (h0 : w.cell? ⟨g0, 0, none⟩ = some (.slice A0 n c0)) (h1 : w.cell? ⟨g1, 0, none⟩ = some (.slice A1 len c1)) :
    Calls Try.prog 55 #[.pointer (some ⟨g0, 0, none⟩), .pointer (some ⟨g1, 0, none⟩), .pointer (some ⟨g2, 0, none⟩)] w fun e w' => e = .panicked [{ v := wrong 22, recovered := false }] ∧ ∃ n, w' = w.drewN n := by
  have HC := Lib.hid (whole_no A0 n c0 ws w.drew hn hr hw)
  clear hr hw
  go_enter Try.func55, Try.ntmps55
  go_wp2_with fail
  refine wp_region_held_drew (S := fun w' => w'.cell? ⟨g0, 0, none⟩ = some (.slice A0 n c0) ∧ w'.cell? ⟨g1, 0, none⟩ = some (.slice A1 len c1)) (by kernel_rfl) ⟨h0, h1⟩ (fun hHeld => ?_)
  refine wpAnyH_take (i := 0) (v := ?_) rfl (by kernel_rfl) (by kernel_rfl) (by kernel_rfl) (fun _ _ _ h => h) (Or.inl ⟨by rfl, ?_⟩) (by assumption) ?_
  rotate_left
  · intro w' hSw
    (try dsimp only at hSw)
    go_simp
    with_reducible rfl
  try simp only [Act.put, List.setIfInBounds_toArray, List.set_cons_zero, List.set_cons_succ]
  refine wpAnyH_take (i := 2) (v := ?_) rfl (by kernel_rfl) (by kernel_rfl) (by kernel_rfl) (fun _ _ _ h => h) (Or.inl ⟨by rfl, ?_⟩) (by assumption) ?_
  rotate_left
  · intro w' hSw
    (try dsimp only at hSw)
    go_simp
    with_reducible rfl
  try simp only [Act.put, List.setIfInBounds_toArray, List.set_cons_zero, List.set_cons_succ]
  refine wpAnyH_take (i := 3) (v := ?_) rfl (by kernel_rfl) (by kernel_rfl) (by kernel_rfl) (fun _ _ _ h => h) (Or.inl ⟨by rfl, ?_⟩) (by assumption) ?_
  rotate_left
  · intro w' hSw
    (try dsimp only at hSw)
    go_simp
    with_reducible rfl
  try simp only [Act.put, List.setIfInBounds_toArray, List.set_cons_zero, List.set_cons_succ]
  refine wpAnyH_ready (rs := [1]) (by kernel_rfl) (by simp) ?_
  refine AllReadyH.cons rfl (fun K hK => ?_) AllReadyH.nil
  go_simp
  go_at_call 53
  refine HC.out.mono ?_
  rintro e w' ⟨rfl, rfl⟩
  exact ⟨rfl, rfl, 1, rfl⟩

theorem unpack1_size (g0 g1 g2 : Nat) (A0 A1 : Option Addr) (n c0 len c1 : Nat) (ws : List Int) (w : World) (hn : n ≤ 1125899906842624) (hr : RowAt w A0 n (ints ws)) (hw : wok ws = true) (hs : ws.sum ≠ (len : Int))
    (h0 : w.cell? ⟨g0, 0, none⟩ = some (.slice A0 n c0)) (h1 : w.cell? ⟨g1, 0, none⟩ = some (.slice A1 len c1)) :
    Calls Try.prog 55 #[.pointer (some ⟨g0, 0, none⟩), .pointer (some ⟨g1, 0, none⟩), .pointer (some ⟨g2, 0, none⟩)] w fun e w' => e = .panicked [{ v := wrong 22, recovered := false }] ∧ ∃ n, w' = w.drewN n := by
  have HC := Lib.hid (fun k => whole_q A0 n c0 ws (w.drewN k) hn (hr.drewN k) hw)
  have hd : (ws.sum != (len : Int)) = true := by simpa using hs
  clear hr hw hs
  go_enter Try.func55, Try.ntmps55
  go_wp2_with fail
  go_quiet ((go_at_call 53; exact Calls.quiet_of_same (HC.out _)))
  go_wp2_with fail
  exact ⟨rfl, rfl, _, rfl⟩

theorem unpack1_ok (g0 g1 g2 B0 : Nat) (A0 A1 : Option Addr) (n c0 len c1 : Nat) (ws : List Int) (bs : List UInt8) (w : World) (hn : n ≤ 17592186044415) (hl : len ≤ c1) (hc1 : c1 ≤ 9223372036854775807) (hbel : B0 ≤ g1 ∧ B0 ≤ g2 ∧ g1 ≠ g2)
    (hr : RowAt w A0 n (ints ws)) (hrb : ∀ a, A0 = some a → 0 < n → a.block < B0) (hb : BytesAt w A1 len bs) (hbb : ∀ a, A1 = some a → 0 < len → a.block < B0)
    (hw : wok ws = true) (hs : ws.sum = (len : Int))
    (h0 : w.cell? ⟨g0, 0, none⟩ = some (.slice A0 n c0)) (h1 : Blk w g1 26 #[.slice A1 len c1]) (h2 : Blk w g2 22 #[.slice none 0 0]) :
    Calls Try.prog 55 #[.pointer (some ⟨g0, 0, none⟩), .pointer (some ⟨g1, 0, none⟩), .pointer (some ⟨g2, 0, none⟩)] w fun e w' => e = .returned (.tuple #[]) ∧
      ∃ v, Blk w' g2 22 #[v] ∧ w'.ownsRow w.heap.size 84 1 v n (nums (unpacks bs ws)) ∧ Below B0 w w' ∧ Kept g1 g2 w w' := by
  have hlw : ws.length = n := by have := hr.len; simpa [ints] using this
  have hbl := hb.len
  have HC := Lib.hid (fun k => whole_q2 A0 n c0 ws (len : Int) (w.drewN k) (by omega) (hr.drewN k) hw hs)
  have hd : ((len : Int) != (len : Int)) = false := by simp
  have lt1 := h1.lt
  have lt2 := h2.lt
  have k1 := blk_cell0 h1
  have HW := Lib.hid hw
  have HR := Lib.hid hr
  have HRB := Lib.hid hrb
  have HB := Lib.hid hb
  have HBB := Lib.hid hbb
  have HS := Lib.hid hs
  have HLW := Lib.hid hlw
  have HBL := Lib.hid hbl
  have H1 := Lib.hid h1
  have H2 := Lib.hid h2
  clear hr hrb hb hbb hw hs h1 h2 hlw hbl
  obtain ⟨hB1, hB2, h12⟩ := hbel
  go_enter Try.func55, Try.ntmps55
  go_wp2_with fail
  go_quiet ((go_at_call 53; exact Calls.quiet_of_same (HC.out _)))
  clear hd HC
  go_wp2_with fail
  clear k1
  go_loopw [14] (fun i wr => ∃ (k s : Nat) (B : Option Addr) (v : Value), k ≤ n ∧ i = .int .i64 k ∧ (s : Int) = (ws.take k).sum ∧ Blk wr g1 26 #[.slice B (len - s) (c1 - s)] ∧ BytesAt wr B (len - s) (bs.drop s) ∧ (∀ a, B = some a → 0 < len - s → a.block < B0) ∧
    Blk wr g2 22 #[v] ∧ wr.ownsRow w.heap.size 84 1 v k (nums ((unpacks bs ws).take k)) ∧ Below B0 w wr ∧ Kept g1 g2 w wr) (fun i _ => n - (intOf i).toNat)
  case atStart => exact ⟨0, 0, A1, .slice none 0 0, by omega, rfl, by simp, H1.out.drewN _, HB.out.drewN _, HBB.out, H2.out.drewN _, World.ownsRow_nil _ _ _ _, below_drewN (Below.refl _ _) _, fun i _ _ _ => rfl⟩
  case round =>
    obtain ⟨k, s, B, v, hk, rfl, hs, hb1, hby, hbb, hb2, hown, hbel, hkept⟩ := hrel
    have XK := Lib.hid hkept
    clear hkept
    obtain ⟨s0, s1⟩ := wsum_mono HW.out k
    have hS := HS.out
    have hsz := hbel.size
    by_cases hlt : k < n
    · obtain ⟨aw, z, rfl, hz, hcz⟩ := HR.out.int_at hlt
      have hawb := HRB.out aw rfl (by omega)
      have hcz' : wr.cell? (aw.add k) = some (.int .i64 z) := (World.cell?_of_block (hbel.block _ (by rw [block_of_add]; exact hawb))).trans hcz
      obtain ⟨z1, z2⟩ := wok_at HW.out hz
      obtain ⟨zn, rfl⟩ := Int.eq_ofNat_of_zero_le (by omega : 0 ≤ z)
      obtain ⟨s3, s4⟩ := wsum_mono HW.out (k + 1)
      have hss := wsum_succ hz
      have hrest : s + zn ≤ len := by omega
      obtain ⟨a, u, rfl, _, _⟩ := hby.at_ (k := 0) (by omega)
      have hun := unpacks_at ws bs k _ HW.out hz
      rw [← hs, Int.toNat_natCast, Int.toNat_natCast] at hun
      have hnum := fun wx (hbx : BytesAt wx (some a) (len - s) (bs.drop s)) => number_any (some a) zn (c1 - s) ((bs.drop s).take zn) wx (by omega) (hbx.take_ zn (by omega))
      generalize num ((bs.drop s).take zn) = y at hun hnum
      have htk : (unpacks bs ws).take (k + 1) = (unpacks bs ws).take k ++ [y] := by rw [List.take_add_one, hun]; rfl
      have HN := Lib.hid (hnum _ hby.drew)
      have c1k := blk_cell0 hb1
      have c2k := blk_cell0 hb2
      have lt2' := hb2.lt
      have X1 := Lib.hid hb1
      have X2 := Lib.hid hb2
      have X3 := Lib.hid hby
      have X4 := Lib.hid hbb
      have X5 := Lib.hid hown
      have X6 := Lib.hid hbel
      have X7 := Lib.hid htk
      have X8 := Lib.hid hz
      have X9 := Lib.hid hs
      have XS := Lib.hid hss
      clear hb1 hb2 hby hbb hown hbel htk hun hnum hz hs hss
      have f1 : (zn : Int) ≤ ((c1 - s : Nat) : Int) := by omega
      have f2 : (0 : Int) ≤ (zn : Int) := by omega
      have f3 : ¬ c1 - s = 0 := by omega
      go_wp2_with fail
      go_region_law
        (first
          | (go_simp; go_at_call 56; refine HN.out.mono ?_; rintro e w2 ⟨rfl, rfl⟩)
          | (refine step_app_u64 _ rfl (.tmp 18) (.tmp 23) rfl w.heap.size v k (nums ((unpacks bs ws).take k)) rfl (X5.out.drew.alloc _) ⟨wr.heap.size, 0, none⟩ 1 y rfl (by simp) (by omega) (by simp; omega) ?_
             intro v' w2 hown2 hg2
             obtain ⟨gv, cv, csv, rfl, hgv, _, _, _, _⟩ := own_form hown2 (by omega)
             have n1 : some g1 ≠ v.ownBlock := fun e => by have := (X5.out.lt g1 e.symm).1; omega
             have n2 : some g2 ≠ v.ownBlock := fun e => by have := (X5.out.lt g2 e.symm).1; omega
             have b1 := (X1.out.drew.alloc (.cells #[.int .u64 (y : Int)] 84)).grown hg2 n1
             have b2 := (X2.out.drew.alloc (.cells #[.int .u64 (y : Int)] 84)).grown hg2 n2
             have q1 := blk_cell0 b1
             have q2 := blk_cell0 b2
             have q3 := b2.frozen 0
             have Y1 := Lib.hid b1
             have Y2 := Lib.hid b2
             clear b1 b2))
      all_goals
        have m1 : (w2.setCell ⟨g2, 0, none⟩ (.slice (some ⟨gv, 0, none⟩) (k + 1) cv)).cell? ⟨g1, 0, none⟩ = some (.slice (some a) (len - s) (c1 - s)) := blk_cell0 (Y1.out.far h12 _)
        have m2 : (w2.setCell ⟨g2, 0, none⟩ (.slice (some ⟨gv, 0, none⟩) (k + 1) cv)).frozen? ⟨g1, 0, none⟩ = false := (Y1.out.far h12 _).frozen 0
        have own3 := ownsRow_setCell_below hown2 (a := ⟨g2, 0, none⟩) lt2 (.slice (some ⟨gv, 0, none⟩) (k + 1) cv)
        have blk1 := Y1.out.far (p := ⟨g2, 0, none⟩) h12 (.slice (some ⟨gv, 0, none⟩) (k + 1) cv)
        have blk2 := Y2.out.set_ 0 (.slice (some ⟨gv, 0, none⟩) (k + 1) cv)
        have bel2 : Below B0 w w2 := below_row (X6.out.alloc (by omega) (.cells #[.int .u64 (y : Int)] 84)).drew hg2 (fun g e => by have := (X5.out.lt g e).1; omega) (by simp; omega)
        have bel2' : Below B0 wr w2 := below_row ((Below.refl B0 wr).alloc (by omega) (.cells #[.int .u64 (y : Int)] 84)).drew hg2 (fun g e => by have := (X5.out.lt g e).1; omega) (by simp; omega)
        have bel3 := bel2.setCell (p := ⟨g2, 0, none⟩) hB2 (.slice (some ⟨gv, 0, none⟩) (k + 1) cv)
        have bel3' := bel2'.setCell (p := ⟨g2, 0, none⟩) hB2 (.slice (some ⟨gv, 0, none⟩) (k + 1) cv)
        have hkp : Kept g1 g2 w (w2.setCell ⟨g2, 0, none⟩ (.slice (some ⟨gv, 0, none⟩) (k + 1) cv)) := fun i hi hi1 hi2 => by
          rw [Below.heap_setCell _ _ _ i hi2, hg2.block i (by simp; omega) (fun e => by have := (X5.out.lt i e.symm).1; omega)]
          exact (Below.heap_alloc wr _ i (by omega)).trans (XK.out i hi hi1 hi2)
        have ZK := Lib.hid hkp
        clear hkp
        have Z1 := Lib.hid own3
        have Z2 := Lib.hid blk1
        have Z3 := Lib.hid blk2
        have Z4 := Lib.hid bel3
        have Z5 := Lib.hid bel3'
        clear own3 blk1 blk2 bel2 bel2' bel3 bel3' hown2 hg2 q1 q2 q3 n1 n2
        have f4 : (zn : Int) ≤ ((len - s : Nat) : Int) := by omega
        have e1 : len - s - zn = len - (s + zn) := by omega
        have e2 : c1 - s - zn = c1 - (s + zn) := by omega
        have hdr : (bs.drop s).drop zn = bs.drop (s + zn) := by rw [List.drop_drop]
        have hcut := X3.out.cut zn (len - s) (by omega) (Nat.le_refl _)
        rw [hdr, e1, List.take_of_length_le (by rw [List.length_drop]; have := HBL.out; omega)] at hcut
        have HCUT := Lib.hid hcut
        clear hcut hdr
        generalize hNV : Value.slice (some ⟨gv, 0, none⟩) (k + 1) cv = NV at m1 m2 Z1 Z2 Z3 Z4 Z5 ZK ⊢
        generalize w2.setCell ⟨g2, 0, none⟩ NV = w3 at m1 m2 Z1 Z2 Z3 Z4 Z5 ZK ⊢
        clear hNV
        by_cases hcz : c1 - s = zn
        · go_wp2_with fail
          go_roundw
          case rel =>
            refine ⟨k + 1, s + zn, some a, NV, by omega, by go_num, by rw [XS.out]; have := X9.out; omega, ?_, ?_, ?_, ?_, ?_, ?_, ?_⟩
            · first | exact Z2.out.set_ 0 _ | (rw [show c1 - (s + zn) = 0 by omega]; exact Z2.out.set_ 0 _) | (rw [← e1, ← e2]; exact Z2.out.set_ 0 _)
            · rw [show len - (s + zn) = 0 by omega, List.drop_of_length_le (by have := HBL.out; omega)]; exact BytesAt.nil_ _ _
            · intro a' _ h; omega
            · exact Z3.out.far (by simpa using h12.symm) _
            · rw [X7.out, nums, List.map_append]
              exact ownsRow_setCell_below Z1.out lt1 _
            · exact Z4.out.setCell hB1 _
            · exact fun i hi hi1 hi2 => (Below.heap_setCell _ _ _ i hi1).trans (ZK.out i hi hi1 hi2)
          case measure => simp [intOf]; omega
        · go_wp2_with fail
          go_roundw
          case rel =>
            refine ⟨k + 1, s + zn, some (a.add zn), NV, by omega, by go_num, by rw [XS.out]; have := X9.out; omega, ?_, ?_, ?_, ?_, ?_, ?_, ?_⟩
            · first | exact Z2.out.set_ 0 _ | (rw [← e1, ← e2]; exact Z2.out.set_ 0 _)
            · refine HCUT.out.keep fun a' e hn i u hu => ?_
              obtain rfl : a.add zn = a' := by simpa using e
              have hlt := X4.out a rfl (by omega)
              exact (World.cell?_of_block ((Z5.out.setCell hB1 _).block _ (by rw [block_of_add, block_of_add]; exact hlt))).trans hu
            · intro a' e h
              obtain rfl : a.add zn = a' := by simpa using e
              rw [block_of_add]; exact X4.out a rfl (by omega)
            · exact Z3.out.far (by simpa using h12.symm) _
            · rw [X7.out, nums, List.map_append]
              exact ownsRow_setCell_below Z1.out lt1 _
            · exact Z4.out.setCell hB1 _
            · exact fun i hi hi1 hi2 => (Below.heap_setCell _ _ _ i hi1).trans (ZK.out i hi hi1 hi2)
          case measure => simp [intOf]; omega
    · obtain rfl : k = n := by omega
      have hul : (unpacks bs ws).take k = unpacks bs ws := List.take_of_length_le (by rw [unpacks_length, HLW.out]; exact Nat.le_refl _)
      rw [hul] at hown
      have X1 := Lib.hid hb1
      have X2 := Lib.hid hb2
      have X3 := Lib.hid hby
      have X4 := Lib.hid hbb
      have X5 := Lib.hid hown
      have X6 := Lib.hid hbel
      clear hb1 hb2 hby hbb hown hbel hul hs
      go_wp2_with fail
      go_end0
      exact ⟨rfl, v, X2.out, X5.out, X6.out, XK.out⟩
end Go.Proofs.Ytafonjnanfekkaa.Wire
