
/-
  THE WALK of WireSums.
  THE WALK of WireNumbers.
  layer 1: the reference's Seal and Sealed, upon a row of one's own.
  THE WALKS of layer 1 (wire), the program's, ninth part: Unpack.
  THE WALKS of layer 1 (wire), the program's, tenth part: Unpack, whole.
  THE WALK of WireOnly.
  THE WALKS of layer 1's reference: Unpack, Pack.
  THE WALKS of layer 1's reference: Pack.
-/
import Derived.Test.YtafonjnanfekkaaK3
import Derived.Test.YtafonjnanfekkaaK2
import Derived.Deep.RegionLaw
namespace Go.Proofs.Ytafonjnanfekkaa.Wire
open Go.RowKit
set_option maxHeartbeats 8000000
set_option maxRecDepth 100000
set_option linter.unusedVariables false
set_option linter.unusedSimpArgs false

theorem own_head {w : World} {base g n c : Nat} {bs : List UInt8} {x y : UInt8} (h : w.ownsRow base 5 1 (.slice (some ⟨g, 0, none⟩) (n + 2) c) (n + 2) (bvl (bs ++ [x, y]))) (hbl : bs.length = n) :
    BytesAt w (some ⟨g, 0, none⟩) n bs ∧ n ≤ c ∧ c ≤ 9223372036854775807 := by
  have hb := (BytesAt.of_own h).take_ n (by omega)
  rw [List.take_append_of_le_length (by omega), List.take_of_length_le (by omega)] at hb
  obtain ⟨cs, _, _, h1, h2, _⟩ := own_blk h
  exact ⟨hb, by omega, by unfold maxLen at h2; omega⟩

end Go.Proofs.Ytafonjnanfekkaa.Wire

namespace Go.Proofs.Ytafonjnanfekkaa.Wire
open Go.RowKit
set_option maxHeartbeats 8000000
set_option maxRecDepth 100000
set_option linter.unusedVariables false
set_option linter.unusedSimpArgs false

/-- Two rows made one behind the other lie apart. -/
theorem own_apart {w : World} {b1 b2 g n c m : Nat} {t : TypeId} {v : Value} {xs ys : List Value} (h : w.ownsRow b1 t 1 (.slice (some ⟨g, 0, none⟩) n c) n xs) (hlt : g < b2)
    (h2 : w.ownsRow b2 t 1 v m ys) : v.ownBlock ≠ some g := by
  intro e
  have := (h2.lt g e).1
  omega
theorem own_kept {w w' : World} {base : Nat} {t : TypeId} {v : Value} {n : Nat} {xs : List Value} {row : Option Nat} (h : w.ownsRow base t 1 v n xs) (hb : w.grownBy w' row) (hne : row ≠ v.ownBlock) : w'.ownsRow base t 1 v n xs :=
  h.kept hb (.inr fun e => hne e.symm)
theorem own_len {w : World} {base N n : Nat} {v : Value} {bs : List UInt8} {x y : UInt8} (h : w.ownsRow base 5 1 v (n + 2) (bvl (bs ++ [x, y]))) : bs.length = n := by
  have := h.1
  rw [bvl_length] at this
  simp at this; omega

end Go.Proofs.Ytafonjnanfekkaa.Wire

namespace Go.Proofs.Ytafonjnanfekkaa.Wire
open Go.RowKit
set_option maxHeartbeats 8000000
set_option maxRecDepth 100000
set_option linter.unusedVariables false
set_option linter.unusedSimpArgs false

theorem ref_seal_row (base n c : Nat) (A : Option Addr) (bs : List UInt8) (seed : BitVec 32) (w : World) (hbl : bs.length = n)
    (hown : w.ownsRow base 5 1 (.slice A n c) n (bvl bs)) :
    Calls Try.prog 70 #[.slice A n c, .int .u32 (seed.toNat : Int)] w fun e w' => e = .returned (.int .i64 (sealE n)) ∧
      w'.ownsRow base 5 1 (.slice A n c) n (bvl (sealB seed bs)) ∧ w.grownBy w' (Value.slice A n c).ownBlock := by
  obtain ⟨A', c', e0, hby, hnc, hcm, _, _⟩ := own_slice hown
  obtain ⟨rfl, rfl⟩ : A = A' ∧ c = c' := by injection e0 with e1 e2 e3; exact ⟨e1, e3⟩
  have hc64 : c ≤ 9223372036854775807 := by unfold maxLen at hcm; omega
  by_cases h4 : 4 ≤ n
  · have e1 : sealE n = 0 := by simp [sealE, h4]
    rw [e1]
    obtain ⟨a, u, rfl, _, _⟩ := hby.at_ (k := 0) (by omega)
    have hx : (crc seed (bs.take (n - 4))).toNat < 256 ^ 4 := (crc seed (bs.take (n - 4))).isLt
    have hto : ((n : Int) - 4).toNat = n - 4 := by omega
    have hp := ref_put_row base n c (some a) bs ((n : Int) - 4) 4 (crc seed (bs.take (n - 4))).toNat w (by omega) hbl hown
    have hpe : putE n ((n : Int) - 4) 4 (crc seed (bs.take (n - 4))).toNat = 0 := by
      rw [putE, if_pos (fits4 h4), if_pos (show _ < 256 ^ Int.toNat 4 from hx)]
    have hpb : putB bs ((n : Int) - 4) 4 (crc seed (bs.take (n - 4))).toNat = sealB seed bs := by
      rw [sealB_lays seed bs (by omega), hbl, putB, hbl, if_pos (fits4 h4), if_pos (show _ < 256 ^ Int.toNat 4 from hx), hto]; rfl
    rw [hpe, hpb] at hp
    have HP := Lib.hid hp
    have HC := Lib.hid (ref_crc seed (some a) (n - 4) c (bs.take (n - 4)) w (by omega) (hby.take_ (n - 4) (by omega)))
    have h32 : IntKind.u64.wrap ((crc seed (bs.take (n - 4))).toNat : Int) = ((crc seed (bs.take (n - 4))).toNat : Int) := by
      have := (crc seed (bs.take (n - 4))).isLt
      rw [IntKind.wrap_u64]; omega
    have i0 : (0 : Int) ≤ (n : Int) - 4 := by omega
    have i1 : (n : Int) - 4 ≤ (c : Int) := by omega
    have i2 : ¬ (n : Int) < 4 := by omega
    have hd : decide ((n : Int) < 4) = false := by simp; omega
    clear hp hpe hpb hby hown hx hcm
    go_enter Try.func70, Try.ntmps70
    go_wp2_with (first | (go_at_call 47; refine HC.out.mono ?_; rintro e w' ⟨rfl, rfl⟩) | (go_at_call 97; refine HP.out.mono ?_; rintro e w' ⟨rfl, ho, hg⟩))
    go_ret
    exact ⟨rfl, ho, hg⟩
  · have e1 : sealE n = 22 := by simp [sealE, h4]
    have e2 : sealB seed bs = bs := by rw [sealB, if_neg (by omega)]
    rw [e1, e2]
    have HO := Lib.hid hown
    have hd : decide ((n : Int) < 4) = true := by simp; omega
    have hlt : (n : Int) < 4 := by omega
    clear hown hby
    go_enter Try.func70, Try.ntmps70
    go_wp2_with fail
    go_ret
    exact ⟨rfl, HO.out, World.grownBy.refl _ _⟩
end Go.Proofs.Ytafonjnanfekkaa.Wire

namespace Go.Proofs.Ytafonjnanfekkaa.Wire
open Go.RowKit
set_option maxHeartbeats 16000000
set_option maxRecDepth 100000
set_option linter.unusedVariables false
set_option linter.unusedSimpArgs false

theorem step_app_u64 (w : World) {ops : Array Oper} {o : Oper} {a : Act} {K : Act → World → Prop} {Q : Exit → Act → World → Prop} {E : Prop} (hgd : o.guard = none) (s x : Operand)
    (ho : o.op = .call { callee := .builtin .append, args := #[s, x], argTypes := #[22, 22] })
    (base : Nat) (v : Value) (n : Nat) (xs : List Value) (hs : a.eval s = v) (hown : w.ownsRow base 84 1 v n xs)
    (ad : Addr) (c : Nat) (y : Nat) (hx : a.eval x = .slice (some ad) 1 c) (hb : w.cell? ad = some (.int .u64 (y : Int)))
    (hbd : n + 1 ≤ 17592186044416) (hbase : base ≤ w.heap.size)
    (h : ∀ v' w', w'.ownsRow base 84 1 v' (n + 1) (xs ++ nums [y]) → w.grownBy w' v.ownBlock → K (a.put o.dst v') w') :
    if Region.wanted o (yielded ops a.tmps) = true then Oper.wp Try.prog o a w K Q else E := by
  have hw : Region.wanted o (yielded ops a.tmps) = true := by simp [Region.wanted, hgd]
  rw [if_pos hw]
  obtain ⟨i0, hi, hz0, hz1, hz2⟩ := info_parts infoU64
  refine wp_append_own w s x 22 ho base 84 i0 (.int .u64 0) 1 8 Try.underlying22 hi hz0 hz1 hz2 rfl (by decide) v n xs hs hown ad 1 c (nums [y]) hx (by simp [nums]) ?_ ?_ (by unfold maxLen; omega) (by omega) hbase (fun v' w' h1 h2 _ => h v' w' h1 h2)
  · intro j u hu
    cases j with
    | zero => simp [nums] at hu; subst hu; rw [show ad.add 0 = ad by unfold Addr.add; simp]; exact hb
    | succ j => simp [nums] at hu
  · intro u hu
    simp [nums] at hu; subst hu; rfl

theorem unpacks_length : ∀ (ws : List Int) (bs : List UInt8), (unpacks bs ws).length = ws.length
  | [], _ => rfl
  | z :: ws, bs => by simp [unpacks, unpacks_length ws]
theorem unpacks_at : ∀ (ws : List Int) (bs : List UInt8) (k : Nat) (z : Int), wok ws = true → ws[k]? = some z → (unpacks bs ws)[k]? = some (num ((bs.drop ((ws.take k).sum).toNat).take z.toNat))
  | [], _, _, _, _, h => by simp at h
  | y :: ws, bs, 0, z, _, h => by simp at h; subst h; simp [unpacks]
  | y :: ws, bs, k + 1, z, hw, h => by
    simp only [wok, List.all_cons, Bool.and_eq_true] at hw
    obtain ⟨h1, h2⟩ := wok1_true hw.1
    have hm := (wsum_mono (ws := ws) hw.2 k).1
    simp only [unpacks, List.getElem?_cons_succ, List.take_succ_cons, List.sum_cons]
    rw [unpacks_at ws (bs.drop y.toNat) k z hw.2 (by simpa using h), List.drop_drop]
    congr 4
    omega

theorem whole_q2 (A : Option Addr) (n cap : Nat) (ws : List Int) (S : Int) (w : World) (hn : n ≤ 1125899906842624) (hr : RowAt w A n (ints ws)) (hw : wok ws = true) (hs : ws.sum = S) :
    Calls Try.prog 53 #[.slice A n cap] w fun e w' => e = .returned (.int .i64 S) ∧ w' = w := by
  subst hs; exact whole_q A n cap ws w hn hr hw

theorem below_row {B : Nat} {a b c : World} {row : Option Nat} (h : Below B a b) (k : b.grownBy c row) (hr : ∀ g, row = some g → B ≤ g) (hs : B ≤ b.heap.size) : Below B a c :=
  ⟨k.os.trans h.os, k.tape.trans h.tape, k.output.trans h.output, Nat.le_trans h.size k.size, fun i hi => (k.block i (Nat.lt_of_lt_of_le hi hs) (fun e => by have := hr i e.symm; omega)).trans (h.block i hi)⟩

/-- All blocks that were there stay, but these two. -/
def Kept (g1 g2 : Nat) (w w' : World) : Prop := ∀ i, i < w.heap.size → i ≠ g1 → i ≠ g2 → w'.heap[i]? = w.heap[i]?

theorem unpack1_bad (g0 g1 g2 : Nat) (A0 A1 : Option Addr) (n c0 len c1 : Nat) (ws : List Int) (w : World) (hn : n ≤ 1125899906842624) (hr : RowAt w A0 n (ints ws)) (hw : wok ws = false)
    (h0 : w.cell? ⟨g0, 0, none⟩ = some (.slice A0 n c0)) (h1 : w.cell? ⟨g1, 0, none⟩ = some (.slice A1 len c1)) :
    Calls Try.prog 55 #[.pointer (some ⟨g0, 0, none⟩), .pointer (some ⟨g1, 0, none⟩), .pointer (some ⟨g2, 0, none⟩)] w fun e w' => e = .panicked [{ v := wrong 22, recovered := false }] ∧ ∃ n, w' = w.drewN n := by
  have HC := Lib.hid (whole_no A0 n c0 ws w.drew hn hr hw)
  clear hr hw
  go_enter Try.func55, Try.ntmps55
  go_wp2_with fail
  refine wp_region_held_drew (S := fun w' => w'.cell? ⟨g0, 0, none⟩ = some (.slice A0 n c0) ∧ w'.cell? ⟨g1, 0, none⟩ = some (.slice A1 len c1)) (by kernel_rfl) ⟨h0, h1⟩ (fun hHeld => ?_)
  refine wpAnyH_take (i := 0) (v := ?_) rfl (by kernel_rfl) (by kernel_rfl) (by kernel_rfl) (fun _ _ _ h => h) (Or.inl ⟨by rfl, ?_⟩) (by assumption) ?_
  rotate_left
  · intro w' hSw
    (try dsimp only at hSw)
    go_simp
    with_reducible rfl
  try simp only [Act.put, List.setIfInBounds_toArray, List.set_cons_zero, List.set_cons_succ]
  refine wpAnyH_take (i := 2) (v := ?_) rfl (by kernel_rfl) (by kernel_rfl) (by kernel_rfl) (fun _ _ _ h => h) (Or.inl ⟨by rfl, ?_⟩) (by assumption) ?_
  rotate_left
  · intro w' hSw
    (try dsimp only at hSw)
    go_simp
    with_reducible rfl
  try simp only [Act.put, List.setIfInBounds_toArray, List.set_cons_zero, List.set_cons_succ]
  refine wpAnyH_take (i := 3) (v := ?_) rfl (by kernel_rfl) (by kernel_rfl) (by kernel_rfl) (fun _ _ _ h => h) (Or.inl ⟨by rfl, ?_⟩) (by assumption) ?_
  rotate_left
  · intro w' hSw
    (try dsimp only at hSw)
    go_simp
    with_reducible rfl
  try simp only [Act.put, List.setIfInBounds_toArray, List.set_cons_zero, List.set_cons_succ]
  refine wpAnyH_ready (rs := [1]) (by kernel_rfl) (by simp) ?_
  refine AllReadyH.cons rfl (fun K hK => ?_) AllReadyH.nil
  go_simp
  go_at_call 53
  refine HC.out.mono ?_
  rintro e w' ⟨rfl, rfl⟩
  exact ⟨rfl, rfl, 1, rfl⟩

theorem unpack1_size (g0 g1 g2 : Nat) (A0 A1 : Option Addr) (n c0 len c1 : Nat) (ws : List Int) (w : World) (hn : n ≤ 1125899906842624) (hr : RowAt w A0 n (ints ws)) (hw : wok ws = true) (hs : ws.sum ≠ (len : Int))
    (h0 : w.cell? ⟨g0, 0, none⟩ = some (.slice A0 n c0)) (h1 : w.cell? ⟨g1, 0, none⟩ = some (.slice A1 len c1)) :
    Calls Try.prog 55 #[.pointer (some ⟨g0, 0, none⟩), .pointer (some ⟨g1, 0, none⟩), .pointer (some ⟨g2, 0, none⟩)] w fun e w' => e = .panicked [{ v := wrong 22, recovered := false }] ∧ ∃ n, w' = w.drewN n := by
  have HC := Lib.hid (fun k => whole_q A0 n c0 ws (w.drewN k) hn (hr.drewN k) hw)
  have hd : (ws.sum != (len : Int)) = true := by simpa using hs
  clear hr hw hs
  go_enter Try.func55, Try.ntmps55
  go_wp2_with fail
  go_quiet ((go_at_call 53; exact Calls.quiet_of_same (HC.out _)))
  go_wp2_with fail
  exact ⟨rfl, rfl, _, rfl⟩

theorem unpack1_ok (g0 g1 g2 B0 : Nat) (A0 A1 : Option Addr) (n c0 len c1 : Nat) (ws : List Int) (bs : List UInt8) (w : World) (hn : n ≤ 17592186044415) (hl : len ≤ c1) (hc1 : c1 ≤ 9223372036854775807) (hbel : B0 ≤ g1 ∧ B0 ≤ g2 ∧ g1 ≠ g2)
    (hr : RowAt w A0 n (ints ws)) (hrb : ∀ a, A0 = some a → 0 < n → a.block < B0) (hb : BytesAt w A1 len bs) (hbb : ∀ a, A1 = some a → 0 < len → a.block < B0)
    (hw : wok ws = true) (hs : ws.sum = (len : Int))
    (h0 : w.cell? ⟨g0, 0, none⟩ = some (.slice A0 n c0)) (h1 : Blk w g1 26 #[.slice A1 len c1]) (h2 : Blk w g2 22 #[.slice none 0 0]) :
    Calls Try.prog 55 #[.pointer (some ⟨g0, 0, none⟩), .pointer (some ⟨g1, 0, none⟩), .pointer (some ⟨g2, 0, none⟩)] w fun e w' => e = .returned (.tuple #[]) ∧
      ∃ v, Blk w' g2 22 #[v] ∧ w'.ownsRow w.heap.size 84 1 v n (nums (unpacks bs ws)) ∧ Below B0 w w' ∧ Kept g1 g2 w w' := by
  have hlw : ws.length = n := by have := hr.len; simpa [ints] using this
  have hbl := hb.len
  have HC := Lib.hid (fun k => whole_q2 A0 n c0 ws (len : Int) (w.drewN k) (by omega) (hr.drewN k) hw hs)
  have hd : ((len : Int) != (len : Int)) = false := by simp
  have lt1 := h1.lt
  have lt2 := h2.lt
  have k1 := blk_cell0 h1
  have HW := Lib.hid hw
  have HR := Lib.hid hr
  have HRB := Lib.hid hrb
  have HB := Lib.hid hb
  have HBB := Lib.hid hbb
  have HS := Lib.hid hs
  have HLW := Lib.hid hlw
  have HBL := Lib.hid hbl
  have H1 := Lib.hid h1
  have H2 := Lib.hid h2
  clear hr hrb hb hbb hw hs h1 h2 hlw hbl
  obtain ⟨hB1, hB2, h12⟩ := hbel
  go_enter Try.func55, Try.ntmps55
  go_wp2_with fail
  go_quiet ((go_at_call 53; exact Calls.quiet_of_same (HC.out _)))
  clear hd HC
  go_wp2_with fail
  clear k1
  go_loopw [14] (fun i wr => ∃ (k s : Nat) (B : Option Addr) (v : Value), k ≤ n ∧ i = .int .i64 k ∧ (s : Int) = (ws.take k).sum ∧ Blk wr g1 26 #[.slice B (len - s) (c1 - s)] ∧ BytesAt wr B (len - s) (bs.drop s) ∧ (∀ a, B = some a → 0 < len - s → a.block < B0) ∧
    Blk wr g2 22 #[v] ∧ wr.ownsRow w.heap.size 84 1 v k (nums ((unpacks bs ws).take k)) ∧ Below B0 w wr ∧ Kept g1 g2 w wr) (fun i _ => n - (intOf i).toNat)
  case atStart => exact ⟨0, 0, A1, .slice none 0 0, by omega, rfl, by simp, H1.out.drewN _, HB.out.drewN _, HBB.out, H2.out.drewN _, World.ownsRow_nil _ _ _ _, below_drewN (Below.refl _ _) _, fun i _ _ _ => rfl⟩
  case round =>
    obtain ⟨k, s, B, v, hk, rfl, hs, hb1, hby, hbb, hb2, hown, hbel, hkept⟩ := hrel
    have XK := Lib.hid hkept
    clear hkept
    obtain ⟨s0, s1⟩ := wsum_mono HW.out k
    have hS := HS.out
    have hsz := hbel.size
    by_cases hlt : k < n
    · obtain ⟨aw, z, rfl, hz, hcz⟩ := HR.out.int_at hlt
      have hawb := HRB.out aw rfl (by omega)
      have hcz' : wr.cell? (aw.add k) = some (.int .i64 z) := (World.cell?_of_block (hbel.block _ (by rw [block_of_add]; exact hawb))).trans hcz
      obtain ⟨z1, z2⟩ := wok_at HW.out hz
      obtain ⟨zn, rfl⟩ := Int.eq_ofNat_of_zero_le (by omega : 0 ≤ z)
      obtain ⟨s3, s4⟩ := wsum_mono HW.out (k + 1)
      have hss := wsum_succ hz
      have hrest : s + zn ≤ len := by omega
      obtain ⟨a, u, rfl, _, _⟩ := hby.at_ (k := 0) (by omega)
      have hun := unpacks_at ws bs k _ HW.out hz
      rw [← hs, Int.toNat_natCast, Int.toNat_natCast] at hun
      have hnum := fun wx (hbx : BytesAt wx (some a) (len - s) (bs.drop s)) => number_any (some a) zn (c1 - s) ((bs.drop s).take zn) wx (by omega) (hbx.take_ zn (by omega))
      generalize num ((bs.drop s).take zn) = y at hun hnum
      have htk : (unpacks bs ws).take (k + 1) = (unpacks bs ws).take k ++ [y] := by rw [List.take_add_one, hun]; rfl
      have HN := Lib.hid (hnum _ hby.drew)
      have c1k := blk_cell0 hb1
      have c2k := blk_cell0 hb2
      have lt2' := hb2.lt
      have X1 := Lib.hid hb1
      have X2 := Lib.hid hb2
      have X3 := Lib.hid hby
      have X4 := Lib.hid hbb
      have X5 := Lib.hid hown
      have X6 := Lib.hid hbel
      have X7 := Lib.hid htk
      have X8 := Lib.hid hz
      have X9 := Lib.hid hs
      have XS := Lib.hid hss
      clear hb1 hb2 hby hbb hown hbel htk hun hnum hz hs hss
      have f1 : (zn : Int) ≤ ((c1 - s : Nat) : Int) := by omega
      have f2 : (0 : Int) ≤ (zn : Int) := by omega
      have f3 : ¬ c1 - s = 0 := by omega
      go_wp2_with fail
      go_region_law
        (first
          | (go_simp; go_at_call 56; refine HN.out.mono ?_; rintro e w2 ⟨rfl, rfl⟩)
          | (refine step_app_u64 _ rfl (.tmp 18) (.tmp 23) rfl w.heap.size v k (nums ((unpacks bs ws).take k)) rfl (X5.out.drew.alloc _) ⟨wr.heap.size, 0, none⟩ 1 y rfl (by simp) (by omega) (by simp; omega) ?_
             intro v' w2 hown2 hg2
             obtain ⟨gv, cv, csv, rfl, hgv, _, _, _, _⟩ := own_form hown2 (by omega)
             have n1 : some g1 ≠ v.ownBlock := fun e => by have := (X5.out.lt g1 e.symm).1; omega
             have n2 : some g2 ≠ v.ownBlock := fun e => by have := (X5.out.lt g2 e.symm).1; omega
             have b1 := (X1.out.drew.alloc (.cells #[.int .u64 (y : Int)] 84)).grown hg2 n1
             have b2 := (X2.out.drew.alloc (.cells #[.int .u64 (y : Int)] 84)).grown hg2 n2
             have q1 := blk_cell0 b1
             have q2 := blk_cell0 b2
             have q3 := b2.frozen 0
             have Y1 := Lib.hid b1
             have Y2 := Lib.hid b2
             clear b1 b2))
      all_goals
        have m1 : (w2.setCell ⟨g2, 0, none⟩ (.slice (some ⟨gv, 0, none⟩) (k + 1) cv)).cell? ⟨g1, 0, none⟩ = some (.slice (some a) (len - s) (c1 - s)) := blk_cell0 (Y1.out.far h12 _)
        have m2 : (w2.setCell ⟨g2, 0, none⟩ (.slice (some ⟨gv, 0, none⟩) (k + 1) cv)).frozen? ⟨g1, 0, none⟩ = false := (Y1.out.far h12 _).frozen 0
        have own3 := ownsRow_setCell_below hown2 (a := ⟨g2, 0, none⟩) lt2 (.slice (some ⟨gv, 0, none⟩) (k + 1) cv)
        have blk1 := Y1.out.far (p := ⟨g2, 0, none⟩) h12 (.slice (some ⟨gv, 0, none⟩) (k + 1) cv)
        have blk2 := Y2.out.set_ 0 (.slice (some ⟨gv, 0, none⟩) (k + 1) cv)
        have bel2 : Below B0 w w2 := below_row (X6.out.alloc (by omega) (.cells #[.int .u64 (y : Int)] 84)).drew hg2 (fun g e => by have := (X5.out.lt g e).1; omega) (by simp; omega)
        have bel2' : Below B0 wr w2 := below_row ((Below.refl B0 wr).alloc (by omega) (.cells #[.int .u64 (y : Int)] 84)).drew hg2 (fun g e => by have := (X5.out.lt g e).1; omega) (by simp; omega)
        have bel3 := bel2.setCell (p := ⟨g2, 0, none⟩) hB2 (.slice (some ⟨gv, 0, none⟩) (k + 1) cv)
        have bel3' := bel2'.setCell (p := ⟨g2, 0, none⟩) hB2 (.slice (some ⟨gv, 0, none⟩) (k + 1) cv)
        have hkp : Kept g1 g2 w (w2.setCell ⟨g2, 0, none⟩ (.slice (some ⟨gv, 0, none⟩) (k + 1) cv)) := fun i hi hi1 hi2 => by
          rw [Below.heap_setCell _ _ _ i hi2, hg2.block i (by simp; omega) (fun e => by have := (X5.out.lt i e.symm).1; omega)]
          exact (Below.heap_alloc wr _ i (by omega)).trans (XK.out i hi hi1 hi2)
        have ZK := Lib.hid hkp
        clear hkp
        have Z1 := Lib.hid own3
        have Z2 := Lib.hid blk1
        have Z3 := Lib.hid blk2
        have Z4 := Lib.hid bel3
        have Z5 := Lib.hid bel3'
        clear own3 blk1 blk2 bel2 bel2' bel3 bel3' hown2 hg2 q1 q2 q3 n1 n2
        have f4 : (zn : Int) ≤ ((len - s : Nat) : Int) := by omega
        have e1 : len - s - zn = len - (s + zn) := by omega
        have e2 : c1 - s - zn = c1 - (s + zn) := by omega
        have hdr : (bs.drop s).drop zn = bs.drop (s + zn) := by rw [List.drop_drop]
        have hcut := X3.out.cut zn (len - s) (by omega) (Nat.le_refl _)
        rw [hdr, e1, List.take_of_length_le (by rw [List.length_drop]; have := HBL.out; omega)] at hcut
        have HCUT := Lib.hid hcut
        clear hcut hdr
        generalize hNV : Value.slice (some ⟨gv, 0, none⟩) (k + 1) cv = NV at m1 m2 Z1 Z2 Z3 Z4 Z5 ZK ⊢
        generalize w2.setCell ⟨g2, 0, none⟩ NV = w3 at m1 m2 Z1 Z2 Z3 Z4 Z5 ZK ⊢
        clear hNV
        by_cases hcz : c1 - s = zn
        · go_wp2_with fail
          go_roundw
          case rel =>
            refine ⟨k + 1, s + zn, some a, NV, by omega, by go_num, by rw [XS.out]; have := X9.out; omega, ?_, ?_, ?_, ?_, ?_, ?_, ?_⟩
            · first | exact Z2.out.set_ 0 _ | (rw [show c1 - (s + zn) = 0 by omega]; exact Z2.out.set_ 0 _) | (rw [← e1, ← e2]; exact Z2.out.set_ 0 _)
            · rw [show len - (s + zn) = 0 by omega, List.drop_of_length_le (by have := HBL.out; omega)]; exact BytesAt.nil_ _ _
            · intro a' _ h; omega
            · exact Z3.out.far (by simpa using h12.symm) _
            · rw [X7.out, nums, List.map_append]
              exact ownsRow_setCell_below Z1.out lt1 _
            · exact Z4.out.setCell hB1 _
            · exact fun i hi hi1 hi2 => (Below.heap_setCell _ _ _ i hi1).trans (ZK.out i hi hi1 hi2)
          case measure => simp [intOf]; omega
        · go_wp2_with fail
          go_roundw
          case rel =>
            refine ⟨k + 1, s + zn, some (a.add zn), NV, by omega, by go_num, by rw [XS.out]; have := X9.out; omega, ?_, ?_, ?_, ?_, ?_, ?_, ?_⟩
            · first | exact Z2.out.set_ 0 _ | (rw [← e1, ← e2]; exact Z2.out.set_ 0 _)
            · refine HCUT.out.keep fun a' e hn i u hu => ?_
              obtain rfl : a.add zn = a' := by simpa using e
              have hlt := X4.out a rfl (by omega)
              exact (World.cell?_of_block ((Z5.out.setCell hB1 _).block _ (by rw [block_of_add, block_of_add]; exact hlt))).trans hu
            · intro a' e h
              obtain rfl : a.add zn = a' := by simpa using e
              rw [block_of_add]; exact X4.out a rfl (by omega)
            · exact Z3.out.far (by simpa using h12.symm) _
            · rw [X7.out, nums, List.map_append]
              exact ownsRow_setCell_below Z1.out lt1 _
            · exact Z4.out.setCell hB1 _
            · exact fun i hi hi1 hi2 => (Below.heap_setCell _ _ _ i hi1).trans (ZK.out i hi hi1 hi2)
          case measure => simp [intOf]; omega
    · obtain rfl : k = n := by omega
      have hul : (unpacks bs ws).take k = unpacks bs ws := List.take_of_length_le (by rw [unpacks_length, HLW.out]; exact Nat.le_refl _)
      rw [hul] at hown
      have X1 := Lib.hid hb1
      have X2 := Lib.hid hb2
      have X3 := Lib.hid hby
      have X4 := Lib.hid hbb
      have X5 := Lib.hid hown
      have X6 := Lib.hid hbel
      clear hb1 hb2 hby hbb hown hbel hul hs
      go_wp2_with fail
      go_end0
      exact ⟨rfl, v, X2.out, X5.out, X6.out, XK.out⟩
end Go.Proofs.Ytafonjnanfekkaa.Wire

namespace Go.Proofs.Ytafonjnanfekkaa.Wire
open Go.RowKit
set_option maxHeartbeats 16000000
set_option maxRecDepth 100000
set_option linter.unusedVariables false
set_option linter.unusedSimpArgs false

theorem enter_unpack (caps : Array Value) (w : World) : (callFunc 55 caps).run Try.prog w = .ok (.enter 55 caps) w := by simp [go_sem]
theorem unpack_of (A0 A1 : Option Addr) (n c0 len c1 : Nat) (c : Int) (v : Value) (w : World) (R : World → World → Prop)
    (h : ∀ W, ((w.alloc (.cells #[.slice A1 len c1] 26)).alloc (.cells #[.slice A0 n c0] 23)).alloc (.cells #[.slice none 0 0] 22) = W →
      Calls Try.prog 51 #[.func (.func 55) #[] #[.pointer (some ⟨w.heap.size + 1, 0, none⟩), .pointer (some ⟨w.heap.size, 0, none⟩), .pointer (some ⟨w.heap.size + 1 + 1, 0, none⟩)]] W
        fun e w' => e = .returned (.int .i64 c) ∧ R W w' ∧ w'.cell? ⟨w.heap.size + 1 + 1, 0, none⟩ = some v) :
    Calls Try.prog 17 #[.slice A1 len c1, .slice A0 n c0] w fun e w' => e = .returned (.tuple #[v, .int .i64 c]) ∧ ∃ W, ((w.alloc (.cells #[.slice A1 len c1] 26)).alloc (.cells #[.slice A0 n c0] 23)).alloc (.cells #[.slice none 0 0] 22) = W ∧ R W w' := by
  have hmf : ∀ (fn : Fn) (first cap : Array Value) (w : World), (Instr.makeFunc fn first cap).run Try.prog w = .ok (.func fn first cap) w := fun _ _ _ _ => rfl
  have H := Lib.hid (h _ rfl)
  clear h
  go_enter Try.func17, Try.ntmps17
  go_wp2_with fail
  refine H.out.mono ?_
  rintro e w1 ⟨rfl, hr, hc⟩
  have HR := Lib.hid hr
  clear hr
  go_wp2_with fail
  go_ret2
  exact ⟨rfl, _, rfl, HR.out⟩

theorem unpack_fin (A0 A1 : Option Addr) (n c0 len c1 : Nat) (c : Int) (w : World) (R : Value → World → Prop)
    (h : ∀ W, ((w.alloc (.cells #[.slice A1 len c1] 26)).alloc (.cells #[.slice A0 n c0] 23)).alloc (.cells #[.slice none 0 0] 22) = W →
      Calls Try.prog 51 #[.func (.func 55) #[] #[.pointer (some ⟨w.heap.size + 1, 0, none⟩), .pointer (some ⟨w.heap.size, 0, none⟩), .pointer (some ⟨w.heap.size + 1 + 1, 0, none⟩)]] W
        fun e w' => e = .returned (.int .i64 c) ∧ ∃ v, R v w' ∧ w'.cell? ⟨w.heap.size + 1 + 1, 0, none⟩ = some v) :
    Calls Try.prog 17 #[.slice A1 len c1, .slice A0 n c0] w fun e w' => ∃ v, e = .returned (.tuple #[v, .int .i64 c]) ∧ R v w' := by
  have hmf : ∀ (fn : Fn) (first cap : Array Value) (w : World), (Instr.makeFunc fn first cap).run Try.prog w = .ok (.func fn first cap) w := fun _ _ _ _ => rfl
  have H := Lib.hid (h _ rfl)
  clear h
  go_enter Try.func17, Try.ntmps17
  go_wp2_with fail
  refine H.out.mono ?_
  rintro e w1 ⟨rfl, v, hr, hc⟩
  have HR := Lib.hid hr
  clear hr
  go_wp2_with fail
  go_ret2
  exact ⟨v, rfl, HR.out⟩

theorem unpack_gives (A0 A1 : Option Addr) (n c0 len c1 : Nat) (c : Int) (w : World)
    (h : ∀ W, ((w.alloc (.cells #[.slice A1 len c1] 26)).alloc (.cells #[.slice A0 n c0] 23)).alloc (.cells #[.slice none 0 0] 22) = W →
      Calls Try.prog 55 #[.pointer (some ⟨w.heap.size + 1, 0, none⟩), .pointer (some ⟨w.heap.size, 0, none⟩), .pointer (some ⟨w.heap.size + 1 + 1, 0, none⟩)] (W.alloc (.cells #[.int .i64 0] 27))
        fun e w' => e = .panicked [{ v := wrong c, recovered := false }] ∧ ∃ n, w' = (W.alloc (.cells #[.int .i64 0] 27)).drewN n) :
    Calls Try.prog 17 #[.slice A1 len c1, .slice A0 n c0] w fun e w' => e = .returned (.tuple #[.slice none 0 0, .int .i64 c]) ∧ Below w.heap.size w w' := by
  refine (unpack_of A0 A1 n c0 len c1 c (.slice none 0 0) w (fun W w' => Below w.heap.size w w') (fun W hW => ?_)).mono ?_
  · obtain ⟨b0, b1, b2, hbel, hsz⟩ := boxes3 w _ _ _ _ _ _ W hW
    refine (try_gives 55 _ W (fun w' => ∃ n, w' = (W.alloc (.cells #[.int .i64 0] 27)).drewN n) c (enter_unpack _) (h W hW) (fun w' h => by obtain ⟨n, rfl⟩ := h; exact (Blk.new W _ _).drewN n)).mono ?_
    rintro e w' ⟨he, w1, ⟨q, rfl⟩, hg⟩
    have hb1 : Below w.heap.size w ((W.alloc (.cells #[.int .i64 0] 27)).drewN q) := below_drewN (hbel.alloc hbel.size _) q
    refine ⟨he, below_only hb1 hg (fun g hg => by injection hg with hg; omega), ?_⟩
    exact blk_cell0 (((b2.alloc (.cells #[.int .i64 0] 27)).drewN q).grown hg (by simp; omega))
  · rintro e w' ⟨he, W, hW, hb⟩
    exact ⟨he, hb⟩

theorem unpack_any (A0 A1 : Option Addr) (n c0 len c1 : Nat) (ws : List Int) (bs : List UInt8) (w : World) (hn : n ≤ 17592186044415) (hl : len ≤ c1) (hc1 : c1 ≤ 9223372036854775807)
    (hr : RowAt w A0 n (ints ws)) (hb : BytesAt w A1 len bs) :
    Calls Try.prog 17 #[.slice A1 len c1, .slice A0 n c0] w fun e w' => ∃ v, e = .returned (.tuple #[v, .int .i64 (unpackE bs ws)]) ∧ Below w.heap.size w w' ∧
      w'.ownsRow w.heap.size 84 1 v (unpackX bs ws).length (nums (unpackX bs ws)) := by
  have hlw : ws.length = n := by have := hr.len; simpa [ints] using this
  have hbl := hb.len
  have hrb : ∀ a, A0 = some a → 0 < n → a.block < w.heap.size := fun a e h => by subst e; exact hr.lt h
  have hbb : ∀ a, A1 = some a → 0 < len → a.block < w.heap.size := fun a e h => by subst e; exact hb.lt h
  cases hm : umay bs ws
  · have hE : unpackE bs ws = 22 := by simp [unpackE, hm]
    have hX : unpackX bs ws = [] := by simp [unpackX, hm]
    rw [hE, hX]
    refine (unpack_gives A0 A1 n c0 len c1 22 w (fun W hW => ?_)).mono fun e w' ⟨he, hbel⟩ => ⟨.slice none 0 0, he, hbel, World.ownsRow_nil _ _ _ _⟩
    obtain ⟨b0, b1, b2, hbel, hsz⟩ := boxes3 w _ _ _ _ _ _ W hW
    have k0 := blk_cell0 (b0.alloc (.cells #[.int .i64 0] 27))
    have k1 := blk_cell0 (b1.alloc (.cells #[.int .i64 0] 27))
    have hrW := (hr.below hbel).alloc (.cells #[.int .i64 0] 27)
    cases hw : wok ws
    · exact unpack1_bad _ _ _ A0 A1 n c0 len c1 ws _ (by omega) hrW hw k1 k0
    · refine unpack1_size _ _ _ A0 A1 n c0 len c1 ws _ (by omega) hrW hw ?_ k1 k0
      simp [umay, hw] at hm
      rw [hbl] at hm
      exact hm
  · have hE : unpackE bs ws = 0 := by simp [unpackE, hm]
    have hX : unpackX bs ws = unpacks bs ws := by simp [unpackX, hm]
    simp only [umay, Bool.and_eq_true, decide_eq_true_eq] at hm
    obtain ⟨hw, hs⟩ := hm
    rw [hbl] at hs
    rw [hE, hX, unpacks_length, hlw]
    have key : ∀ W, ((w.alloc (.cells #[.slice A1 len c1] 26)).alloc (.cells #[.slice A0 n c0] 23)).alloc (.cells #[.slice none 0 0] 22) = W → Calls Try.prog 51 #[.func (.func 55) #[] #[.pointer (some ⟨w.heap.size + 1, 0, none⟩), .pointer (some ⟨w.heap.size, 0, none⟩), .pointer (some ⟨w.heap.size + 1 + 1, 0, none⟩)]] W
        fun e w' => e = .returned (.int .i64 0) ∧ ∃ v, Below w.heap.size w w' ∧ w'.ownsRow w.heap.size 84 1 v n (nums (unpacks bs ws)) ∧ w'.cell? ⟨w.heap.size + 1 + 1, 0, none⟩ = some v := by
      intro W hW
      obtain ⟨b0, b1, b2, hbel, hsz⟩ := boxes3 w _ _ _ _ _ _ W hW
      have hcl := unpack1_ok (w.heap.size + 1) w.heap.size (w.heap.size + 1 + 1) w.heap.size A0 A1 n c0 len c1 ws bs (W.alloc (.cells #[.int .i64 0] 27)) hn hl hc1 ⟨by omega, by omega, by omega⟩
        ((hr.below hbel).alloc _) hrb ((hb.below hbel).alloc _) hbb hw hs (blk_cell0 (b1.alloc _)) (b0.alloc _) (b2.alloc _)
      refine (try_ok 55 _ W _ (enter_unpack _) hcl (fun w' ⟨v, h1, h2, h3, h4⟩ => (h4 W.heap.size (by simp) (by omega) (by omega)).trans (Blk.new W _ _))).mono ?_
      rintro e w' ⟨he, w1, ⟨v, h1, h2, h3, h4⟩, hg⟩
      have hb1 : Below w.heap.size w w1 := (hbel.alloc hbel.size _).trans h3
      refine ⟨he, v, below_only hb1 hg (fun g hg => by injection hg with hg; omega), ?_, ?_⟩
      · have h2' : w'.ownsRow (W.alloc (.cells #[.int .i64 0] 27)).heap.size 84 1 v n (nums (unpacks bs ws)) := own_kept h2 hg (fun e => by
          have := (h2.lt W.heap.size e.symm).1
          simp at this; omega)
        refine ⟨h2'.1, h2'.2.imp id fun ⟨g, cap, cs, x1, x2, x3⟩ => ⟨g, cap, cs, x1, by simp at x2; omega, x3⟩⟩
      · exact blk_cell0 (h1.grown hg (by simp; omega))
    exact unpack_fin A0 A1 n c0 len c1 0 w (fun v w' => Below w.heap.size w w' ∧ w'.ownsRow w.heap.size 84 1 v n (nums (unpacks bs ws))) (fun W hW => (key W hW).mono fun e w' ⟨he, v, x1, x2, x3⟩ => ⟨he, v, ⟨x1, x2⟩, x3⟩)
end Go.Proofs.Ytafonjnanfekkaa.Wire

namespace Go.Proofs.Ytafonjnanfekkaa.Wire
open Go.RowKit
set_option maxHeartbeats 8000000
set_option maxRecDepth 100000
set_option linter.unusedVariables false
set_option linter.unusedSimpArgs false

theorem packs_unpacks : ∀ (ws : List Int) (bs : List UInt8), wok ws = true → ws.sum = (bs.length : Int) → packs (unpacks bs ws) ws = some bs
  | [], bs, _, hs => by
    have : bs = [] := List.eq_nil_of_length_eq_zero (by simp at hs; omega)
    subst this; rfl
  | z :: ws, bs, hw, hs => by
    simp only [wok, List.all_cons, Bool.and_eq_true] at hw
    obtain ⟨h1, h2⟩ := wok1_true hw.1
    have hm := wsum_le ws hw.2
    simp only [List.sum_cons] at hs
    have hl : (bs.take z.toNat).length = z.toNat := by rw [List.length_take]; omega
    have hn := num_lt (bs.take z.toNat)
    rw [hl] at hn
    have hle := le_num (bs.take z.toNat)
    rw [hl] at hle
    have ih := packs_unpacks ws (bs.drop z.toNat) hw.2 (by rw [List.length_drop]; omega)
    simp only [unpacks, packs, if_pos hn, ih, Option.map_some, hle, List.take_append_drop]
theorem unpacks_lt (ws : List Int) (bs : List UInt8) (hw : wok ws = true) : ∀ x ∈ unpacks bs ws, x < 18446744073709551616 := by
  induction ws generalizing bs with
  | nil => intro x h; simp [unpacks] at h
  | cons z ws ih =>
    intro x h
    simp only [wok, List.all_cons, Bool.and_eq_true] at hw
    obtain ⟨h1, h2⟩ := wok1_true hw.1
    simp only [unpacks, List.mem_cons] at h
    rcases h with rfl | h
    · exact num_lt64 (by rw [List.length_take]; omega)
    · exact ih _ hw.2 x h
theorem pack_back (ws : List Int) (bs : List UInt8) (hw : wok ws = true) (hs : ws.sum = (bs.length : Int)) (h : bs.length ≤ 4096) :
    packE (unpacks bs ws) ws (bs.length : Int) = 0 ∧ packB (unpacks bs ws) ws (bs.length : Int) = bs := by
  have hm : pmay (unpacks bs ws) ws (bs.length : Int) = true := by
    simp [pmay, unpacks_length, hw]; omega
  have hp := packs_unpacks ws bs hw hs
  exact ⟨by simp [packE, hm, hp], by simp [packB, hm, hp]⟩

end Go.Proofs.Ytafonjnanfekkaa.Wire

namespace Go.Proofs.Ytafonjnanfekkaa.Wire
open Go.RowKit
set_option maxHeartbeats 16000000
set_option maxRecDepth 100000
set_option linter.unusedVariables false
set_option linter.unusedSimpArgs false

end Go.Proofs.Ytafonjnanfekkaa.Wire

namespace Go.Proofs.Ytafonjnanfekkaa.Wire
open Go.RowKit
set_option maxHeartbeats 16000000
set_option maxRecDepth 100000
set_option linter.unusedVariables false
set_option linter.unusedSimpArgs false

theorem ref_pack_no (A0 A1 : Option Addr) (n0 c0 n1 c1 : Nat) (l : List Nat) (ws : List Int) (size : Int) (w : World) (hn : n1 ≤ 1125899906842624) (hr : RowAt w A1 n1 (ints ws)) (hll : l.length = n0) (hm : pmay l ws size = false) :
    Calls Try.prog 69 #[.slice A0 n0 c0, .slice A1 n1 c1, .int .i64 size] w fun e w' => e = .returned (.tuple #[.slice none 0 0, .int .i64 22]) ∧ w = w' := by
  have hlw : ws.length = n1 := by have := hr.len; simpa [ints] using this
  have HS := Lib.hid (ref_sum A1 n1 c1 ws w hn hr)
  clear hr
  by_cases hne : n0 = n1
  · subst hne
    have hd0 : ((n0 : Int) != (n0 : Int)) = false := by simp
    cases hw : wok ws
    · rw [hw] at HS
      simp only [Bool.false_eq_true, if_false] at HS
      clear hm hw
      go_enter Try.func69, Try.ntmps69
      go_wp2_with (go_at_call 96; refine HS.out.mono ?_; rintro e w' ⟨rfl, rfl⟩)
      go_ret2
      exact ⟨rfl, rfl⟩
    · rw [hw] at HS
      simp only [if_true] at HS
      have hs0 := (wsum_le ws hw).1
      have hor : size < ws.sum ∨ 4096 < size := by
        simp [pmay, hw, hll, hlw] at hm; omega
      by_cases h1 : size < 0
      · have hd1 : decide (size < 0) = true := by simpa using h1
        clear hm hw hor hs0
        go_enter Try.func69, Try.ntmps69
        go_wp2_with (go_at_call 96; refine HS.out.mono ?_; rintro e w' ⟨rfl, rfl⟩)
        go_ret2
        exact ⟨rfl, rfl⟩
      have hd1 : decide (size < 0) = false := by simpa using h1
      by_cases h2 : 4096 < size
      · have hd2 : decide (4096 < size) = true := by simpa using h2
        clear hm hw hor hs0
        go_enter Try.func69, Try.ntmps69
        go_wp2_with (go_at_call 96; refine HS.out.mono ?_; rintro e w' ⟨rfl, rfl⟩)
        go_ret2
        exact ⟨rfl, rfl⟩
      have hd2 : decide (4096 < size) = false := by simpa using h2
      have h3 : size < ws.sum := by omega
      have hd3 : decide (size < ws.sum) = true := by simpa using h3
      clear hm hw hor hs0
      go_enter Try.func69, Try.ntmps69
      go_wp2_with (go_at_call 96; refine HS.out.mono ?_; rintro e w' ⟨rfl, rfl⟩)
      go_ret2
      exact ⟨rfl, rfl⟩
  · have hd0 : ((n0 : Int) != (n1 : Int)) = true := by simp; omega
    clear hm
    generalize (if wok ws = true then ws.sum else 0) = s at HS
    generalize wok ws = b at HS
    go_enter Try.func69, Try.ntmps69
    go_wp2_with (go_at_call 96; refine HS.out.mono ?_; rintro e w' ⟨rfl, rfl⟩)
    go_ret2
    exact ⟨rfl, rfl⟩

/-- How it ends: all numbers went in, or the one at j did not. -/
def PackEnd (j n N g : Nat) (e : Ending) : Prop :=
  (j = n → e = .returned (.tuple #[.slice (some ⟨g, 0, none⟩) N N, .int .i64 0])) ∧ (j < n → e = .returned (.tuple #[.slice none 0 0, .int .i64 34]))

/-- All numbers go in (j = n), or the one at j is the first that does not. -/
theorem ref_pack_may (A0 A1 : Option Addr) (n c0 c1 N j : Nat) (l : List Nat) (ws : List Int) (w : World) (hn : n ≤ 1125899906842624)
    (hl : RowAt w A0 n (nums l)) (hr : RowAt w A1 n (ints ws)) (hw : wok ws = true) (hs : ws.sum ≤ (N : Int)) (hN : N ≤ 4096) (h64 : ∀ x ∈ l, x < 18446744073709551616) (hj : j ≤ n)
    (hbig : ∀ (k x : Nat) (z : Int), k < j → l[k]? = some x → ws[k]? = some z → x < 256 ^ z.toNat)
    (hend : j < n → ∀ (x : Nat) (z : Int), l[j]? = some x → ws[j]? = some z → ¬ x < 256 ^ z.toNat) :
    Calls Try.prog 69 #[.slice A0 n c0, .slice A1 n c1, .int .i64 (N : Int)] w fun e w' =>
      PackEnd j n N w.heap.size e ∧
      Blk w' w.heap.size 5 (roomOf (pre l ws j) N) ∧ Below w.heap.size w w' := by
  have hll : l.length = n := by have := hl.len; simpa [nums] using this
  have hlw : ws.length = n := by have := hr.len; simpa [ints] using this
  have HS := Lib.hid (ref_sum A1 n c1 ws w hn hr)
  rw [hw] at HS
  simp only [if_true] at HS
  have hmk := make_bytes N (by omega)
  have hsl := (wsum_le ws hw).1
  have hd0 : ((n : Int) != (n : Int)) = false := by simp
  have hd1 : decide ((N : Int) < 0) = false := decide_eq_false (by omega)
  have hd2 : decide ((4096 : Int) < (N : Int)) = false := by simp; omega
  have hd3 : decide ((N : Int) < ws.sum) = false := by simp; omega
  have HW := Lib.hid hw
  have HBIG := Lib.hid hbig
  have HEND := Lib.hid hend
  have H64 := Lib.hid h64
  have HL := Lib.hid hl
  have HR := Lib.hid hr
  have HLL := Lib.hid hll
  have HLW := Lib.hid hlw
  have hsN := Lib.hid hs
  clear hw hbig hend h64 hl hr hll hlw hs
  go_enter Try.func69, Try.ntmps69
  go_wp2_with (go_at_call 96; refine HS.out.mono ?_; rintro e w' ⟨rfl, rfl⟩)
  clear hmk hd0 hd1 hd2 hd3 HS
  go_loopw [11, 12] (fun a i wr => ∃ (k s : Nat), k ≤ j ∧ i = .int .i64 k ∧ (s : Int) = (ws.take k).sum ∧ a = .int .i64 s ∧ Blk wr w.heap.size 5 (roomOf (pre l ws k) N) ∧ Below w.heap.size w wr) (fun _ i _ => n - (intOf i).toNat)
  case atStart => exact ⟨0, 0, by omega, rfl, by simp, rfl, by rw [pre_zero]; exact Blk.new w _ _, (Below.refl _ w).alloc (Nat.le_refl _) _⟩
  case round =>
    obtain ⟨k, s, hk, rfl, hs, rfl, hblk, hbel⟩ := hrel
    obtain ⟨s0, s1⟩ := wsum_mono HW.out k
    have hSN := hsN.out
    by_cases hlt : k < n
    · obtain ⟨aw, z, rfl, hz, hcz0⟩ := HR.out.int_at hlt
      obtain ⟨al, x, rfl, hx, hcx0⟩ := HL.out.num_at hlt
      have lw := World.block_lt_of_cell? w _ hcz0
      have ll := World.block_lt_of_cell? w _ hcx0
      have hcz := (hbel.cell lw).trans hcz0
      have hcx := (hbel.cell ll).trans hcx0
      obtain ⟨z1, z2⟩ := wok_at HW.out hz
      obtain ⟨zn, rfl⟩ := Int.eq_ofNat_of_zero_le (by omega : 0 ≤ z)
      obtain ⟨s3, s4⟩ := wsum_mono HW.out (k + 1)
      have hss := wsum_succ hz
      have hrest : s + zn ≤ N := by omega
      have hx64 := H64.out x (List.mem_of_getElem? hx)
      have hf : fits N (s : Int) (zn : Int) = true := fits_mk (by omega) (by omega) (by omega) (by omega)
      have hlen := pre_length l ws k (by rw [HLL.out, HLW.out]) HW.out
      have hpl : (pre l ws k).length = s := by omega
      have B := Lib.hid hblk
      have BL := Lib.hid hbel
      have f4 : (0 : Int) ≤ (k : Int) := by omega
      have f5 : (k : Int) < (n : Int) := by omega
      by_cases hkj : k < j
      · have hxb := HBIG.out k x _ hkj hx hz
        have hps := pre_succ l ws k x _ hx hz
        rw [Int.toNat_natCast] at hps
        have hput := roomOf_put (bs := pre l ws k) (new := le zn x) (size := N) (by rw [le_length]; omega)
        rw [le_length, hpl, ← hps] at hput
        have hcall := ref_put_ok ⟨w.heap.size, 0, none⟩ N N x (s : Int) (zn : Int) (roomOf (pre l ws k) N) wr.drew (Nat.le_refl _) (by omega) hf hxb hx64 rfl (by rw [roomOf_size (by omega)]; simp) hblk
        simp only [Int.toNat_natCast, Nat.zero_add, hput] at hcall
        have HC := Lib.hid hcall
        have HSS := Lib.hid hss
        have XS := Lib.hid hs
        have i1 : IntKind.i64.wrap ((s : Int) + (zn : Int)) = (s : Int) + (zn : Int) := by rw [IntKind.wrap_i64]; omega
        clear hcall hput hps hxb hss hs hx hz hblk hbel hlen hpl hf hSN
        go_wp2_with fail
        go_region_held3 (fun w' => w'.cell? (al.add k) = some (.int .u64 (x : Int)) ∧ w'.cell? (aw.add k) = some (.int .i64 (zn : Int)))
          (first | go_keep | exact ⟨q1, q2⟩)
          (first | (go_simp; go_at_call 97; refine HC.out.mono ?_; rintro e w2 ⟨rfl, hbk, hg⟩
                    have bel2 := below_row BL.out (only_of_drew hg) (fun g e => by injection e with e; omega) BL.out.size
                    have q1 := (bel2.cell ll).trans hcx0
                    have q2 := (bel2.cell lw).trans hcz0
                    have Y1 := Lib.hid hbk
                    have Y2 := Lib.hid bel2
                    clear hbk hg bel2))
        go_wp2_with fail
        go_roundw
        case rel => exact ⟨k + 1, s + zn, by omega, by go_num, by rw [HSS.out, ← XS.out]; omega, by go_num, Y1.out, Y2.out⟩
        case measure => simp [intOf]; omega
      · obtain rfl : k = j := by omega
        have hxb := HEND.out hlt x _ hx hz
        have hcall := ref_put_big (some ⟨w.heap.size, 0, none⟩) N N x (s : Int) (zn : Int) wr.drew (by omega) hf hxb hx64
        have HC := Lib.hid hcall
        clear hcall hxb hss hs hx hz hblk hbel hlen hpl hf hSN
        go_wp2_with fail
        go_region_held3 (fun w' => w'.cell? (al.add k) = some (.int .u64 (x : Int)) ∧ w'.cell? (aw.add k) = some (.int .i64 (zn : Int)))
          (first | go_keep)
          (first | (go_simp; go_at_call 97; refine HC.out.mono ?_; rintro e w2 ⟨rfl, rfl⟩))
        go_wp2_with fail
        go_ret2
        exact ⟨⟨fun h => by omega, fun _ => rfl⟩, B.out, below_drewN BL.out 1⟩
    · obtain rfl : k = n := by omega
      obtain rfl : j = k := by omega
      have B := Lib.hid hblk
      have BL := Lib.hid hbel
      clear hblk hbel hs
      go_wp2_with fail
      go_ret2
      exact ⟨⟨fun _ => rfl, fun h => by omega⟩, B.out, BL.out⟩

theorem ref_pack_any (A0 A1 : Option Addr) (n0 c0 n1 c1 : Nat) (l : List Nat) (ws : List Int) (size : Int) (w : World) (hn : n1 ≤ 1125899906842624) (h64 : ∀ x ∈ l, x < 18446744073709551616)
    (hl : RowAt w A0 n0 (nums l)) (hr : RowAt w A1 n1 (ints ws)) :
    Calls Try.prog 69 #[.slice A0 n0 c0, .slice A1 n1 c1, .int .i64 size] w fun e w' => ∃ v, e = .returned (.tuple #[v, .int .i64 (packE l ws size)]) ∧ Below w.heap.size w w' ∧
      w'.ownsRow w.heap.size 5 1 v (packB l ws size).length (bvl (packB l ws size)) := by
  have hll : l.length = n0 := by have := hl.len; simpa [nums] using this
  have hlw : ws.length = n1 := by have := hr.len; simpa [ints] using this
  cases hm : pmay l ws size
  · have hE : packE l ws size = 22 := by simp [packE, hm]
    have hB : packB l ws size = [] := by simp [packB, hm]
    rw [hE, hB]
    exact (ref_pack_no A0 A1 n0 c0 n1 c1 l ws size w hn hr hll hm).mono fun e w' ⟨he, hb⟩ => ⟨_, he, hb ▸ Below.refl _ _, World.ownsRow_nil _ _ _ _⟩
  · have hm' := hm
    simp only [pmay, Bool.and_eq_true, decide_eq_true_eq] at hm'
    obtain ⟨m1, m2, m3, m4⟩ := hm'
    obtain rfl : n0 = n1 := by omega
    have hsum := wsum_le ws m2
    obtain ⟨N, rfl⟩ := Int.eq_ofNat_of_zero_le (by omega : 0 ≤ size)
    rcases first_big l ws m1 with hbig | ⟨j, x, z, j1, j2, j3, j4⟩
    · have hp := packs_some l ws m1 hbig
      have hE : packE l ws (N : Int) = 0 := by simp [packE, hm, hp]
      have hB : packB l ws (N : Int) = pre l ws l.length ++ List.replicate (N - (pre l ws l.length).length) 0 := by simp [packB, hm, hp]
      have hpl := pre_length l ws l.length m1 m2
      rw [m1, List.take_length, ← m1] at hpl
      have hBl : (packB l ws (N : Int)).length = N := by rw [hB]; simp; omega
      rw [hE]
      refine (ref_pack_may A0 A1 n0 c0 c1 N n0 l ws w hn hl hr m2 m3 (by omega) h64 (Nat.le_refl _) (fun k x z _ => hbig k x z) (fun h => by omega)).mono fun e w' ⟨⟨he, _⟩, hk, hb⟩ => ⟨_, he rfl, hb, ?_⟩
      rw [hBl]
      refine ⟨by rw [bvl_length, hBl]; omega, .inr ⟨_, N, _, rfl, by omega, hk, Nat.le_refl _, by unfold maxLen; omega, by rw [roomOf_size (by rw [← hll]; omega)]; omega, ?_⟩⟩
      rw [← hll, hB, roomOf]
      simp only [Nat.mul_one]
      exact List.take_of_length_le (by rw [bvl_length, List.length_append, List.length_replicate]; omega)
    · have hp := packs_none l ws j x z j1 j2 j3
      have hE : packE l ws (N : Int) = 34 := by simp [packE, hm, hp]
      have hB : packB l ws (N : Int) = [] := by simp [packB, hm, hp]
      have hjn : j < n0 := by rw [← hll]; exact (List.getElem?_eq_some_iff.1 j1).1
      rw [hE, hB]
      refine (ref_pack_may A0 A1 n0 c0 c1 N j l ws w hn hl hr m2 m3 (by omega) h64 (by omega) j4 (fun _ x' z' h1 h2 => ?_)).mono fun e w' ⟨⟨_, he⟩, hk, hb⟩ => ⟨_, he hjn, hb, World.ownsRow_nil _ _ _ _⟩
      rw [j1] at h1; rw [j2] at h2
      injection h1 with h1; injection h2 with h2
      subst h1 h2; exact j3
end Go.Proofs.Ytafonjnanfekkaa.Wire
