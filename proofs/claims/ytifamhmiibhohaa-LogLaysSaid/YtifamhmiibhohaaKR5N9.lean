
/-
  THE WALKS of log.Escape and log.Unescape.
  THE WALK of layer 7's law: awake.
  THE WALKS of layer 7's law: mine, theirs.
  RECORDS, plain: there and back; a bit that is turned.
  RECORDS, plain: a byte that is turned breaks a record, its seed being among its bytes.
  THE WALK of the document's may, of records.
  THE WALK of the document's Pack, of records.
  MEMORY WITH OWNERS: each block has a colour; a call touches blocks of some colours alone, and new ones.
-/
import Derived.Test.YtifamhmiibhohaaKR5N8
import Derived.Laws.CopyOwn
import Derived.Test.YtifamhmiibhohaaKR5N7
import Derived.Test.YtifamhmiibhohaaKR5N3
import Derived.Maps.OwnSet
import Derived.Maps.Ext
namespace Go.Proofs.Ytifamhmiibhohaa.Log
open Go.RowKit Go.Proofs.Ytifamhmiibhohaa.Wire Go.Proofs.Ytifamhmiibhohaa.Lay
set_option maxHeartbeats 8000000
set_option maxRecDepth 100000
set_option linter.unusedVariables false
set_option linter.unusedSimpArgs false

def escIs (bs : List UInt8) : Bool := decide (4 ≤ bs.length) && (bs.take 4 == magicB)
def escB (bs : List UInt8) : List UInt8 := if escIs bs = true then [0, 0, 0, 0] ++ bs.drop 4 else bs
def unescB (bs : List UInt8) (e : Bool) : List UInt8 := if (e && decide (4 ≤ bs.length)) = true then magicB ++ bs.drop 4 else bs
theorem escB_length (bs : List UInt8) : (escB bs).length = bs.length := by
  unfold escB
  split
  · rename_i h
    simp only [escIs, Bool.and_eq_true, decide_eq_true_eq] at h
    rw [List.length_append, List.length_drop]; simp only [List.length_cons, List.length_nil]; omega
  · rfl
theorem unescB_length (bs : List UInt8) (e : Bool) : (unescB bs e).length = bs.length := by
  unfold unescB
  split
  · rename_i h
    simp only [Bool.and_eq_true, decide_eq_true_eq] at h
    rw [List.length_append, List.length_drop]; simp only [magicB, List.length_cons, List.length_nil]; omega
  · rfl
/-- copy onto a row of one's own, from its head on. -/
theorem copy_u8 (w : World) {ops : Array Oper} {rest : List Oper} {o : Oper} {a : Act} {Q : Exit → Act → World → Prop} (hgd : o.guard = none) (s x : Operand)
    (ho : o.op = .call { callee := .builtin .copy, args := #[s, x], argTypes := #[31, 31] })
    (base g n cap : Nat) (bs : List UInt8) (hs : a.eval s = .slice (some ⟨g, 0, none⟩) n cap) (hown : w.ownsRow base 5 1 (.slice (some ⟨g, 0, none⟩) n cap) n (bvl bs))
    (ad : Addr) (m c : Nat) (news : List UInt8) (hx : a.eval x = .slice (some ad) m c) (hb : BytesAt w (some ad) m news) (hmn : m ≤ n)
    (h : ∀ w', w'.ownsRow base 5 1 (.slice (some ⟨g, 0, none⟩) n cap) n (bvl (news ++ bs.drop m)) → w.grownBy w' (some g) → wpList Try.prog ops Q rest (a.put o.dst (.int .i64 (m : Int))) w') : wpList Try.prog ops Q (o :: rest) a w := by
  obtain ⟨cur, hbase, hblk, hnc, hcm, hcs⟩ := own_blk hown
  have hlen := hown.1
  rw [bvl_length] at hlen
  have hnl := hb.len
  refine wpList_copy_own hgd s x 31 31 ho 5 Try.underlying31 (by kernel_rfl) g 0 n cap ad m c hs hx cur 5 hblk (bvl news) (by rw [bvl_length, hnl]; exact (Nat.min_eq_left hmn).symm) ?_ (by rw [bvl_length]; omega) (fun v hv => by
      simp only [bvl, List.mem_map] at hv
      obtain ⟨c, _, rfl⟩ := hv
      rfl) ?_
  · intro j v hj
    rw [bvl_get] at hj
    obtain ⟨c, hc, rfl⟩ := Option.map_eq_some_iff.1 hj
    obtain ⟨a', e', hcc⟩ := hb.2 (by have := (List.getElem?_eq_some_iff.1 hc).1; omega)
    obtain rfl : ad = a' := by simpa using e'
    exact hcc j c hc
  · rw [show goInt (bvl news).length = .int .i64 (m : Int) by rw [bvl_length, hnl]; rfl]
    refine h _ ⟨?_, .inr ⟨g, cap, _, rfl, hbase, setRow_heap w g cur _ 5 (0, 0) hblk, hnc, hcm, ?_, ?_⟩⟩ ⟨rfl, rfl, rfl, by simp [World.setRow], fun k _ hk => setRow_other w g k _ (fun e => hk (by rw [e]))⟩
    · rw [bvl_length, List.length_append, List.length_drop]; omega
    · simp [bvl_length]; omega
    · obtain ⟨cur', e1, e2⟩ : ∃ cur' : Array Value, Blk w g 5 cur' ∧ cur'.toList.take (n * 1) = bvl bs := by
        rcases hown.2 with ⟨e, _⟩ | ⟨g', cap', cur', e, _, hb', _, _, _, ht⟩
        · cases e
        · injection e with e1 e2 e3
          injection e1 with e1
          injection e1 with e1
          subst e1
          exact ⟨cur', hb', ht⟩
      obtain rfl := hblk.same e1
      have : cur.toList.drop (0 + (bvl news).length) = cur.toList.drop m := by rw [bvl_length, hnl, Nat.zero_add]
      rw [this]
      simp only [List.take_zero, List.nil_append]
      rw [Nat.mul_one] at e2 ⊢
      rw [List.take_append, List.take_of_length_le (by rw [bvl_length]; omega), bvl_length, hnl]
      rw [show bvl (news ++ bs.drop m) = bvl news ++ (bvl bs).drop m by simp [bvl, List.map_drop], ← e2, List.drop_take]
theorem prefix_any (A B : Option Addr) (n c m cb : Nat) (x y : List UInt8) (w : World) (hm : 0 < m) (hnc : n ≤ c) (hc : c ≤ 9223372036854775807) (hmc : m ≤ 9223372036854775807) (hA : n ≠ 0 → A ≠ none) (ha : BytesAt w A n x) (hb : BytesAt w B m y) :
    Calls Try.prog 26 #[.slice A n c, .slice B m cb] w fun e w' => e = .returned (.bool (decide (m ≤ n) && (x.take m == y))) ∧ w = w' := by
  by_cases h : m ≤ n
  · obtain ⟨a, rfl⟩ : ∃ a, A = some a := by
      cases A with
      | none => exact absurd rfl (hA (by omega))
      | some a => exact ⟨a, rfl⟩
    have HE := fun c' => equal_any (some a) B m m c' cb (x.take m) y w (ha.take_ m h) hb
    have HH := Lib.hid (show (decide (m ≤ n) && (x.take m == y)) = (x.take m == y) by simp [h])
    have hk1 : (m : Int) ≤ (n : Int) := by omega
    have hk2 : (m : Int) ≤ (c : Int) := by omega
    have hk3 : (0 : Int) ≤ (m : Int) := by omega
    have hmc2 : m ≤ c := by omega
    have HX := Lib.hid HE
    clear ha hb hA HE
    go_enter Try.func26, Try.ntmps26
    go_wp2_with fail
    refine (HX.out _).mono ?_
    rintro e w1 ⟨rfl, rfl⟩
    go_wp2_with fail
    go_ret
    exact ⟨by rw [HH.out]; rfl, rfl⟩
  · have HH := Lib.hid (show (decide (m ≤ n) && (x.take m == y)) = false by simp [h])
    clear ha hb hA
    go_enter Try.func26, Try.ntmps26
    go_wp2_with fail
    go_ret
    exact ⟨by rw [HH.out]; rfl, rfl⟩
theorem escape_any (A : Option Addr) (n c : Nat) (bs : List UInt8) (w : World) (hnc : n ≤ c) (hn : n ≤ 140737488351232) (hcc : c ≤ 9223372036854775807) (hA : A = none → n = 0 ∧ c = 0) (hb : BytesAt w A n bs) :
    Calls Try.prog 13 #[.slice A n c] w fun e w' => ∃ v, e = .returned (.tuple #[v, .bool (escIs bs)]) ∧ Below w.heap.size w w' ∧ w'.ownsRow w.heap.size 5 1 v n (bvl (escB bs)) := by
  have hlen := hb.len
  have hmk := make_bytes 4 (by omega)
  rw [show ((4 : Nat) : Int) = 4 from rfl] at hmk
  have HB := Lib.hid hb
  have HL := Lib.hid hlen
  have HA := Lib.hid hA
  have HI := Lib.hid (show escIs bs = (decide (4 ≤ n) && (bs.take 4 == magicB)) by rw [escIs, hlen])
  clear hb hlen hA
  go_enter Try.func13, Try.ntmps13
  go_wp2_with fail
  refine (clone_any A n c bs w (by omega) HA.out HB.out).mono ?_
  rintro e w1 ⟨v1, rfl, hb1, ho1⟩
  have B1 := Lib.hid hb1
  have O1 := Lib.hid ho1
  clear hb1 ho1
  go_wp2_with fail
  refine (magic_any w1).mono ?_
  rintro e w2 ⟨v2, rfl, hb2, ho2⟩
  have B2 := Lib.hid (below_all B1.out B1.out.size hb2)
  have O2 := Lib.hid (own_belowN O1.out hb2)
  obtain ⟨A2, c2, rfl, hy2, _, _, _, _⟩ := own_slice ho2
  have HP := Lib.hid (prefix_any A A2 n c 4 c2 bs magicB w2 (by omega) hnc (by omega) (by omega) (fun h e => h (HA.out e).1) (HB.out.below B2.out) hy2)
  clear hb2 ho2 hy2
  go_wp2_with fail
  refine HP.out.mono ?_
  rintro e w3 ⟨rfl, rfl⟩
  rw [← HI.out]
  cases hi : escIs bs
  · have HX := Lib.hid hi
    have HO := Lib.hid (show escB bs = bs by simp [escB, hi])
    clear hmk
    go_wp2_with fail
    go_ret2
    exact ⟨_, by rw [HX.out]; rfl, B2.out, by rw [HO.out]; exact O2.out⟩
  · have HX := Lib.hid hi
    have HO := Lib.hid (show escB bs = [0, 0, 0, 0] ++ bs.drop 4 by simp [escB, hi])
    have h4 : 4 ≤ n := by
      rw [HI.out] at hi
      simp only [Bool.and_eq_true, decide_eq_true_eq] at hi
      exact hi.1
    obtain ⟨g1, cap1, cs1, rfl, _, _, _, _, _⟩ := own_form O2.out (by omega)
    have B3 := Lib.hid (B2.out.alloc B2.out.size (.cells (bvl [0, 0, 0, 0]).toArray 5))
    have O3 := Lib.hid (O2.out.alloc (.cells (bvl [0, 0, 0, 0]).toArray 5))
    have L3 := Lib.hid (lit_bytes w2 [0, 0, 0, 0] 4 rfl (by unfold maxLen; omega))
    go_wp2_with (first
      | (refine copy_u8 _ rfl (.tmp 12) (.tmp 13) rfl w.heap.size g1 n cap1 bs rfl O3.out ⟨w2.heap.size, 0, none⟩ 4 4 [0, 0, 0, 0] rfl L3.out h4 ?_
         intro w4 ho4 hg4
         have O4 := Lib.hid ho4
         have B4 := Lib.hid (below_own O3.out B3.out (Nat.le_refl _) hg4)
         clear ho4 hg4)
      | fail)
    go_ret2
    exact ⟨_, by rw [HX.out]; rfl, B4.out, by rw [HO.out]; exact O4.out⟩
end Go.Proofs.Ytifamhmiibhohaa.Log

namespace Go.Proofs.Ytifamhmiibhohaa.Log
open Go.RowKit Go.Proofs.Ytifamhmiibhohaa.Wire Go.Proofs.Ytifamhmiibhohaa.Lay
set_option maxHeartbeats 16000000
set_option maxRecDepth 100000
set_option linter.unusedVariables false
set_option linter.unusedSimpArgs false

theorem ex_esc : escIs [73, 82, 89, 72, 7] = true := by decide +kernel
theorem ex_escB : escB [73, 82, 89, 72, 7] = [0, 0, 0, 0, 7] := by decide +kernel
theorem ex_zero : uE (List.replicate 256 0) = 117 := by decide +kernel
theorem ex_bad : rE 2 1 [(0, false)] 0 0 = 22 := by decide +kernel
theorem ex_head : rE 4 9 [] 0 4 = 0 := by decide +kernel
theorem ex_ok : uOk (rB 4 9 [] 0 4) = true := by decide +kernel
theorem ex_k : uf (rB 4 9 [] 0 4) 4 1 = 4 := by decide +kernel
theorem ex_s : uf (rB 4 9 [] 0 4) 5 4 = 9 := by decide +kernel
theorem ex_st : uSt (rB 4 9 [] 0 4) (uP (rB 4 9 [] 0 4)) = 4 := by decide +kernel
theorem ex_n0 : need 0 0 = 1 := by decide +kernel
theorem ex_n1 : need 48 61 = 52 := by decide +kernel
theorem ex_n2 : need 49 0 = 52 := by decide +kernel
theorem ex_zeroV (v : Value) : uV (List.replicate 256 0) v = #[.int .i64 0, .int .i64 0, .slice none 0 0, .int .u32 0, .int .i64 0] := by
  have h : uOk (List.replicate 256 0) = false := by decide +kernel
  simp only [uV, h]; rfl
theorem ex_headV (v : Value) : uV (rB 4 9 [] 0 4) v = #[.int .i64 4, .int .i64 9, v, .int .u32 0, .int .i64 4] := by
  have h : uSum (rB 4 9 [] 0 4) (uP (rB 4 9 [] 0 4)) = 0 := by decide +kernel
  rw [uV, if_pos ex_ok, ex_k, ex_s, ex_st, h]; rfl
theorem ex_headE : uE (rB 4 9 [] 0 4) = 0 := by rw [uE, if_pos ex_ok]
theorem make_256 (w : World) : (Instr.makeSlice 31 (.int .i64 256) (.int .i64 256)).run Try.prog w = .ok (.slice (some ⟨w.heap.size, 0, none⟩) 256 256) (w.alloc (.cells (bvl (List.replicate 256 0)).toArray 5)) :=
  make_bytes 256 (by omega) w
attribute [local irreducible] rB rE uE uV uf need escB escIs uSt uP
theorem logAwake_true (w : World) : Calls Try.prog 5 #[] w fun e w' => e = .returned (.bool true) ∧ Below w.heap.size w w' := by
  have hmk := make_256
  obtain ⟨Z, hZ⟩ : ∃ Z : List UInt8, List.replicate 256 0 = Z := ⟨_, rfl⟩
  have hZl : Z.length = 256 := by rw [← hZ]; exact List.length_replicate
  have hz1 := ex_zero
  have hz2 := ex_zeroV
  rw [hZ] at hmk hz1 hz2
  have HZ1 := Lib.hid hz1
  have HZ2 := Lib.hid hz2
  have HZL := Lib.hid hZl
  clear hz1 hz2 hZ hZl
  go_enter Try.func5, Try.ntmps5
  go_wp2_with fail
  refine (escape_any (some ⟨w.heap.size, 0, none⟩) 5 5 [73, 82, 89, 72, 7] _ (by omega) (by omega) (by omega) (fun e => by cases e) (lit_bytes w [73, 82, 89, 72, 7] 5 rfl (by unfold maxLen; omega))).mono ?_
  rintro e w1 ⟨v1, rfl, hb1, ho1⟩
  rw [ex_escB] at ho1
  rw [ex_esc]
  have B1 := Lib.hid (below_of_new hb1)
  have O1 := Lib.hid ho1
  clear hb1 ho1
  go_wp2_with fail
  refine (logUnpack_any (some ⟨w1.heap.size, 0, none⟩) 256 256 Z _ (by omega) (by omega) (lit_bytes w1 Z 256 HZL.out (by unfold maxLen; omega))).mono ?_
  rintro e w2 ⟨v2, rfl, hb2, _⟩
  rw [HZ1.out, HZ2.out]
  have B2 := Lib.hid (below_all B1.out B1.out.size (below_of_new hb2))
  have O2 := Lib.hid (own_belowN (O1.out.alloc _) hb2)
  clear hb2 O1 B1 hmk
  have B2a := Lib.hid (B2.out.alloc B2.out.size (.cells #[.int .i64 0, .int .i64 0, .slice none 0 0, .int .u32 0, .int .i64 0] 36))
  have O2a := Lib.hid (O2.out.alloc (.cells #[.int .i64 0, .int .i64 0, .slice none 0 0, .int .u32 0, .int .i64 0] 36))
  go_wp2_with fail
  have L2 := Lib.hid (lit_rowN (w2.alloc (.cells #[.int .i64 0, .int .i64 0, .slice none 0 0, .int .u32 0, .int .i64 0] 36)) 46 (ecells [(0, false)]) 2 (w2.heap.size + 1) rfl (by simp))
  have B2b := Lib.hid (B2a.out.alloc B2a.out.size (.cells (ecells [(0, false)]).toArray 46))
  have O2b := Lib.hid (O2a.out.alloc (.cells (ecells [(0, false)]).toArray 46))
  refine (logPack_any 2 1 (some ⟨w2.heap.size + 1, 0, none⟩) 1 1 0 0 [(0, false)] _ (by omega) (by omega) L2.out).mono ?_
  rintro e w3 ⟨v3, rfl, hb3, _⟩
  rw [ex_bad]
  have B3 := Lib.hid (below_all B2b.out B2b.out.size hb3)
  have O3 := Lib.hid (own_belowN O2b.out hb3)
  clear hb3 O2 O2a O2b B2 B2a B2b L2
  go_wp2_with fail
  refine (logPack_any 4 9 none 0 0 0 4 [] _ (by omega) (by omega) (RowAt.nil_ _ _)).mono ?_
  rintro e w4 ⟨v4, rfl, hb4, ho4⟩
  rw [ex_head]
  have B4 := Lib.hid (below_all B3.out B3.out.size hb4)
  have O4 := Lib.hid (own_belowN O3.out hb4)
  obtain ⟨A4, c4, rfl, hy4, h4l, h4c, _, _⟩ := own_slice ho4
  have Y4 := Lib.hid hy4
  clear hb4 O3 B3 ho4 hy4
  go_wp2_with fail
  refine (logUnpack_any A4 _ c4 (rB 4 9 [] 0 4) _ h4l (by unfold maxLen at h4c; omega) Y4.out).mono ?_
  rintro e w5 ⟨v5, rfl, hb5, ho5⟩
  obtain ⟨A5, c5, rfl, _, _, _, _, _⟩ := own_sliceN ho5
  rw [ex_headV, ex_headE]
  have B5 := Lib.hid (below_all B4.out B4.out.size hb5)
  have O5 := Lib.hid (own_belowN O4.out hb5)
  clear hb5 O4 B4 ho5 Y4
  have B6 := Lib.hid (B5.out.alloc B5.out.size (.cells #[.int .i64 4, .int .i64 9, .slice A5 (uXs (rB 4 9 [] 0 4)).length c5, .int .u32 0, .int .i64 4] 36))
  have O6 := Lib.hid (O5.out.alloc (.cells #[.int .i64 4, .int .i64 9, .slice A5 (uXs (rB 4 9 [] 0 4)).length c5, .int .u32 0, .int .i64 4] 36))
  obtain ⟨w6, hw6⟩ : ∃ w6, w5.alloc (.cells #[.int .i64 4, .int .i64 9, .slice A5 (uXs (rB 4 9 [] 0 4)).length c5, .int .u32 0, .int .i64 4] 36) = w6 := ⟨_, rfl⟩
  have R6 := Lib.hid (hw6 ▸ Blk.new w5 36 #[.int .i64 4, .int .i64 9, .slice A5 (uXs (rB 4 9 [] 0 4)).length c5, .int .u32 0, .int .i64 4])
  have HW6 := Lib.hid hw6
  rw [hw6] at B6 O6
  clear hw6
  have hN0 := need_any 0 0 w6 (by omega) (by omega)
  have hN1 := need_any 48 61 w6 (by omega) (by omega)
  have hN2 := need_any 49 0 w6 (by omega) (by omega)
  rw [ex_n0] at hN0
  rw [ex_n1] at hN1
  rw [ex_n2] at hN2
  have HN0 := Lib.hid hN0
  have HN1 := Lib.hid hN1
  have HN2 := Lib.hid hN2
  clear hN0 hN1 hN2
  go_wp2_with fail
  rw [HW6.out]
  refine HN0.out.mono ?_
  rintro e w' ⟨rfl, rfl⟩
  go_wp2_with fail
  refine HN1.out.mono ?_
  rintro e w' ⟨rfl, rfl⟩
  go_wp2_with fail
  refine HN2.out.mono ?_
  rintro e w' ⟨rfl, rfl⟩
  have R7 := R6.out.alloc (.cells (bvl [0, 0, 0, 0, 7]).toArray 5)
  have f0 := R7.cell 0
  have f1 := R7.cell 1
  have f4 := R7.cell 4
  have HL := Lib.hid (lit_bytes w6 [0, 0, 0, 0, 7] 5 rfl (by unfold maxLen; omega))
  have B7 := Lib.hid (B6.out.alloc B6.out.size (.cells (bvl [0, 0, 0, 0, 7]).toArray 5))
  have O7 := O6.out.alloc (.cells (bvl [0, 0, 0, 0, 7]).toArray 5)
  obtain ⟨A7, c7, rfl, hy7, _, _, _, _⟩ := own_slice O7
  have Y7 := Lib.hid hy7
  clear O7 hy7 R7
  go_wp2_with fail
  refine (same_any A7 _ 5 5 c7 5 [0, 0, 0, 0, 7] [0, 0, 0, 0, 7] _ (by omega) Y7.out HL.out).mono ?_
  rintro e w8 ⟨rfl, q, rfl⟩
  rw [show (([0, 0, 0, 0, 7] : List UInt8) == [0, 0, 0, 0, 7]) = true from by decide]
  have g0 : ((w6.alloc (.cells (bvl [0, 0, 0, 0, 7]).toArray 5)).drewN q).cell? ⟨w5.heap.size, 0, none⟩ = _ := f0
  have g1 : ((w6.alloc (.cells (bvl [0, 0, 0, 0, 7]).toArray 5)).drewN q).cell? ⟨w5.heap.size, 1, none⟩ = _ := f1
  have g4 : ((w6.alloc (.cells (bvl [0, 0, 0, 0, 7]).toArray 5)).drewN q).cell? ⟨w5.heap.size, 4, none⟩ = _ := f4
  clear f0 f1 f4
  go_wp2_with fail
  go_ret
  exact ⟨rfl, below_drewN B7.out _⟩
end Go.Proofs.Ytifamhmiibhohaa.Log

namespace Go.Proofs.Ytifamhmiibhohaa.Log
open Go.RowKit Go.Proofs.Ytifamhmiibhohaa.Wire Go.Proofs.Ytifamhmiibhohaa.Lay
set_option maxHeartbeats 8000000
set_option maxRecDepth 100000
set_option linter.unusedVariables false
set_option linter.unusedSimpArgs false

theorem infoEntR : (Try.prog.info? 59).map (fun i => (i.zero, i.size, i.bytes)) = some (some (.agg #[.int .i64 0, .bool false]), 2, 16) := by kernel_rfl
theorem rec_end {w wz : World} {g b n : Nat} {v : Value} {xs : List Value} {T E : TypeId} {cs : Array Value} (hg : w.heap.size ≤ g) (res : Blk wz g T cs) (bel : Below w.heap.size w wz) (own : wz.ownsRow b E 2 v n xs) (ht : E ≠ T) (c0 c1 c2 c3 c4 : Value) :
    Below w.heap.size w (((((wz.setCell ⟨g, 0, none⟩ c0).setCell ⟨g, 1, none⟩ c1).setCell ⟨g, 2, none⟩ c2).setCell ⟨g, 3, none⟩ c3).setCell ⟨g, 4, none⟩ c4) ∧
    (((((wz.setCell ⟨g, 0, none⟩ c0).setCell ⟨g, 1, none⟩ c1).setCell ⟨g, 2, none⟩ c2).setCell ⟨g, 3, none⟩ c3).setCell ⟨g, 4, none⟩ c4).ownsRow b E 2 v n xs := by
  have r1 := res.set_ 0 c0
  have r2 := r1.set_ 1 c1
  have r3 := r2.set_ 2 c2
  have r4 := r3.set_ 3 c3
  refine ⟨((((bel.setCell (p := ⟨g, 0, none⟩) hg c0).setCell (p := ⟨g, 1, none⟩) hg c1).setCell (p := ⟨g, 2, none⟩) hg c2).setCell (p := ⟨g, 3, none⟩) hg c3).setCell (p := ⟨g, 4, none⟩) hg c4, ?_⟩
  exact own_set_far (own_set_far (own_set_far (own_set_far (own_set_far own res ht c0) r1 ht c1) r2 ht c2) r3 ht c3) r4 ht c4
/-- The record that came in, the result's place, the record that grows. -/
structure MAt (w : World) (TI TO : TypeId) (ri ro : Array Value) (wr : World) : Prop where
  inn : Blk wr w.heap.size TI ri
  res : Blk wr (w.heap.size + 1) TO #[.int .i64 0, .int .i64 0, .slice none 0 0, .int .u32 0, .int .i64 0]
  out : Blk wr (w.heap.size + 2) TO ro
  bel : Below w.heap.size w wr
theorem MAt.alloc {w wr : World} {TI TO : TypeId} {ri ro : Array Value} (h : MAt w TI TO ri ro wr) (o : Obj) : MAt w TI TO ri ro (wr.alloc o) :=
  ⟨h.inn.alloc o, h.res.alloc o, h.out.alloc o, h.bel.alloc h.bel.size o⟩
theorem MAt.drew {w wr : World} {TI TO : TypeId} {ri ro : Array Value} (h : MAt w TI TO ri ro wr) : MAt w TI TO ri ro wr.drew :=
  ⟨h.inn.drew, h.res.drew, h.out.drew, h.bel.drew⟩
theorem MAt.row {w wr w' : World} {TI TO E : TypeId} {base s n : Nat} {ri ro : Array Value} {v : Value} {xs : List Value} (h : MAt w TI TO ri ro wr) (hr : wr.ownsRow base E s v n xs) (h1 : E ≠ TI) (h2 : E ≠ TO) (hbase : w.heap.size ≤ base) (hg : wr.grownBy w' v.ownBlock) : MAt w TI TO ri ro w' :=
  ⟨h.inn.grown hg (own_blk_ne hr h.inn h1), h.res.grown hg (own_blk_ne hr h.res h2), h.out.grown hg (own_blk_ne hr h.out h2), below_row h.bel hg (fun g e => Nat.le_trans hbase (hr.lt g e).1) h.bel.size⟩
theorem MAt.set_ {w wr : World} {TI TO : TypeId} {ri ro : Array Value} (h : MAt w TI TO ri ro wr) (i : Nat) (u : Value) : MAt w TI TO ri (ro.setIfInBounds i u) (wr.setCell ⟨w.heap.size + 2, i, none⟩ u) :=
  ⟨h.inn.far (p := ⟨w.heap.size + 2, i, none⟩) (by simp) u, h.res.far (p := ⟨w.heap.size + 2, i, none⟩) (by simp) u, h.out.set_ i u, h.bel.setCell (p := ⟨w.heap.size + 2, i, none⟩) (by simp only; omega) u⟩
theorem MAt.start {w W : World} {TI TO : TypeId} {ri ro : Array Value} (h : ((w.alloc (.cells ri TI)).alloc (.cells #[.int .i64 0, .int .i64 0, .slice none 0 0, .int .u32 0, .int .i64 0] TO)).alloc (.cells ro TO) = W) : MAt w TI TO ri ro W := by
  subst h
  obtain ⟨b0, b1, hbel, hsz⟩ := boxes2 w _ _ _ _ _ rfl
  exact ⟨b0.alloc _, b1.alloc _, by rw [show w.heap.size + 2 = _ from hsz.symm]; exact Blk.new _ _ _, hbel.alloc (by omega) _⟩


end Go.Proofs.Ytifamhmiibhohaa.Log

namespace Go.Proofs.Ytifamhmiibhohaa.Log
open Go.RowKit Go.Proofs.Ytifamhmiibhohaa.Wire Go.Proofs.Ytifamhmiibhohaa.Lay
set_option linter.unusedVariables false
set_option linter.unusedSimpArgs false

theorem uf_app {bs t : List UInt8} {l : List Nat} {ws : List Int} (hbs : bs = pre l ws l.length ++ t) (hl : l.length = ws.length) (hw : wok ws = true) (hz : ∀ p ∈ l.zip ws, p.1 < 256 ^ p.2.toNat)
    (l1 : List Nat) (x : Nat) (l2 : List Nat) (w1 : List Int) (z : Int) (w2 : List Int) (e1 : l = l1 ++ x :: l2) (e2 : ws = w1 ++ z :: w2) (h1 : l1.length = w1.length) {p : Int} (hp : w1.sum = p) : uf bs p z = (x : Int) := by
  refine uf_pre hbs hl hw hz (k := l1.length) ?_ ?_ ?_
  · rw [e1]; simp
  · rw [e2, h1]; simp
  · rw [e2, h1, List.take_left']; exact hp; rfl
theorem take_at {es : List Ent} {j : Nat} {e : Ent} (he : es[j]? = some e) : es = es.take j ++ e :: es.drop (j + 1) := by
  obtain ⟨hlt, h⟩ := List.getElem?_eq_some_iff.1 he
  rw [← h, List.getElem_cons_drop, List.take_append_drop]
theorem rec_at {k s : Int} {es : List Ent} {sum : Nat} {st : Int} {bs t : List UInt8} (hg : RGood k s es sum st) (hs : sum < 4294967296) (hbs : bs = pre (rL k s es sum st) (rW k es.length) (rL k s es sum st).length ++ t) {j : Nat} {e : Ent} (he : es[j]? = some e) :
    uf bs (11 + stride k * j) 4 = e.1 ∧ (k = 1 → uf bs (11 + stride k * j + 4) 1 = (if e.2 then 1 else 0 : Nat)) := by
  have hjl := (List.getElem?_eq_some_iff.1 he).1
  obtain ⟨e0, _, _⟩ := hg.ents e (List.mem_of_getElem? he)
  have h1 : rL k s es sum st = (hL k s es.length ++ esL k (es.take j)) ++ (eL k e ++ (esL k (es.drop (j + 1)) ++ tL k sum st)) := by
    have e3 : esL k es = esL k (es.take j) ++ (eL k e ++ esL k (es.drop (j + 1))) := by
      conv => lhs; rw [take_at he]
      rw [esL_append, show e :: es.drop (j + 1) = [e] ++ es.drop (j + 1) from rfl, esL_append, esL_one]
    rw [rL, e3]
    simp only [List.append_assoc]
  have h2 : rW k es.length = (hW ++ esW k j) ++ (eW k ++ (esW k (es.length - (j + 1)) ++ tW k)) := by
    rw [rW]
    conv => lhs; rw [show es.length = j + (1 + (es.length - (j + 1))) by omega]
    rw [esW_add, esW_add, esW_one]
    simp only [List.append_assoc]
  have hlen : (hL k s es.length ++ esL k (es.take j)).length = (hW ++ esW k j).length := by
    rw [List.length_append, List.length_append, esL_length, List.length_take, Nat.min_eq_left (by omega)]; rfl
  have hsum : (hW ++ esW k j).sum = 11 + stride k * j := by rw [List.sum_append, esW_sum]; rfl
  have ll : (rL k s es sum st).length = (rW k es.length).length := rL_length _ _ _ _ _
  refine ⟨?_, fun hk => ?_⟩
  · have := uf_app hbs ll (rW_wok k es.length) (hg.zip hs) (hL k s es.length ++ esL k (es.take j)) e.1.toNat ((if k = 1 then [if e.2 then 1 else 0] else []) ++ (esL k (es.drop (j + 1)) ++ tL k sum st)) (hW ++ esW k j) 4 ((if k = 1 then [1] else []) ++ (esW k (es.length - (j + 1)) ++ tW k)) (by rw [h1]; rfl) (by rw [h2]; rfl) hlen hsum
    rw [this, Int.toNat_of_nonneg e0]
  · subst hk
    exact uf_app hbs ll (rW_wok 1 es.length) (hg.zip hs) (hL 1 s es.length ++ esL 1 (es.take j) ++ [e.1.toNat]) (if e.2 then 1 else 0) (esL 1 (es.drop (j + 1)) ++ tL 1 sum st) (hW ++ esW 1 j ++ [4]) 1 (esW 1 (es.length - (j + 1)) ++ tW 1)
      (by rw [h1]; simp [eL]) (by rw [h2]; simp [eW]) (by have := hlen; simp only [List.length_append, List.length_singleton] at this ⊢; omega) (by rw [List.sum_append, hsum]; rfl)
theorem rec_back {k s : Int} {es : List Ent} {sum : Nat} {st : Int} (hm : rMay k s es sum st = true) (hs : sum < 4294967296) :
    uOk (rB k s es sum st) = true ∧ uf (rB k s es sum st) 4 1 = k ∧ uf (rB k s es sum st) 5 4 = s ∧ uEs (rB k s es sum st) = es ∧ uSum (rB k s es sum st) (uP (rB k s es sum st)) = sum ∧ uSt (rB k s es sum st) (uP (rB k s es sum st)) = st := by
  have hg := rGood hm
  obtain ⟨t, _, hbs, _, _⟩ := hg.packed hs
  rw [← show rB k s es sum st = _ from if_pos hm] at hbs
  generalize hB : rB k s es sum st = bs at *
  have ll : (rL k s es sum st).length = (rW k es.length).length := rL_length _ _ _ _ _
  have hw := rW_wok k es.length
  have hz := hg.zip hs
  obtain ⟨s1, s2⟩ := hg.seq
  have hk0 : 0 ≤ k := by rcases hg.kind with ⟨rfl, _⟩ | ⟨rfl, _⟩ | ⟨rfl, _⟩ | ⟨rfl, _⟩ <;> omega
  have hn60 : es.length ≤ 60 := by
    rcases hg.kind with ⟨_, h1, h2⟩ | ⟨_, h1, h2⟩ | ⟨_, h1⟩ | ⟨_, h1⟩
    · omega
    · omega
    · rw [h1]; simp
    · rw [h1]; simp
  have u1 : uf bs 4 1 = k := (uf_app hbs ll hw hz [1213813321] k.toNat _ [4] 1 _ rfl rfl rfl rfl).trans (Int.toNat_of_nonneg hk0)
  have u2 : uf bs 5 4 = s := (uf_app hbs ll hw hz [1213813321, k.toNat] s.toNat _ [4, 1] 4 _ rfl rfl rfl rfl).trans (Int.toNat_of_nonneg (by omega))
  have u3 : uf bs 9 2 = (es.length : Int) := uf_app hbs ll hw hz [1213813321, k.toNat, s.toNat] es.length _ [4, 1, 4] 2 _ rfl rfl rfl rfl
  have hN : uN bs = es.length := by rw [uN, u3]; omega
  have hE : uEs bs = es := by
    apply List.ext_getElem?
    intro j
    by_cases hj : j < es.length
    · obtain ⟨e, he⟩ : ∃ e, es[j]? = some e := ⟨_, List.getElem?_eq_getElem hj⟩
      obtain ⟨r1, r2⟩ := rec_at hg hs hbs he
      have : (uEs bs)[j]? = some (uEnt bs j) := by simp [uEs, hN, hj]
      rw [this, he, uEnt, u1, r1]
      congr 1
      obtain ⟨b, x⟩ := e
      congr 1
      by_cases h1 : k = 1
      · rw [r2 h1]; subst h1; cases x <;> rfl
      · have : x = false := by
          cases x
          · rfl
          · exact absurd ((hg.ents _ (List.mem_of_getElem? he)).2.2 rfl) h1
        rw [this, beq_eq_false_iff_ne.2 h1]; rfl
    · rw [List.getElem?_eq_none (by rw [uEs_length, hN]; omega), List.getElem?_eq_none (by omega)]
  have hP : uP bs = 11 + stride k * es.length := by rw [uP, u1, hN]
  have hwl : (hL k s es.length ++ esL k es).length = (hW ++ esW k es.length).length := by
    rw [List.length_append, List.length_append, esL_length]; rfl
  have hws : (hW ++ esW k es.length).sum = 11 + stride k * es.length := by rw [List.sum_append, esW_sum]; rfl
  have hS : uSum bs (uP bs) = sum := by
    rw [uSum, u1, hP]
    by_cases h2 : k = 2
    · subst h2
      rw [if_pos rfl, uf_app hbs ll hw hz (hL 2 s es.length ++ esL 2 es) sum [] (hW ++ esW 2 es.length) 4 [] (by simp [rL, tL]) (by simp [rW, tW]) hwl hws]; rfl
    · rw [if_neg h2]; rcases hg.sum0 with h | h
      · exact h.symm
      · exact absurd h h2
  have hT : uSt bs (uP bs) = st := by
    rw [uSt, u1, hP]
    by_cases h4 : k = 4
    · subst h4
      rw [if_pos rfl, uf_app hbs ll hw hz (hL 4 s es.length ++ esL 4 es) st.toNat [] (hW ++ esW 4 es.length) 4 [] (by simp [rL, tL]) (by simp [rW, tW]) hwl hws]
      exact Int.toNat_of_nonneg (by have := hg.start; omega)
    · rw [if_neg h4]; rcases hg.start with h | h
      · exact h.symm
      · exact absurd h.1 h4
  refine ⟨?_, u1, u2, hE, hS, hT⟩
  rw [uOk, uMay, uRB, u1, u2, hE, hS, hT, hm, hB]; simp
end Go.Proofs.Ytifamhmiibhohaa.Log

namespace Go.Proofs.Ytifamhmiibhohaa.Log
open Go.RowKit Go.Proofs.Ytifamhmiibhohaa.Wire Go.Proofs.Ytifamhmiibhohaa.Lay
set_option linter.unusedVariables false
set_option linter.unusedSimpArgs false

def B32 (l : List UInt8) : BitVec 32 := BitVec.ofNat 32 (num l)
theorem B32_cons (c : UInt8) (l : List UInt8) : B32 (c :: l) = by32 c ^^^ (B32 l <<< 8) := by
  apply BitVec.eq_of_getLsbD_eq
  intro i hi
  rw [BitVec.getLsbD_xor, BitVec.getLsbD_shiftLeft]
  have hc : c.toNat < 2 ^ 8 := c.toNat_lt
  have e : num (c :: l) = 2 ^ 8 * num l + c.toNat := by simp only [num]; omega
  rw [B32, e, BitVec.getLsbD_ofNat, Nat.testBit_two_pow_mul_add _ hc]
  by_cases h8 : i < 8
  · rw [if_pos h8, by32, BitVec.getLsbD_ofNat]
    simp only [hi, h8, decide_true, Bool.true_and, Bool.not_true, Bool.and_false, Bool.false_and, Bool.xor_false]
  · rw [by32_high c i (by omega)]
    simp [h8, hi, B32, BitVec.getLsbD_ofNat]
    intro _; omega
theorem B32_set : ∀ (l : List UInt8) (q : Nat) (x y : UInt8), l[q]? = some x → B32 (l.set q y) = B32 l ^^^ ((by32 x ^^^ by32 y) <<< (8 * q))
  | [], q, x, y, h => by simp at h
  | c :: l, 0, x, y, h => by
    simp at h; subst h
    rw [List.set_cons_zero, B32_cons, B32_cons, Nat.mul_zero, BitVec.shiftLeft_zero]
    rw [BitVec.xor_comm (by32 c) (B32 l <<< 8), BitVec.xor_assoc, ← BitVec.xor_assoc (by32 c), BitVec.xor_self, BitVec.zero_xor, BitVec.xor_comm]
  | c :: l, q + 1, x, y, h => by
    have ih := B32_set l q x y (by simpa using h)
    rw [List.set_cons_succ, B32_cons, B32_cons, ih, BitVec.shiftLeft_xor_distrib, ← BitVec.shiftLeft_add, BitVec.xor_assoc]
    rw [show 8 * q + 8 = 8 * (q + 1) by omega]
theorem stpN_add (a : Nat) : ∀ (b : Nat) (d : BitVec 32), stpN b (stpN a d) = stpN (a + b) d
  | 0, d => rfl
  | b + 1, d => by rw [stpN, stpN_add a b d]; rfl
theorem upd_xor (c d : BitVec 32) (x : UInt8) : upd (c ^^^ d) x = upd c x ^^^ stpN 8 d := by
  unfold upd
  rw [← stpN_xor]
  congr 1
  rw [BitVec.xor_assoc, BitVec.xor_comm d, ← BitVec.xor_assoc]
theorem crcF_xor : ∀ (l : List UInt8) (c d : BitVec 32), crcF (c ^^^ d) l = crcF c l ^^^ stpN (8 * l.length) d
  | [], c, d => rfl
  | x :: l, c, d => by
    show crcF (upd (c ^^^ d) x) l = crcF (upd c x) l ^^^ _
    rw [upd_xor, crcF_xor l, stpN_add, List.length_cons, show 8 + 8 * l.length = 8 * (l.length + 1) by omega]
theorem not_xor (s d : BitVec 32) : ~~~ (s ^^^ d) = (~~~ s) ^^^ d := by
  apply BitVec.eq_of_getLsbD_eq
  intro i hi
  simp [hi]
theorem seed_told : ∀ (q : Fin 4) (d : Fin 256), d.val ≠ 0 → stpN (8 * (5 + q.val)) (BitVec.ofNat 32 d.val <<< (8 * q.val)) ≠ BitVec.ofNat 32 d.val := by decide +kernel
theorem by32_diff (x y : UInt8) (h : x ≠ y) : ∃ d : Fin 256, d.val ≠ 0 ∧ by32 x ^^^ by32 y = BitVec.ofNat 32 d.val := by
  have h1 : (by32 x).toNat < 2 ^ 8 := by rw [by32, BitVec.toNat_ofNat]; have := x.toNat_lt; omega
  have h2 : (by32 y).toNat < 2 ^ 8 := by rw [by32, BitVec.toNat_ofNat]; have := y.toNat_lt; omega
  have h3 : (by32 x ^^^ by32 y).toNat < 2 ^ 8 := by rw [BitVec.toNat_xor]; exact Nat.xor_lt_two_pow h1 h2
  refine ⟨⟨(by32 x ^^^ by32 y).toNat, h3⟩, fun e => h ?_, by simp⟩
  have h4 : by32 x ^^^ by32 y = 0#32 := BitVec.eq_of_toNat_eq (by simpa using e)
  apply by32_inj
  have h5 : by32 x ^^^ by32 y ^^^ by32 y = 0#32 ^^^ by32 y := by rw [h4]
  rwa [BitVec.xor_assoc, BitVec.xor_self, BitVec.xor_zero, BitVec.zero_xor] at h5
/-- A byte of the seed, turned there and in the seed, is told. -/
theorem crc_seed_turned (s : BitVec 32) (a : List UInt8) (x y : UInt8) (b : List UInt8) (q : Nat) (hq : q < 4) (ha : a.length = 5 + q) (hxy : x ≠ y)
    (h : crc s (a ++ x :: b) = crc (s ^^^ ((by32 x ^^^ by32 y) <<< (8 * q))) (a ++ y :: b)) : False := by
  obtain ⟨d, hd, he⟩ := by32_diff x y hxy
  unfold crc at h
  have h1 := BitVec.not_inj.mp h
  rw [crcF_append, crcF_append, not_xor, crcF_xor, ha] at h1
  have h2 : upd (crcF (~~~ s) a) x = upd (crcF (~~~ s) a ^^^ stpN (8 * (5 + q)) ((by32 x ^^^ by32 y) <<< (8 * q))) y := crcF_inj b h1
  have h3 := stpN_inj 8 h2
  rw [BitVec.xor_assoc] at h3
  have h4 := xor_right h3
  have h5 : stpN (8 * (5 + q)) ((by32 x ^^^ by32 y) <<< (8 * q)) = by32 x ^^^ by32 y := by
    obtain ⟨D, hD⟩ : ∃ D, stpN (8 * (5 + q)) ((by32 x ^^^ by32 y) <<< (8 * q)) = D := ⟨_, rfl⟩
    rw [hD] at h4 ⊢
    rw [h4, BitVec.xor_assoc, BitVec.xor_self, BitVec.xor_zero]
  rw [he] at h5
  exact seed_told ⟨q, hq⟩ d hd h5

/-- A record that is one is sealed, and 256 bytes long. -/
theorem uOk_sealed {bs : List UInt8} (h : uOk bs = true) : bs.length = 256 ∧ sealedB (rS (uf bs 5 4)) bs = true := by
  simp only [uOk, Bool.and_eq_true, beq_iff_eq] at h
  obtain ⟨hm, hb⟩ := h
  have hg := rGood (show rMay _ _ _ _ _ = true from hm)
  obtain ⟨t, _, _, h2, h3⟩ := hg.packed (uSum_lt _ _)
  have e : uRB bs = sealB (rS (uf bs 5 4)) (packB (rL (uf bs 4 1) (uf bs 5 4) (uEs bs) (uSum bs (uP bs)) (uSt bs (uP bs))) (rW (uf bs 4 1) (uEs bs).length) 256) := if_pos hm
  rw [← e, hb] at h2 h3
  exact ⟨h3, h2⟩
theorem uf_num {bs : List UInt8} (h : bs.length = 256) : uf bs 5 4 = (num ((bs.drop 5).take 4) : Nat) := by
  have hf : fits bs.length 5 4 = true := fits_mk (by omega) (by omega) (by omega) (by omega)
  show ((getX bs 5 4 : Nat) : Int) = _
  rw [getX, if_pos hf]; rfl
theorem rS_num (l : List UInt8) : rS (num l : Nat) = B32 l := by rw [rS, BitVec.ofInt_natCast]; rfl
theorem rec_turned {bs : List UInt8} {j : Nat} {x y : UInt8} (h : uOk bs = true) (hj : bs[j]? = some x) (hxy : x ≠ y) : uOk (bs.set j y) = false := by
  cases hc : uOk (bs.set j y)
  · rfl
  · exfalso
    obtain ⟨hl, hs⟩ := uOk_sealed h
    obtain ⟨hl', hs'⟩ := uOk_sealed hc
    have hjl := (List.getElem?_eq_some_iff.1 hj).1
    by_cases hin : 5 ≤ j ∧ j < 9
    · obtain ⟨q, rfl⟩ : ∃ q, j = 5 + q := ⟨j - 5, by omega⟩
      have hq : q < 4 := by omega
      rw [uf_num hl, rS_num] at hs
      rw [uf_num hl', rS_num] at hs'
      have e4 : ((bs.set (5 + q) y).drop 5).take 4 = ((bs.drop 5).take 4).set q y := by
        rw [List.drop_set, if_neg (by omega), show 5 + q - 5 = q by omega, List.take_set]
      have hx4 : ((bs.drop 5).take 4)[q]? = some x := by rw [List.getElem?_take, if_pos hq, List.getElem?_drop]; exact hj
      rw [e4, B32_set _ q x y hx4] at hs'
      generalize B32 ((bs.drop 5).take 4) = seed at *
      unfold sealedB at hs hs'
      rw [List.length_set] at hs'
      simp only [Bool.and_eq_true, decide_eq_true_eq, beq_iff_eq] at hs hs'
      obtain ⟨_, hs⟩ := hs
      obtain ⟨_, hs'⟩ := hs'
      rw [List.drop_set_of_lt (by omega), List.take_set] at hs'
      have hx' : (bs.take (bs.length - 4))[5 + q]? = some x := by rw [List.getElem?_take, if_pos (by omega)]; exact hj
      obtain ⟨e1, e2⟩ := split_at hx' y
      have heq : crc seed (bs.take (bs.length - 4)) = crc (seed ^^^ ((by32 x ^^^ by32 y) <<< (8 * q))) ((bs.take (bs.length - 4)).set (5 + q) y) := BitVec.eq_of_toNat_eq (by omega)
      rw [e2] at heq
      conv at heq => lhs; rw [e1]
      exact crc_seed_turned seed _ x y _ q hq (by rw [List.length_take, List.length_take]; omega) hxy heq
    · have e5 : uf (bs.set j y) 5 4 = uf bs 5 4 := by
        rw [uf_num hl, uf_num hl']
        congr 2
        rw [List.drop_set]
        split
        · rfl
        · rw [List.take_set_of_le (by omega)]
      rw [e5] at hs'
      rw [turned_unsealed _ bs j x y hs hj hxy] at hs'
      cases hs'
end Go.Proofs.Ytifamhmiibhohaa.Log

namespace Go.Proofs.Ytifamhmiibhohaa.Log
open Go.RowKit Go.Proofs.Ytifamhmiibhohaa.Wire Go.Proofs.Ytifamhmiibhohaa.Lay
set_option maxHeartbeats 8000000
set_option maxRecDepth 100000
set_option linter.unusedVariables false
set_option linter.unusedSimpArgs false

theorem mayR_kind (k s : Int) (A : Option Addr) (n c sum : Nat) (st : Int) (w : World) (h1 : (k == 1) = false) (h3 : (k == 3) = false) (h2 : (k == 2) = false) (h4 : (k == 4) = false) :
    Calls Try.prog 37 #[.agg #[.int .i64 k, .int .i64 s, .slice A n c, .int .u32 (sum : Int), .int .i64 st]] w fun e w' => e = .returned (.bool false) ∧ Below w.heap.size w w' := by
  have B0 := Lib.hid ((Below.refl w.heap.size w).alloc (Nat.le_refl _) (.cells #[.int .i64 k, .int .i64 s, .slice A n c, .int .u32 (sum : Int), .int .i64 st] 58))
  go_enter Try.func37, Try.ntmps37
  go_wp2
  go_ret
  exact ⟨rfl, B0.out⟩
theorem mayR_head (k m s : Int) (A : Option Addr) (n c sum : Nat) (st : Int) (w : World) (hk : k = 1 ∧ m = 48 ∨ k = 3 ∧ m = 60 ∨ k = 2 ∧ m = 0 ∨ k = 4 ∧ m = 0)
    (h : s < 1 ∨ ¬ s < 1 ∧ (2147483647 < s ∨ ¬ 2147483647 < s ∧ (m < (n : Int) ∨ ¬ m < (n : Int) ∧ (0 < m ∧ n = 0)))) :
    Calls Try.prog 37 #[.agg #[.int .i64 k, .int .i64 s, .slice A n c, .int .u32 (sum : Int), .int .i64 st]] w fun e w' => e = .returned (.bool false) ∧ Below w.heap.size w w' := by
  have B0 := Lib.hid ((Below.refl w.heap.size w).alloc (Nat.le_refl _) (.cells #[.int .i64 k, .int .i64 s, .slice A n c, .int .u32 (sum : Int), .int .i64 st] 58))
  rcases h with h | ⟨h, h' | ⟨h', h'' | ⟨h'', hm, rfl⟩⟩⟩
  all_goals
    rcases hk with ⟨rfl, rfl⟩ | ⟨rfl, rfl⟩ | ⟨rfl, rfl⟩ | ⟨rfl, rfl⟩
  all_goals first
    | exact absurd hm (by decide)
    | (go_enter Try.func37, Try.ntmps37
       go_wp2
       go_ret
       exact ⟨rfl, B0.out⟩)
theorem mayR_in (k m s : Int) (A : Option Addr) (n c sum : Nat) (st : Int) (es : List Ent) (w : World) (hk : k = 1 ∧ m = 48 ∨ k = 3 ∧ m = 60 ∨ k = 2 ∧ m = 0 ∨ k = 4 ∧ m = 0)
    (hn : n ≤ 9223372036854775807) (hr : RowAt w A (n * 2) (ecells es)) (h1 : ¬ s < 1) (h2 : ¬ 2147483647 < s) (h3 : ¬ m < (n : Int)) (h4 : ¬ (0 < m ∧ n = 0)) :
    Calls Try.prog 37 #[.agg #[.int .i64 k, .int .i64 s, .slice A n c, .int .u32 (sum : Int), .int .i64 st]] w fun e w' => e = .returned (.bool (!(es.any (eWrong k)) && tail? k sum st)) ∧ Below w.heap.size w w' := by
  have hlen : es.length = n := by have := hr.len; rw [ecells_length] at this; omega
  obtain ⟨W, hW⟩ : ∃ W, w.alloc (.cells #[.int .i64 k, .int .i64 s, .slice A n c, .int .u32 (sum : Int), .int .i64 st] 58) = W := ⟨_, rfl⟩
  obtain ⟨b0, hbel, hsz⟩ := boxed w _ _ W hW
  have HR := Lib.hid (hr.below hbel)
  have HL := Lib.hid hlen
  have HW := Lib.hid hW
  have HB0 := Lib.hid b0
  have HBE := Lib.hid hbel
  have fin : ∀ (b d : Bool), b = d → Ending.returned (.bool b) = .returned (.bool d) := fun b d h => by rw [h]
  have HF := Lib.hid fin
  have HS := Lib.hid (show ((sum : Int) == 0) = (sum == 0) by cases sum with | zero => rfl | succ x => simp; omega)
  have HT := Lib.hid (show tail? k sum st = (!(!(sum == 0) && !(k == 2)) && (st == 0 || (k == 4 && (decide (0 < st) && decide (st < 512))))) from rfl)
  have HE := Lib.hid (show ∀ e : Ent, eWrong k e = (decide (e.1 < 0) || (decide (4096 ≤ e.1) || (e.2 && !(k == 1)))) from fun _ => rfl)
  have f0 := b0.cell 0
  have f1 := b0.cell 1
  have f2 := b0.cell 2
  have f3 := b0.cell 3
  have f4 := b0.cell 4
  clear hr hlen hW b0 hbel fin
  have hn0 : (0 < m → ((n : Int) == 0) = false) := fun h => by simp; omega
  have kk : ∀ (P : Prop), (k = 1 ∧ m = 48 → P) → (k = 3 ∧ m = 60 → P) → (k = 2 ∧ m = 0 → P) → (k = 4 ∧ m = 0 → P) → P := fun P a b c d => by rcases hk with h | h | h | h; exact a h; exact b h; exact c h; exact d h
  rcases hk with ⟨rfl, rfl⟩ | ⟨rfl, rfl⟩ | ⟨rfl, rfl⟩ | ⟨rfl, rfl⟩
  · have hn1 := hn0 (by decide)
    clear hn0 kk
    go_enter Try.func37, Try.ntmps37
    go_wp2_with fail
    rw [HW.out]
    go_wp2_with fail
    clear hn1 f0 f1 f2 f3 f4
    go_loopw [4] (fun i wr => ∃ j : Nat, j ≤ n ∧ i = .int .i64 j ∧ (es.take j).any (eWrong 1) = false ∧ wr = W) (fun i _ => n - (intOf i).toNat)
    case atStart => exact ⟨0, by omega, rfl, rfl, rfl⟩
    case round =>
      obtain ⟨j, hj, rfl, hany, rfl⟩ := hrel
      have X1 := Lib.hid hany
      have f0 := HB0.out.cell 0
      have f2 := HB0.out.cell 2
      clear hany
      by_cases hlt : j < n
      · obtain ⟨e, he⟩ : ∃ e, es[j]? = some e := ⟨_, List.getElem?_eq_getElem (by have := HL.out; omega)⟩
        obtain ⟨a, rfl, hab, hpb, hea⟩ := ent_cells HR.out he
        obtain ⟨b, x⟩ := e
        obtain ⟨g0, g1⟩ := hea
        simp only at g0 g1
        have hj0 : (0 : Int) ≤ (j : Int) := by omega
        have hjn : (j : Int) < (n : Int) := by omega
        have HX := Lib.hid he
        have bad : eWrong 1 (b, x) = true → Ending.returned (.bool false) = .returned (.bool (!(es.any (eWrong 1)) && tail? 1 sum st)) := fun h => HF.out _ _ (by rw [any_at HX.out h]; rfl)
        have BAD := Lib.hid bad
        clear he bad
        by_cases hb1 : b < 0
        · have HV := Lib.hid (BAD.out (by rw [HE.out]; simp [hb1]))
          go_wp2
          go_ret
          exact ⟨HV.out, HBE.out⟩
        by_cases hb2 : 4096 ≤ b
        · have HV := Lib.hid (BAD.out (by rw [HE.out]; simp [hb2]))
          go_wp2
          go_ret
          exact ⟨HV.out, HBE.out⟩
        have HV := Lib.hid (any_take_succ HX.out X1.out (show eWrong 1 (b, x) = false by rw [HE.out]; simp [hb1, hb2]))
        go_wp2
        go_roundw
        case rel => exact ⟨j + 1, by omega, by go_num, HV.out, by first | trivial | rfl⟩
        case measure => simp [intOf]; omega
      · obtain rfl : j = n := by omega
        have hfull := X1.out
        rw [List.take_of_length_le (by rw [HL.out]; exact Nat.le_refl _)] at hfull
        have f3 := HB0.out.cell 3
        have f4 := HB0.out.cell 4
        have fin2 : ∀ b : Bool, (!(!(sum == 0) && !((1 : Int) == 2)) && (st == 0 || ((1 : Int) == 4 && (decide (0 < st) && decide (st < 512))))) = b → Ending.returned (.bool b) = .returned (.bool (!(es.any (eWrong 1)) && tail? 1 sum st)) := fun b h => HF.out _ _ (by rw [hfull, HT.out, h]; rfl)
        have FIN := Lib.hid fin2
        clear hfull fin2 X1
        have hss : (sum == 0) = true ∨ (sum == 0) = false := by cases sum == 0 <;> simp
        have htt : st = 0 ∨ (st == 0) = false ∧ (st < 0 ∨ ¬ st < 0 ∧ (st < 512 ∨ ¬ st < 512)) := by
          by_cases h : st = 0
          · exact .inl h
          · exact .inr ⟨by simpa using h, by omega⟩
        rcases hss with hs | hs <;> rcases htt with rfl | ⟨ht0, ht1 | ⟨ht1, ht2 | ht2⟩⟩
        all_goals
          have HSS := Lib.hid hs
          have hs1 := HS.out.trans hs
          clear hs
        · have HV := Lib.hid (FIN.out true (by
            simp [HSS.out]))
          clear FIN
          go_wp2
          go_ret
          exact ⟨HV.out, HBE.out⟩
        · have HV := Lib.hid (FIN.out false (by
            have h0 : ¬ 0 < st := by omega
            simp [HSS.out, ht0, h0]))
          clear FIN
          go_wp2
          go_ret
          exact ⟨HV.out, HBE.out⟩
        · have HV := Lib.hid (FIN.out false (by
            have h0 : 0 < st := by have := ht0; simp at this; omega
            simp [HSS.out, ht0, h0, ht2]))
          clear FIN
          go_wp2
          go_ret
          exact ⟨HV.out, HBE.out⟩
        · have HV := Lib.hid (FIN.out false (by
            have h0 : 0 < st := by have := ht0; simp at this; omega
            simp [HSS.out, ht0, h0, ht2]))
          clear FIN
          go_wp2
          go_ret
          exact ⟨HV.out, HBE.out⟩
        · have HV := Lib.hid (FIN.out false (by
            simp [HSS.out]))
          clear FIN
          go_wp2
          go_ret
          exact ⟨HV.out, HBE.out⟩
        · have HV := Lib.hid (FIN.out false (by
            have h0 : ¬ 0 < st := by omega
            simp [HSS.out, ht0, h0]))
          clear FIN
          go_wp2
          go_ret
          exact ⟨HV.out, HBE.out⟩
        · have HV := Lib.hid (FIN.out false (by
            have h0 : 0 < st := by have := ht0; simp at this; omega
            simp [HSS.out, ht0, h0, ht2]))
          clear FIN
          go_wp2
          go_ret
          exact ⟨HV.out, HBE.out⟩
        · have HV := Lib.hid (FIN.out false (by
            have h0 : 0 < st := by have := ht0; simp at this; omega
            simp [HSS.out, ht0, h0, ht2]))
          clear FIN
          go_wp2
          go_ret
          exact ⟨HV.out, HBE.out⟩
  · have hn1 := hn0 (by decide)
    clear hn0 kk
    go_enter Try.func37, Try.ntmps37
    go_wp2_with fail
    rw [HW.out]
    go_wp2_with fail
    clear hn1 f0 f1 f2 f3 f4
    go_loopw [4] (fun i wr => ∃ j : Nat, j ≤ n ∧ i = .int .i64 j ∧ (es.take j).any (eWrong 3) = false ∧ wr = W) (fun i _ => n - (intOf i).toNat)
    case atStart => exact ⟨0, by omega, rfl, rfl, rfl⟩
    case round =>
      obtain ⟨j, hj, rfl, hany, rfl⟩ := hrel
      have X1 := Lib.hid hany
      have f0 := HB0.out.cell 0
      have f2 := HB0.out.cell 2
      clear hany
      by_cases hlt : j < n
      · obtain ⟨e, he⟩ : ∃ e, es[j]? = some e := ⟨_, List.getElem?_eq_getElem (by have := HL.out; omega)⟩
        obtain ⟨a, rfl, hab, hpb, hea⟩ := ent_cells HR.out he
        obtain ⟨b, x⟩ := e
        obtain ⟨g0, g1⟩ := hea
        simp only at g0 g1
        have hj0 : (0 : Int) ≤ (j : Int) := by omega
        have hjn : (j : Int) < (n : Int) := by omega
        have HX := Lib.hid he
        have bad : eWrong 3 (b, x) = true → Ending.returned (.bool false) = .returned (.bool (!(es.any (eWrong 3)) && tail? 3 sum st)) := fun h => HF.out _ _ (by rw [any_at HX.out h]; rfl)
        have BAD := Lib.hid bad
        clear he bad
        by_cases hb1 : b < 0
        · have HV := Lib.hid (BAD.out (by rw [HE.out]; simp [hb1]))
          go_wp2
          go_ret
          exact ⟨HV.out, HBE.out⟩
        by_cases hb2 : 4096 ≤ b
        · have HV := Lib.hid (BAD.out (by rw [HE.out]; simp [hb2]))
          go_wp2
          go_ret
          exact ⟨HV.out, HBE.out⟩
        cases x
        rotate_left
        · have HV := Lib.hid (BAD.out (by rw [HE.out]; simp))
          go_wp2
          go_ret
          exact ⟨HV.out, HBE.out⟩
        have HV := Lib.hid (any_take_succ HX.out X1.out (show eWrong 3 (b, false) = false by rw [HE.out]; simp [hb1, hb2]))
        go_wp2
        go_roundw
        case rel => exact ⟨j + 1, by omega, by go_num, HV.out, by first | trivial | rfl⟩
        case measure => simp [intOf]; omega
      · obtain rfl : j = n := by omega
        have hfull := X1.out
        rw [List.take_of_length_le (by rw [HL.out]; exact Nat.le_refl _)] at hfull
        have f3 := HB0.out.cell 3
        have f4 := HB0.out.cell 4
        have fin2 : ∀ b : Bool, (!(!(sum == 0) && !((3 : Int) == 2)) && (st == 0 || ((3 : Int) == 4 && (decide (0 < st) && decide (st < 512))))) = b → Ending.returned (.bool b) = .returned (.bool (!(es.any (eWrong 3)) && tail? 3 sum st)) := fun b h => HF.out _ _ (by rw [hfull, HT.out, h]; rfl)
        have FIN := Lib.hid fin2
        clear hfull fin2 X1
        have hss : (sum == 0) = true ∨ (sum == 0) = false := by cases sum == 0 <;> simp
        have htt : st = 0 ∨ (st == 0) = false ∧ (st < 0 ∨ ¬ st < 0 ∧ (st < 512 ∨ ¬ st < 512)) := by
          by_cases h : st = 0
          · exact .inl h
          · exact .inr ⟨by simpa using h, by omega⟩
        rcases hss with hs | hs <;> rcases htt with rfl | ⟨ht0, ht1 | ⟨ht1, ht2 | ht2⟩⟩
        all_goals
          have HSS := Lib.hid hs
          have hs1 := HS.out.trans hs
          clear hs
        · have HV := Lib.hid (FIN.out true (by
            simp [HSS.out]))
          clear FIN
          go_wp2
          go_ret
          exact ⟨HV.out, HBE.out⟩
        · have HV := Lib.hid (FIN.out false (by
            have h0 : ¬ 0 < st := by omega
            simp [HSS.out, ht0, h0]))
          clear FIN
          go_wp2
          go_ret
          exact ⟨HV.out, HBE.out⟩
        · have HV := Lib.hid (FIN.out false (by
            have h0 : 0 < st := by have := ht0; simp at this; omega
            simp [HSS.out, ht0, h0, ht2]))
          clear FIN
          go_wp2
          go_ret
          exact ⟨HV.out, HBE.out⟩
        · have HV := Lib.hid (FIN.out false (by
            have h0 : 0 < st := by have := ht0; simp at this; omega
            simp [HSS.out, ht0, h0, ht2]))
          clear FIN
          go_wp2
          go_ret
          exact ⟨HV.out, HBE.out⟩
        · have HV := Lib.hid (FIN.out false (by
            simp [HSS.out]))
          clear FIN
          go_wp2
          go_ret
          exact ⟨HV.out, HBE.out⟩
        · have HV := Lib.hid (FIN.out false (by
            have h0 : ¬ 0 < st := by omega
            simp [HSS.out, ht0, h0]))
          clear FIN
          go_wp2
          go_ret
          exact ⟨HV.out, HBE.out⟩
        · have HV := Lib.hid (FIN.out false (by
            have h0 : 0 < st := by have := ht0; simp at this; omega
            simp [HSS.out, ht0, h0, ht2]))
          clear FIN
          go_wp2
          go_ret
          exact ⟨HV.out, HBE.out⟩
        · have HV := Lib.hid (FIN.out false (by
            have h0 : 0 < st := by have := ht0; simp at this; omega
            simp [HSS.out, ht0, h0, ht2]))
          clear FIN
          go_wp2
          go_ret
          exact ⟨HV.out, HBE.out⟩
  · obtain rfl : n = 0 := by omega
    have hn1 : True := trivial
    clear hn0 kk
    go_enter Try.func37, Try.ntmps37
    go_wp2_with fail
    rw [HW.out]
    go_wp2_with fail
    clear hn1 f0 f1 f2 f3 f4
    go_loopw [4] (fun i wr => ∃ j : Nat, j ≤ 0 ∧ i = .int .i64 j ∧ (es.take j).any (eWrong 2) = false ∧ wr = W) (fun i _ => 0 - (intOf i).toNat)
    case atStart => exact ⟨0, by omega, rfl, rfl, rfl⟩
    case round =>
      obtain ⟨j, hj, rfl, hany, rfl⟩ := hrel
      have X1 := Lib.hid hany
      have f0 := HB0.out.cell 0
      have f2 := HB0.out.cell 2
      clear hany
      · obtain rfl : j = 0 := by omega
        have hfull := X1.out
        rw [List.take_of_length_le (by rw [HL.out]; exact Nat.le_refl _)] at hfull
        have f3 := HB0.out.cell 3
        have f4 := HB0.out.cell 4
        have fin2 : ∀ b : Bool, (!(!(sum == 0) && !((2 : Int) == 2)) && (st == 0 || ((2 : Int) == 4 && (decide (0 < st) && decide (st < 512))))) = b → Ending.returned (.bool b) = .returned (.bool (!(es.any (eWrong 2)) && tail? 2 sum st)) := fun b h => HF.out _ _ (by rw [hfull, HT.out, h]; rfl)
        have FIN := Lib.hid fin2
        clear hfull fin2 X1
        have hss : (sum == 0) = true ∨ (sum == 0) = false := by cases sum == 0 <;> simp
        have htt : st = 0 ∨ (st == 0) = false ∧ (st < 0 ∨ ¬ st < 0 ∧ (st < 512 ∨ ¬ st < 512)) := by
          by_cases h : st = 0
          · exact .inl h
          · exact .inr ⟨by simpa using h, by omega⟩
        rcases hss with hs | hs <;> rcases htt with rfl | ⟨ht0, ht1 | ⟨ht1, ht2 | ht2⟩⟩
        all_goals
          have HSS := Lib.hid hs
          have hs1 := HS.out.trans hs
          clear hs
        · have HV := Lib.hid (FIN.out true (by
            simp [HSS.out]))
          clear FIN
          go_wp2
          go_ret
          exact ⟨HV.out, HBE.out⟩
        · have HV := Lib.hid (FIN.out false (by
            have h0 : ¬ 0 < st := by omega
            simp [HSS.out, ht0, h0]))
          clear FIN
          go_wp2
          go_ret
          exact ⟨HV.out, HBE.out⟩
        · have HV := Lib.hid (FIN.out false (by
            have h0 : 0 < st := by have := ht0; simp at this; omega
            simp [HSS.out, ht0, h0, ht2]))
          clear FIN
          go_wp2
          go_ret
          exact ⟨HV.out, HBE.out⟩
        · have HV := Lib.hid (FIN.out false (by
            have h0 : 0 < st := by have := ht0; simp at this; omega
            simp [HSS.out, ht0, h0, ht2]))
          clear FIN
          go_wp2
          go_ret
          exact ⟨HV.out, HBE.out⟩
        · have HV := Lib.hid (FIN.out true (by
            simp [HSS.out]))
          clear FIN
          go_wp2
          go_ret
          exact ⟨HV.out, HBE.out⟩
        · have HV := Lib.hid (FIN.out false (by
            have h0 : ¬ 0 < st := by omega
            simp [HSS.out, ht0, h0]))
          clear FIN
          go_wp2
          go_ret
          exact ⟨HV.out, HBE.out⟩
        · have HV := Lib.hid (FIN.out false (by
            have h0 : 0 < st := by have := ht0; simp at this; omega
            simp [HSS.out, ht0, h0, ht2]))
          clear FIN
          go_wp2
          go_ret
          exact ⟨HV.out, HBE.out⟩
        · have HV := Lib.hid (FIN.out false (by
            have h0 : 0 < st := by have := ht0; simp at this; omega
            simp [HSS.out, ht0, h0, ht2]))
          clear FIN
          go_wp2
          go_ret
          exact ⟨HV.out, HBE.out⟩
  · obtain rfl : n = 0 := by omega
    have hn1 : True := trivial
    clear hn0 kk
    go_enter Try.func37, Try.ntmps37
    go_wp2_with fail
    rw [HW.out]
    go_wp2_with fail
    clear hn1 f0 f1 f2 f3 f4
    go_loopw [4] (fun i wr => ∃ j : Nat, j ≤ 0 ∧ i = .int .i64 j ∧ (es.take j).any (eWrong 4) = false ∧ wr = W) (fun i _ => 0 - (intOf i).toNat)
    case atStart => exact ⟨0, by omega, rfl, rfl, rfl⟩
    case round =>
      obtain ⟨j, hj, rfl, hany, rfl⟩ := hrel
      have X1 := Lib.hid hany
      have f0 := HB0.out.cell 0
      have f2 := HB0.out.cell 2
      clear hany
      · obtain rfl : j = 0 := by omega
        have hfull := X1.out
        rw [List.take_of_length_le (by rw [HL.out]; exact Nat.le_refl _)] at hfull
        have f3 := HB0.out.cell 3
        have f4 := HB0.out.cell 4
        have fin2 : ∀ b : Bool, (!(!(sum == 0) && !((4 : Int) == 2)) && (st == 0 || ((4 : Int) == 4 && (decide (0 < st) && decide (st < 512))))) = b → Ending.returned (.bool b) = .returned (.bool (!(es.any (eWrong 4)) && tail? 4 sum st)) := fun b h => HF.out _ _ (by rw [hfull, HT.out, h]; rfl)
        have FIN := Lib.hid fin2
        clear hfull fin2 X1
        have hss : (sum == 0) = true ∨ (sum == 0) = false := by cases sum == 0 <;> simp
        have htt : st = 0 ∨ (st == 0) = false ∧ (st < 0 ∨ ¬ st < 0 ∧ (st < 512 ∨ ¬ st < 512)) := by
          by_cases h : st = 0
          · exact .inl h
          · exact .inr ⟨by simpa using h, by omega⟩
        rcases hss with hs | hs <;> rcases htt with rfl | ⟨ht0, ht1 | ⟨ht1, ht2 | ht2⟩⟩
        all_goals
          have HSS := Lib.hid hs
          have hs1 := HS.out.trans hs
          clear hs
        · have HV := Lib.hid (FIN.out true (by
            simp [HSS.out]))
          clear FIN
          go_wp2
          go_ret
          exact ⟨HV.out, HBE.out⟩
        · have HV := Lib.hid (FIN.out false (by
            have h0 : ¬ 0 < st := by omega
            simp [HSS.out, ht0, h0]))
          clear FIN
          go_wp2
          go_ret
          exact ⟨HV.out, HBE.out⟩
        · have HV := Lib.hid (FIN.out true (by
            have h0 : 0 < st := by have := ht0; simp at this; omega
            simp [HSS.out, ht0, h0, ht2]))
          clear FIN
          go_wp2
          go_ret
          exact ⟨HV.out, HBE.out⟩
        · have HV := Lib.hid (FIN.out false (by
            have h0 : 0 < st := by have := ht0; simp at this; omega
            simp [HSS.out, ht0, h0, ht2]))
          clear FIN
          go_wp2
          go_ret
          exact ⟨HV.out, HBE.out⟩
        · have HV := Lib.hid (FIN.out false (by
            simp [HSS.out]))
          clear FIN
          go_wp2
          go_ret
          exact ⟨HV.out, HBE.out⟩
        · have HV := Lib.hid (FIN.out false (by
            have h0 : ¬ 0 < st := by omega
            simp [HSS.out, ht0, h0]))
          clear FIN
          go_wp2
          go_ret
          exact ⟨HV.out, HBE.out⟩
        · have HV := Lib.hid (FIN.out false (by
            have h0 : 0 < st := by have := ht0; simp at this; omega
            simp [HSS.out, ht0, h0, ht2]))
          clear FIN
          go_wp2
          go_ret
          exact ⟨HV.out, HBE.out⟩
        · have HV := Lib.hid (FIN.out false (by
            have h0 : 0 < st := by have := ht0; simp at this; omega
            simp [HSS.out, ht0, h0, ht2]))
          clear FIN
          go_wp2
          go_ret
          exact ⟨HV.out, HBE.out⟩
theorem mayR_any (k s : Int) (A : Option Addr) (n c sum : Nat) (st : Int) (es : List Ent) (w : World) (hn : n ≤ 9223372036854775807) (hr : RowAt w A (n * 2) (ecells es)) :
    Calls Try.prog 37 #[.agg #[.int .i64 k, .int .i64 s, .slice A n c, .int .u32 (sum : Int), .int .i64 st]] w fun e w' => e = .returned (.bool (rMay k s es sum st)) ∧ Below w.heap.size w w' := by
  have hlen : es.length = n := by have := hr.len; rw [ecells_length] at this; omega
  by_cases hk : (k = 1 ∧ most k = 48 ∨ k = 3 ∧ most k = 60 ∨ k = 2 ∧ most k = 0 ∨ k = 4 ∧ most k = 0)
  · cases hh : head? k s n
    · have hm : rMay k s es sum st = false := by simp [rMay, hlen, hh]
      rw [hm]
      refine mayR_head k (most k) s A n c sum st w hk ?_
      have := head_false hh
      omega
    · have hm : rMay k s es sum st = (!(es.any (eWrong k)) && tail? k sum st) := by simp [rMay, hlen, hh]
      rw [hm]
      obtain ⟨h1, h2, h3, h4, h5⟩ := head_true hh
      exact mayR_in k (most k) s A n c sum st es w hk hn hr h2 h3 h4 (by omega)
  · have hm1 : most k = -1 := by have := most_cases k; omega
    have hm : rMay k s es sum st = false := by simp [rMay, head?, hm1]
    rw [hm]
    have hne : k ≠ 1 ∧ k ≠ 3 ∧ k ≠ 2 ∧ k ≠ 4 := ⟨fun e => by subst e; exact absurd hm1 (by decide), fun e => by subst e; exact absurd hm1 (by decide), fun e => by subst e; exact absurd hm1 (by decide), fun e => by subst e; exact absurd hm1 (by decide)⟩
    exact mayR_kind k s A n c sum st w (by simpa using hne.1) (by simpa using hne.2.1) (by simpa using hne.2.2.1) (by simpa using hne.2.2.2)
end Go.Proofs.Ytifamhmiibhohaa.Log

namespace Go.Proofs.Ytifamhmiibhohaa.Log
open Go.RowKit Go.Proofs.Ytifamhmiibhohaa.Wire Go.Proofs.Ytifamhmiibhohaa.Lay
set_option maxHeartbeats 8000000
set_option maxRecDepth 100000
set_option linter.unusedVariables false
set_option linter.unusedSimpArgs false

theorem snoc_u64 (l : List Nat) (x : Nat) : nums l ++ nums [x] = nums (l ++ [x]) := by simp [nums]
theorem snoc_i64 (l : List Int) (x : Int) : ints l ++ ints [x] = ints (l ++ [x]) := by simp [ints]
/-- Both rows, and nothing old turned. -/
structure PAt (w : World) (vl vw : Value) (l : List Nat) (ws : List Int) (wr : World) : Prop where
  nl : wr.ownsRow w.heap.size 79 1 vl l.length (nums l)
  nw : wr.ownsRow w.heap.size 3 1 vw ws.length (ints ws)
  bel : Below w.heap.size w wr
theorem PAt.alloc {w wr : World} {vl vw : Value} {l : List Nat} {ws : List Int} (h : PAt w vl vw l ws wr) (o : Obj) : PAt w vl vw l ws (wr.alloc o) :=
  ⟨h.nl.alloc o, h.nw.alloc o, h.bel.alloc h.bel.size o⟩
theorem PAt.appL {w wr w' : World} {vl vw v' : Value} {l : List Nat} {ws : List Int} {x : Nat} (h : PAt w vl vw l ws wr) (ho : w'.ownsRow w.heap.size 79 1 v' (l.length + 1) (nums l ++ nums [x])) (hg : wr.grownBy w' vl.ownBlock) : PAt w v' vw (l ++ [x]) ws w' :=
  ⟨by rw [snoc_u64] at ho; simpa using ho, h.nw.kept hg (own_ne h.nw h.nl (by decide)), below_row h.bel hg (fun g e => (h.nl.lt g e).1) h.bel.size⟩
theorem PAt.appW {w wr w' : World} {vl vw v' : Value} {l : List Nat} {ws : List Int} {x : Int} (h : PAt w vl vw l ws wr) (ho : w'.ownsRow w.heap.size 3 1 v' (ws.length + 1) (ints ws ++ ints [x])) (hg : wr.grownBy w' vw.ownBlock) : PAt w vl v' l (ws ++ [x]) w' :=
  ⟨h.nl.kept hg (own_ne h.nl h.nw (by decide)), by rw [snoc_i64] at ho; simpa using ho, below_row h.bel hg (fun g e => (h.nw.lt g e).1) h.bel.size⟩
theorem logPackR_no (k s : Int) (A : Option Addr) (n c sum : Nat) (st : Int) (es : List Ent) (w : World) (hn : n ≤ 9223372036854775807) (hr : RowAt w A (n * 2) (ecells es)) (hm : rMay k s es sum st = false) :
    Calls Try.prog 21 #[.agg #[.int .i64 k, .int .i64 s, .slice A n c, .int .u32 (sum : Int), .int .i64 st]] w fun e w' => e = .returned (.tuple #[.slice none 0 0, .int .i64 22]) ∧ Below w.heap.size w w' := by
  obtain ⟨W, hW⟩ : ∃ W, w.alloc (.cells #[.int .i64 k, .int .i64 s, .slice A n c, .int .u32 (sum : Int), .int .i64 st] 58) = W := ⟨_, rfl⟩
  obtain ⟨b0, hbel, hsz⟩ := boxed w _ _ W hW
  have HM := Lib.hid (mayR_any k s A n c sum st es W hn (hr.below hbel))
  rw [hm] at HM
  have HW := Lib.hid hW
  have HBE := Lib.hid hbel
  have f0 := b0.cell 0
  have f1 := b0.cell 1
  have f2 := b0.cell 2
  have f3 := b0.cell 3
  have f4 := b0.cell 4
  clear hW hm hr hbel b0
  go_enter Try.func21, Try.ntmps21
  go_wp2_with fail
  rw [HW.out]
  go_wp2_with fail
  refine HM.out.mono ?_
  rintro e w1 ⟨rfl, hb1⟩
  go_wp2_with fail
  go_ret2
  exact ⟨rfl, below_all HBE.out HBE.out.size hb1⟩

theorem logPackR_in (k s : Int) (A : Option Addr) (n c sum : Nat) (st : Int) (es : List Ent) (w : World) (hn : n ≤ 9223372036854775807) (hsum : sum < 4294967296) (hr : RowAt w A (n * 2) (ecells es)) (hm : rMay k s es sum st = true) :
    Calls Try.prog 21 #[.agg #[.int .i64 k, .int .i64 s, .slice A n c, .int .u32 (sum : Int), .int .i64 st]] w fun e w' => ∃ v, e = .returned (.tuple #[v, .int .i64 0]) ∧ Below w.heap.size w w' ∧ w'.ownsRow w.heap.size 5 1 v (rB k s es sum st).length (bvl (rB k s es sum st)) := by
  have hlen : es.length = n := by have := hr.len; rw [ecells_length] at this; omega
  obtain ⟨W, hW⟩ : ∃ W, w.alloc (.cells #[.int .i64 k, .int .i64 s, .slice A n c, .int .u32 (sum : Int), .int .i64 st] 58) = W := ⟨_, rfl⟩
  obtain ⟨b0, hbel, hsz⟩ := boxed w _ _ W hW
  have HM := Lib.hid (mayR_any k s A n c sum st es W hn (hr.below hbel))
  rw [hm] at HM
  have HRB := Lib.hid (show rB k s es sum st = sealB (rS s) (packB (rL k s es sum st) (rW k n) 256) by rw [rB, if_pos hm, hlen])
  have hg := rGood hm
  have HSUM := Lib.hid hsum
  have HF := Lib.hid (hg.full hsum)
  have HLEN := Lib.hid hlen
  have H64 := Lib.hid (fits64 (l := rL k s es sum st) (ws := rW k n) (by rw [rL_length, hlen]) (rW_wok k n) (by have := hg.zip hsum; rwa [hlen] at this))
  have HR := Lib.hid (hr.below hbel)
  have HE := Lib.hid hg.ents
  obtain ⟨s1, s2⟩ := hg.seq
  have hk4 : 1 ≤ k ∧ k ≤ 4 := by rcases hg.kind with ⟨rfl, _⟩ | ⟨rfl, _⟩ | ⟨rfl, _⟩ | ⟨rfl, _⟩ <;> omega
  have hn60 : n ≤ 60 := by
    rcases hg.kind with ⟨rfl, h1, h2⟩ | ⟨rfl, h1, h2⟩ | ⟨rfl, h1⟩ | ⟨rfl, h1⟩
    · omega
    · omega
    · rw [← hlen, h1]; simp
    · rw [← hlen, h1]; simp
  have HLW := Lib.hid (show (rW k n).length ≤ 1000 by
    have h1 := esW_len k n
    have h2 : (tW k).length ≤ 1 := by unfold tW; split; exact Nat.le_refl _; split; exact Nat.le_refl _; exact Nat.zero_le _
    have h3 : (Log.hW).length = 4 := rfl
    rw [rW, List.length_append, List.length_append, h3]
    omega)
  have HST := Lib.hid hg.start
  have HW := Lib.hid hW
  have HBE := Lib.hid hbel
  have f0 := b0.cell 0
  have f1 := b0.cell 1
  have f2 := b0.cell 2
  have f3 := b0.cell 3
  have f4 := b0.cell 4
  have HB0 := Lib.hid b0
  clear hW hm hr hbel b0 hg hlen hsum
  go_enter Try.func21, Try.ntmps21
  go_wp2_with fail
  rw [HW.out]
  go_wp2_with fail
  refine HM.out.mono ?_
  rintro e w1 ⟨rfl, hb1⟩
  clear f0 f1 f2 f3 f4 HM
  have hk1 := HB0.out.belowAll hb1
  have hlt1 : w.heap.size < w1.heap.size := Nat.lt_of_lt_of_le HB0.out.lt hb1.size
  have hcells : ∀ w', Below w1.heap.size w1 w' → Blk w' w.heap.size 58 #[.int .i64 k, .int .i64 s, .slice A n c, .int .u32 (sum : Int), .int .i64 st] := fun w' h => hk1.below h hlt1
  have CE := Lib.hid hcells
  have HR1 := Lib.hid (HR.out.below hb1)
  have B1 := Lib.hid (below_all HBE.out HBE.out.size hb1)
  have f0 := hk1.cell 0
  have f1 := hk1.cell 1
  have f2 := hk1.cell 2
  have wk : IntKind.u64.wrap k = k := by rw [IntKind.wrap_u64]; omega
  have wse : IntKind.u64.wrap s = s := by rw [IntKind.wrap_u64]; omega
  have wn : IntKind.u64.wrap (n : Int) = (n : Int) := by rw [IntKind.wrap_u64]; omega
  have hnum : nums (hL k s n) = [.int .u64 1213813321, .int .u64 k, .int .u64 s, .int .u64 (n : Int)] := by simp [nums, hL]; omega
  have P2 := Lib.hid (show PAt w1 (.slice (some ⟨w1.heap.size, 0, none⟩) 4 4) (.slice (some ⟨w1.heap.size + 1, 0, none⟩) 4 4) (hL k s n) hW ((w1.alloc (.cells #[.int .u64 1213813321, .int .u64 k, .int .u64 s, .int .u64 (n : Int)] 79)).alloc (.cells #[.int .i64 4, .int .i64 1, .int .i64 4, .int .i64 2] 3)) from
    ⟨by rw [hnum]; exact (lit_ownN w1 79 1 [.int .u64 1213813321, .int .u64 k, .int .u64 s, .int .u64 (n : Int)] 4 rfl (by unfold maxLen; omega)).alloc _,
     by have := lit_ownN (w1.alloc (.cells #[.int .u64 1213813321, .int .u64 k, .int .u64 s, .int .u64 (n : Int)] 79)) 3 1 (ints Log.hW) 4 rfl (by unfold maxLen; omega)
        rw [show (w1.alloc (.cells #[.int .u64 1213813321, .int .u64 k, .int .u64 s, .int .u64 (n : Int)] 79)).heap.size = w1.heap.size + 1 by simp] at this
        exact own_mono this (by omega),
     ((Below.refl w1.heap.size w1).alloc (Nat.le_refl _) _).alloc (by simp) _⟩)
  clear hcells hk1 HR hb1 hnum
  go_wp2_with fail
  clear f0 f1 f2 wk wse wn
  go_loopw [4, 5, 6, 7] (fun vl vw i _ wr => ∃ (j : Nat), j ≤ n ∧ i = .int .i64 j ∧ PAt w1 vl vw (hL k s n ++ esL k (es.take j)) (Log.hW ++ esW k j) wr) (fun _ _ i _ _ => n - (intOf i).toNat)
  case atStart => exact ⟨0, by omega, rfl, by simpa [esL, esW] using P2.out⟩
  case round =>
    obtain ⟨j, hj, rfl, hp⟩ := hrel
    have X1 := Lib.hid hp
    have hsz6 := hp.bel.size
    have f0 := (CE.out _ hp.bel).cell 0
    have f2 := (CE.out _ hp.bel).cell 2
    have HBP := Lib.hid hp.bel
    clear hp
    have ll : (hL k s n ++ esL k (es.take j)).length ≤ 1000 ∧ (Log.hW ++ esW k j).length ≤ 1000 := by
      have h1 := esL_length k (es.take j)
      have h2 := esW_len k (es.take j).length
      have h3 := esW_len k j
      rw [List.length_append, List.length_append, h1, List.length_take]
      rw [List.length_take] at h2
      simp only [hL, Log.hW, List.length_cons, List.length_nil]
      omega
    obtain ⟨ll1, ll2⟩ := ll
    by_cases hlt : j < n
    · obtain ⟨e, he⟩ : ∃ e, es[j]? = some e := ⟨_, List.getElem?_eq_getElem (by have := HLEN.out; omega)⟩
      obtain ⟨a, rfl, hab, hpb, hea⟩ := ent_cells HR1.out he
      obtain ⟨e0, e1, e2⟩ := HE.out e (List.mem_of_getElem? he)
      have htk : es.take (j + 1) = es.take j ++ [e] := by rw [List.take_add_one, he]; rfl
      have HTK := Lib.hid htk
      obtain ⟨b, x⟩ := e
      simp only at e0 e1 e2
      obtain ⟨bn, rfl⟩ := Int.eq_ofNat_of_zero_le e0
      have HENT := Lib.hid (fun (W' : World) (h : Below w1.heap.size w1 W') => hea.below h hpb)
      obtain ⟨g0, g1⟩ := hea.below HBP.out hpb
      simp only at g0 g1
      have wb : IntKind.u64.wrap (bn : Int) = (bn : Int) := by rw [IntKind.wrap_u64]; omega
      have fin : ∀ (wz : World) (vl vw : Value) (l : List Nat) (ws : List Int), l = eL k ((bn : Int), x) → ws = eW k → PAt w1 vl vw ((hL k s n ++ esL k (es.take j)) ++ l) ((Log.hW ++ esW k j) ++ ws) wz → PAt w1 vl vw (hL k s n ++ esL k (es.take (j + 1))) (Log.hW ++ esW k (j + 1)) wz := fun wz vl vw l ws h1 h2 h => by
        subst h1 h2
        rw [HTK.out, esL_append, esL_one, esW_succ, ← List.append_assoc, ← List.append_assoc]; exact h
      have FIN := Lib.hid fin
      have hj0 : (0 : Int) ≤ (j : Int) := by omega
      have hjn : (j : Int) < (n : Int) := by omega
      clear he htk fin hea
      by_cases hk : k = 1
      · subst hk
        cases x
        · have L10 := Lib.hid (lit_rowN wr 79 (nums [bn]) 1 (wr).heap.size rfl rfl)
          have Q10 := Lib.hid (X1.out.alloc (.cells (nums [bn]).toArray 79))
          go_wp2_with (first
            | (at_builtin
               refine app_n64 _ rfl (.tmp 32) (.tmp 40) rfl w1.heap.size u4 _ _ rfl Q10.out.nl (some ⟨(wr).heap.size, 0, none⟩) 1 1 [bn] rfl (fun e => by cases e) L10.out (by have := ll1; simp at this ⊢; omega) Q10.out.bel.size ?_
               intro v10 y10 hown hg
               have P10 := Lib.hid (Q10.out.appL hown hg)
               have L11 := Lib.hid (lit_rowN y10 3 (ints [4]) 1 (y10).heap.size rfl rfl)
               have Q11 := Lib.hid (P10.out.alloc (.cells (ints [4]).toArray 3))
               clear hown hg)
            | (at_builtin
               refine app_i64 _ rfl (.tmp 42) (.tmp 43) rfl w1.heap.size u5 _ _ rfl Q11.out.nw (some ⟨(y10).heap.size, 0, none⟩) 1 1 [4] rfl (fun e => by cases e) L11.out (by have := ll2; simp at this ⊢; omega) Q11.out.bel.size ?_
               intro v11 y11 hown hg
               have P11 := Lib.hid (Q11.out.appW hown hg)
               have L12 := Lib.hid (lit_rowN y11 79 (nums [0]) 1 (y11).heap.size rfl rfl)
               have Q12 := Lib.hid (P11.out.alloc (.cells (nums [0]).toArray 79))
               have f0b := (CE.out _ P11.out.bel).cell 0
               have f2b := (CE.out _ P11.out.bel).cell 2
               have g1b := (HENT.out _ P11.out.bel).2
               clear hown hg)
            | (at_builtin
               refine app_n64 _ rfl (.tmp 54) (.tmp 56) rfl w1.heap.size v10 _ _ rfl Q12.out.nl (some ⟨(y11).heap.size, 0, none⟩) 1 1 [0] rfl (fun e => by cases e) L12.out (by have := ll1; simp at this ⊢; omega) Q12.out.bel.size ?_
               intro v12 y12 hown hg
               have P12 := Lib.hid (Q12.out.appL hown hg)
               have L13 := Lib.hid (lit_rowN y12 3 (ints [1]) 1 (y12).heap.size rfl rfl)
               have Q13 := Lib.hid (P12.out.alloc (.cells (ints [1]).toArray 3))
               clear hown hg)
            | (at_builtin
               refine app_i64 _ rfl (.tmp 58) (.tmp 59) rfl w1.heap.size v11 _ _ rfl Q13.out.nw (some ⟨(y12).heap.size, 0, none⟩) 1 1 [1] rfl (fun e => by cases e) L13.out (by have := ll2; simp at this ⊢; omega) Q13.out.bel.size ?_
               intro v13 y13 hown hg
               have P13 := Lib.hid (Q13.out.appW hown hg)
               clear hown hg)
            | fail)
          go_roundw
          case rel => exact ⟨j + 1, by omega, by go_num, FIN.out _ _ _ [bn, 0] [4, 1] rfl rfl (by have := P13.out; rw [List.append_assoc _ [bn], List.append_assoc _ [(4 : Int)]] at this; exact this)⟩
          case measure => simp [intOf]; omega
        · have L20 := Lib.hid (lit_rowN wr 79 (nums [bn]) 1 (wr).heap.size rfl rfl)
          have Q20 := Lib.hid (X1.out.alloc (.cells (nums [bn]).toArray 79))
          go_wp2_with (first
            | (at_builtin
               refine app_n64 _ rfl (.tmp 32) (.tmp 40) rfl w1.heap.size u4 _ _ rfl Q20.out.nl (some ⟨(wr).heap.size, 0, none⟩) 1 1 [bn] rfl (fun e => by cases e) L20.out (by have := ll1; simp at this ⊢; omega) Q20.out.bel.size ?_
               intro v20 y20 hown hg
               have P20 := Lib.hid (Q20.out.appL hown hg)
               have L21 := Lib.hid (lit_rowN y20 3 (ints [4]) 1 (y20).heap.size rfl rfl)
               have Q21 := Lib.hid (P20.out.alloc (.cells (ints [4]).toArray 3))
               clear hown hg)
            | (at_builtin
               refine app_i64 _ rfl (.tmp 42) (.tmp 43) rfl w1.heap.size u5 _ _ rfl Q21.out.nw (some ⟨(y20).heap.size, 0, none⟩) 1 1 [4] rfl (fun e => by cases e) L21.out (by have := ll2; simp at this ⊢; omega) Q21.out.bel.size ?_
               intro v21 y21 hown hg
               have P21 := Lib.hid (Q21.out.appW hown hg)
               have L22 := Lib.hid (lit_rowN y21 79 (nums [1]) 1 (y21).heap.size rfl rfl)
               have Q22 := Lib.hid (P21.out.alloc (.cells (nums [1]).toArray 79))
               have f0b := (CE.out _ P21.out.bel).cell 0
               have f2b := (CE.out _ P21.out.bel).cell 2
               have g1b := (HENT.out _ P21.out.bel).2
               clear hown hg)
            | (at_builtin
               refine app_n64 _ rfl (.tmp 54) (.tmp 56) rfl w1.heap.size v20 _ _ rfl Q22.out.nl (some ⟨(y21).heap.size, 0, none⟩) 1 1 [1] rfl (fun e => by cases e) L22.out (by have := ll1; simp at this ⊢; omega) Q22.out.bel.size ?_
               intro v22 y22 hown hg
               have P22 := Lib.hid (Q22.out.appL hown hg)
               have L23 := Lib.hid (lit_rowN y22 3 (ints [1]) 1 (y22).heap.size rfl rfl)
               have Q23 := Lib.hid (P22.out.alloc (.cells (ints [1]).toArray 3))
               clear hown hg)
            | (at_builtin
               refine app_i64 _ rfl (.tmp 58) (.tmp 59) rfl w1.heap.size v21 _ _ rfl Q23.out.nw (some ⟨(y22).heap.size, 0, none⟩) 1 1 [1] rfl (fun e => by cases e) L23.out (by have := ll2; simp at this ⊢; omega) Q23.out.bel.size ?_
               intro v23 y23 hown hg
               have P23 := Lib.hid (Q23.out.appW hown hg)
               clear hown hg)
            | fail)
          go_roundw
          case rel => exact ⟨j + 1, by omega, by go_num, FIN.out _ _ _ [bn, 1] [4, 1] rfl rfl (by have := P23.out; rw [List.append_assoc _ [bn], List.append_assoc _ [(4 : Int)]] at this; exact this)⟩
          case measure => simp [intOf]; omega
      · have hk' : (k == 1) = false := by simpa using hk
        have HK := Lib.hid hk
        clear hk
        have L30 := Lib.hid (lit_rowN wr 79 (nums [bn]) 1 (wr).heap.size rfl rfl)
        have Q30 := Lib.hid (X1.out.alloc (.cells (nums [bn]).toArray 79))
        go_wp2_with (first
          | (at_builtin
             refine app_n64 _ rfl (.tmp 32) (.tmp 40) rfl w1.heap.size u4 _ _ rfl Q30.out.nl (some ⟨(wr).heap.size, 0, none⟩) 1 1 [bn] rfl (fun e => by cases e) L30.out (by have := ll1; simp at this ⊢; omega) Q30.out.bel.size ?_
             intro v30 y30 hown hg
             have P30 := Lib.hid (Q30.out.appL hown hg)
             have L31 := Lib.hid (lit_rowN y30 3 (ints [4]) 1 (y30).heap.size rfl rfl)
             have Q31 := Lib.hid (P30.out.alloc (.cells (ints [4]).toArray 3))
             clear hown hg)
          | (at_builtin
             refine app_i64 _ rfl (.tmp 42) (.tmp 43) rfl w1.heap.size u5 _ _ rfl Q31.out.nw (some ⟨(y30).heap.size, 0, none⟩) 1 1 [4] rfl (fun e => by cases e) L31.out (by have := ll2; simp at this ⊢; omega) Q31.out.bel.size ?_
             intro v31 y31 hown hg
             have P31 := Lib.hid (Q31.out.appW hown hg)
             have f0b := (CE.out _ P31.out.bel).cell 0
             clear hown hg)
          | fail)
        go_roundw
        case rel => exact ⟨j + 1, by omega, by go_num, FIN.out _ _ _ [bn] [4] (by simp [eL, HK.out]) (by simp [eW, HK.out]) P31.out⟩
        case measure => simp [intOf]; omega
    · obtain rfl : j = n := by omega
      have htk : es.take j = es := List.take_of_length_le (by rw [HLEN.out]; exact Nat.le_refl _)
      have hx := X1.out
      rw [htk] at hx ll1
      have X3 := Lib.hid hx
      have f3 := (CE.out _ HBP.out).cell 3
      have f4 := (CE.out _ HBP.out).cell 4
      clear htk hx X1
      have wsd : IntKind.u32.wrap s = ((rS s).toNat : Int) := by
        rw [rS, BitVec.toNat_ofInt, IntKind.wrap_u32]; omega
      have wsm : IntKind.u64.wrap (sum : Int) = (sum : Int) := by rw [IntKind.wrap_u64]; have := HSUM.out; omega
      have kcs : k = 2 ∨ k = 4 ∨ (k == 2) = false ∧ (k == 4) = false := by
        by_cases h2 : k = 2
        · exact .inl h2
        · by_cases h4 : k = 4
          · exact .inr (.inl h4)
          · exact .inr (.inr ⟨by simpa using h2, by simpa using h4⟩)
      rcases kcs with rfl | rfl | ⟨k2, k4⟩
      · have L40 := Lib.hid (lit_rowN wr 79 (nums [sum]) 1 (wr).heap.size rfl rfl)
        have Q40 := Lib.hid (X3.out.alloc (.cells (nums [sum]).toArray 79))
        go_wp2_with (first
          | (at_builtin
             refine app_n64 _ rfl (.tmp 64) (.tmp 68) rfl w1.heap.size u4 _ _ rfl Q40.out.nl (some ⟨(wr).heap.size, 0, none⟩) 1 1 [sum] rfl (fun e => by cases e) L40.out (by have := ll1; simp at this ⊢; omega) Q40.out.bel.size ?_
             intro v40 y40 hown hg
             have P40 := Lib.hid (Q40.out.appL hown hg)
             have L41 := Lib.hid (lit_rowN y40 3 (ints [4]) 1 (y40).heap.size rfl rfl)
             have Q41 := Lib.hid (P40.out.alloc (.cells (ints [4]).toArray 3))
             clear hown hg)
          | (at_builtin
             refine app_i64 _ rfl (.tmp 70) (.tmp 71) rfl w1.heap.size u5 _ _ rfl Q41.out.nw (some ⟨(y40).heap.size, 0, none⟩) 1 1 [4] rfl (fun e => by cases e) L41.out (by have := ll2; simp at this ⊢; omega) Q41.out.bel.size ?_
             intro v41 y41 hown hg
             have P41 := Lib.hid (Q41.out.appW hown hg)
             have fk := (CE.out _ P41.out.bel).cell 0
             clear hown hg)
          | fail)
        have e1 : rL 2 s es sum st = hL 2 s j ++ esL 2 es ++ [sum] := by rw [rL, HLEN.out]; rfl
        have e2 : rW 2 j = Log.hW ++ esW 2 j ++ [4] := rfl
        have FZ := Lib.hid (show PAt w1 _ _ (rL 2 s es sum st) (rW 2 j) y41 by rw [e1, e2]; exact P41.out)
        clear X3
        obtain ⟨A0, c0, EV0, hr0, _, hc0, _, _⟩ := own_nums FZ.out.nl
        obtain ⟨A1, c1, EV1, hr1, _, hc1, _, _⟩ := own_ints FZ.out.nw
        subst EV0 EV1
        have HP := Lib.hid (ref_pack_any A0 A1 _ c0 _ c1 (rL 2 s es sum st) (rW 2 j) 256 y41 (by have := HLW.out; omega) H64.out hr0 hr1)
        generalize (rL 2 s es sum st).length = n0 at HP ⊢
        generalize (rW 2 j).length = n1 at HP ⊢
        obtain ⟨hf1, hf2⟩ := HF.out
        obtain ⟨pb, hpb⟩ : ∃ pb, packB (rL 2 s es sum st) (rW 2 j) 256 = pb := ⟨_, rfl⟩
        rw [HLEN.out, hpb] at hf1
        rw [HLEN.out] at hf2
        rw [hf2, hpb, hf1] at HP
        have HPB := Lib.hid hpb
        have HPL := Lib.hid hf1
        clear hf1 hf2 hpb hr0 hr1 hc0 hc1 HF H64
        refine HP.out.mono ?_
        rintro e w9 ⟨v9, rfl, hb9, ho9⟩
        have BW := Lib.hid (below_all FZ.out.bel FZ.out.bel.size hb9)
        have B9 := Lib.hid (below_all B1.out B1.out.size BW.out)
        have f1 := (CE.out _ BW.out).cell 1
        have O9 := Lib.hid (own_mono ho9 (Nat.le_trans (Nat.le_of_lt hlt1) FZ.out.bel.size))
        obtain ⟨A9, c9, rfl, _, _, _, _, _⟩ := own_slice ho9
        have HS := Lib.hid (ref_seal_row w.heap.size 256 c9 A9 pb (rS s) w9 HPL.out O9.out)
        clear hb9 ho9 HP FZ
        go_wp2_with fail
        refine HS.out.mono ?_
        rintro e w10 ⟨rfl, ho10, hg10⟩
        have O10 := Lib.hid ho10
        have B10 := Lib.hid (below_own O9.out B9.out (Nat.le_refl _) hg10)
        clear ho10 hg10
        go_wp2_with fail
        go_ret2
        refine ⟨_, rfl, B10.out, ?_⟩
        rw [HRB.out, HPB.out, sealB_length, HPL.out]
        exact O10.out
      · obtain ⟨tn, rfl⟩ := Int.eq_ofNat_of_zero_le (show 0 ≤ st by have := HST.out; omega)
        have wst : IntKind.u64.wrap (tn : Int) = (tn : Int) := by rw [IntKind.wrap_u64]; have := HST.out; omega
        have L50 := Lib.hid (lit_rowN wr 79 (nums [tn]) 1 (wr).heap.size rfl rfl)
        have Q50 := Lib.hid (X3.out.alloc (.cells (nums [tn]).toArray 79))
        go_wp2_with (first
          | (at_builtin
             refine app_n64 _ rfl (.tmp 76) (.tmp 80) rfl w1.heap.size u4 _ _ rfl Q50.out.nl (some ⟨(wr).heap.size, 0, none⟩) 1 1 [tn] rfl (fun e => by cases e) L50.out (by have := ll1; simp at this ⊢; omega) Q50.out.bel.size ?_
             intro v50 y50 hown hg
             have P50 := Lib.hid (Q50.out.appL hown hg)
             have L51 := Lib.hid (lit_rowN y50 3 (ints [4]) 1 (y50).heap.size rfl rfl)
             have Q51 := Lib.hid (P50.out.alloc (.cells (ints [4]).toArray 3))
             clear hown hg)
          | (at_builtin
             refine app_i64 _ rfl (.tmp 82) (.tmp 83) rfl w1.heap.size u5 _ _ rfl Q51.out.nw (some ⟨(y50).heap.size, 0, none⟩) 1 1 [4] rfl (fun e => by cases e) L51.out (by have := ll2; simp at this ⊢; omega) Q51.out.bel.size ?_
             intro v51 y51 hown hg
             have P51 := Lib.hid (Q51.out.appW hown hg)
             clear hown hg)
          | fail)
        have e1 : rL 4 s es sum (tn : Int) = hL 4 s j ++ esL 4 es ++ [tn] := by rw [rL, HLEN.out]; rfl
        have e2 : rW 4 j = Log.hW ++ esW 4 j ++ [4] := rfl
        have FZ := Lib.hid (show PAt w1 _ _ (rL 4 s es sum (tn : Int)) (rW 4 j) y51 by rw [e1, e2]; exact P51.out)
        clear X3
        obtain ⟨A0, c0, EV0, hr0, _, hc0, _, _⟩ := own_nums FZ.out.nl
        obtain ⟨A1, c1, EV1, hr1, _, hc1, _, _⟩ := own_ints FZ.out.nw
        subst EV0 EV1
        have HP := Lib.hid (ref_pack_any A0 A1 _ c0 _ c1 (rL 4 s es sum (tn : Int)) (rW 4 j) 256 y51 (by have := HLW.out; omega) H64.out hr0 hr1)
        generalize (rL 4 s es sum (tn : Int)).length = n0 at HP ⊢
        generalize (rW 4 j).length = n1 at HP ⊢
        obtain ⟨hf1, hf2⟩ := HF.out
        obtain ⟨pb, hpb⟩ : ∃ pb, packB (rL 4 s es sum (tn : Int)) (rW 4 j) 256 = pb := ⟨_, rfl⟩
        rw [HLEN.out, hpb] at hf1
        rw [HLEN.out] at hf2
        rw [hf2, hpb, hf1] at HP
        have HPB := Lib.hid hpb
        have HPL := Lib.hid hf1
        clear hf1 hf2 hpb hr0 hr1 hc0 hc1 HF H64
        refine HP.out.mono ?_
        rintro e w9 ⟨v9, rfl, hb9, ho9⟩
        have BW := Lib.hid (below_all FZ.out.bel FZ.out.bel.size hb9)
        have B9 := Lib.hid (below_all B1.out B1.out.size BW.out)
        have f1 := (CE.out _ BW.out).cell 1
        have O9 := Lib.hid (own_mono ho9 (Nat.le_trans (Nat.le_of_lt hlt1) FZ.out.bel.size))
        obtain ⟨A9, c9, rfl, _, _, _, _, _⟩ := own_slice ho9
        have HS := Lib.hid (ref_seal_row w.heap.size 256 c9 A9 pb (rS s) w9 HPL.out O9.out)
        clear hb9 ho9 HP FZ
        go_wp2_with fail
        refine HS.out.mono ?_
        rintro e w10 ⟨rfl, ho10, hg10⟩
        have O10 := Lib.hid ho10
        have B10 := Lib.hid (below_own O9.out B9.out (Nat.le_refl _) hg10)
        clear ho10 hg10
        go_wp2_with fail
        go_ret2
        refine ⟨_, rfl, B10.out, ?_⟩
        rw [HRB.out, HPB.out, sealB_length, HPL.out]
        exact O10.out
      · go_wp2_with fail
        have FZ := Lib.hid (show PAt w1 _ _ (rL k s es sum st) (rW k j) wr by
          have h2 : k ≠ 2 := by simpa using k2
          have h4 : k ≠ 4 := by simpa using k4
          rw [rL, rW, HLEN.out]; simpa [tL, tW, h2, h4] using X3.out)
        clear X3
        obtain ⟨A0, c0, EV0, hr0, _, hc0, _, _⟩ := own_nums FZ.out.nl
        obtain ⟨A1, c1, EV1, hr1, _, hc1, _, _⟩ := own_ints FZ.out.nw
        subst EV0 EV1
        have HP := Lib.hid (ref_pack_any A0 A1 _ c0 _ c1 (rL k s es sum st) (rW k j) 256 wr (by have := HLW.out; omega) H64.out hr0 hr1)
        generalize (rL k s es sum st).length = n0 at HP ⊢
        generalize (rW k j).length = n1 at HP ⊢
        obtain ⟨hf1, hf2⟩ := HF.out
        obtain ⟨pb, hpb⟩ : ∃ pb, packB (rL k s es sum st) (rW k j) 256 = pb := ⟨_, rfl⟩
        rw [HLEN.out, hpb] at hf1
        rw [HLEN.out] at hf2
        rw [hf2, hpb, hf1] at HP
        have HPB := Lib.hid hpb
        have HPL := Lib.hid hf1
        clear hf1 hf2 hpb hr0 hr1 hc0 hc1 HF H64
        refine HP.out.mono ?_
        rintro e w9 ⟨v9, rfl, hb9, ho9⟩
        have BW := Lib.hid (below_all FZ.out.bel FZ.out.bel.size hb9)
        have B9 := Lib.hid (below_all B1.out B1.out.size BW.out)
        have f1 := (CE.out _ BW.out).cell 1
        have O9 := Lib.hid (own_mono ho9 (Nat.le_trans (Nat.le_of_lt hlt1) FZ.out.bel.size))
        obtain ⟨A9, c9, rfl, _, _, _, _, _⟩ := own_slice ho9
        have HS := Lib.hid (ref_seal_row w.heap.size 256 c9 A9 pb (rS s) w9 HPL.out O9.out)
        clear hb9 ho9 HP FZ
        go_wp2_with fail
        refine HS.out.mono ?_
        rintro e w10 ⟨rfl, ho10, hg10⟩
        have O10 := Lib.hid ho10
        have B10 := Lib.hid (below_own O9.out B9.out (Nat.le_refl _) hg10)
        clear ho10 hg10
        go_wp2_with fail
        go_ret2
        refine ⟨_, rfl, B10.out, ?_⟩
        rw [HRB.out, HPB.out, sealB_length, HPL.out]
        exact O10.out
theorem logPackR_any (k s : Int) (A : Option Addr) (n c sum : Nat) (st : Int) (es : List Ent) (w : World) (hn : n ≤ 9223372036854775807) (hsum : sum < 4294967296) (hr : RowAt w A (n * 2) (ecells es)) :
    Calls Try.prog 21 #[.agg #[.int .i64 k, .int .i64 s, .slice A n c, .int .u32 (sum : Int), .int .i64 st]] w fun e w' => ∃ v, e = .returned (.tuple #[v, .int .i64 (rE k s es sum st)]) ∧ Below w.heap.size w w' ∧ w'.ownsRow w.heap.size 5 1 v (rB k s es sum st).length (bvl (rB k s es sum st)) := by
  cases hm : rMay k s es sum st
  · have e1 : rE k s es sum st = 22 := by simp [rE, hm]
    have e2 : rB k s es sum st = [] := by simp [rB, hm]
    rw [e1, e2]
    exact (logPackR_no k s A n c sum st es w hn hr hm).mono fun e w' ⟨he, hb⟩ => ⟨_, he, hb, World.ownsRow_nil _ _ _ _⟩
  · have e1 : rE k s es sum st = 0 := by simp [rE, hm]
    rw [e1]
    exact logPackR_in k s A n c sum st es w hn hsum hr hm
end Go.Proofs.Ytifamhmiibhohaa.Log

namespace Go.Proofs.Ytifamhmiibhohaa.Mem
open Go.RowKit Go.Proofs.Ytifamhmiibhohaa
set_option maxHeartbeats 4000000
set_option maxRecDepth 100000
set_option linter.unusedVariables false
set_option linter.unusedSimpArgs false

abbrev Col := Nat → Nat
/-- Only blocks of colours from lo to below hi are written; what has another colour keeps it; beyond the heap there is no colour. -/
structure Tch (lo hi : Nat) (col col' : Col) (w w' : World) : Prop where
  os : w'.os = w.os
  tape : w'.tape = w.tape
  output : w'.output = w.output
  size : w.heap.size ≤ w'.heap.size
  hue : ∀ b, b < w.heap.size → ¬ (lo ≤ col b ∧ col b < hi) → col' b = col b
  stay : ∀ b, b < w.heap.size → lo ≤ col b ∧ col b < hi → lo ≤ col' b ∧ col' b < hi
  block : ∀ b, b < w.heap.size → ¬ (lo ≤ col b ∧ col b < hi) → w'.heap[b]? = w.heap[b]?
  tidy : (∀ b, w.heap.size ≤ b → col b = 0) → ∀ b, w'.heap.size ≤ b → col' b = 0
  neu : ∀ b, w.heap.size ≤ b → col' b < 16 ∨ (lo ≤ col' b ∧ col' b < hi) ∨ col' b = col b
theorem Tch.refl (lo hi : Nat) (col : Col) (w : World) : Tch lo hi col col w w := ⟨rfl, rfl, rfl, Nat.le_refl _, fun _ _ _ => rfl, fun _ _ h => h, fun _ _ _ => rfl, fun h => h, fun _ _ => .inr (.inr rfl)⟩
theorem Tch.trans {lo hi : Nat} {a b c : Col} {u v w : World} (h : Tch lo hi a b u v) (k : Tch lo hi b c v w) : Tch lo hi a c u w :=
  ⟨k.os.trans h.os, k.tape.trans h.tape, k.output.trans h.output, Nat.le_trans h.size k.size,
   fun i hi hn => (k.hue i (Nat.lt_of_lt_of_le hi h.size) (by rw [h.hue i hi hn]; exact hn)).trans (h.hue i hi hn),
   fun i hi hn => k.stay i (Nat.lt_of_lt_of_le hi h.size) (h.stay i hi hn),
   fun i hi hn => (k.block i (Nat.lt_of_lt_of_le hi h.size) (by rw [h.hue i hi hn]; exact hn)).trans (h.block i hi hn), fun ht => k.tidy (h.tidy ht), fun i hk => by
    rcases Nat.lt_or_ge i v.heap.size with hv | hv
    · by_cases e : lo ≤ b i ∧ b i < hi
      · exact .inr (.inl (k.stay i hv e))
      · rw [k.hue i hv e]; exact h.neu i hk
    · rcases k.neu i hv with e | e | e
      · exact .inl e
      · exact .inr (.inl e)
      · rw [e]; exact h.neu i hk⟩
theorem Tch.mono {lo hi lo' hi' : Nat} {a b : Col} {u v : World} (h : Tch lo hi a b u v) (h1 : lo' ≤ lo) (h2 : hi ≤ hi') : Tch lo' hi' a b u v :=
  ⟨h.os, h.tape, h.output, h.size, fun i hk hn => h.hue i hk (fun ⟨x, y⟩ => hn ⟨by omega, by omega⟩), fun i hk hn => by
    by_cases e : lo ≤ a i ∧ a i < hi
    · have := h.stay i hk e; omega
    · rw [h.hue i hk e]; exact hn, fun i hk hn => h.block i hk (fun ⟨x, y⟩ => hn ⟨by omega, by omega⟩), h.tidy, fun i hk => by
    rcases h.neu i hk with e | e | e
    · exact .inl e
    · exact .inr (.inl ⟨by omega, by omega⟩)
    · exact .inr (.inr e)⟩
theorem Tch.any {lo hi lo' hi' : Nat} {a b : Col} {u v : World} (h : Tch lo hi a b u v) (he : hi ≤ lo) : Tch lo' hi' a b u v :=
  ⟨h.os, h.tape, h.output, h.size, fun i hi _ => h.hue i hi (fun ⟨x, y⟩ => by omega), fun i hi hn => by rw [h.hue i hi (fun ⟨x, y⟩ => by omega)]; exact hn, fun i hi hn => h.block i hi (fun ⟨x, y⟩ => by omega), h.tidy, fun i hk => by
    rcases h.neu i hk with e | e | e
    · exact .inl e
    · omega
    · exact .inr (.inr e)⟩
theorem Tch.of_below {lo hi : Nat} {col : Col} {w w' : World} (h : Below w.heap.size w w') : Tch lo hi col col w w' :=
  ⟨h.os, h.tape, h.output, h.size, fun _ _ _ => rfl, fun _ _ h => h, fun i hi _ => h.block i hi, fun ht b hb => ht b (Nat.le_trans h.size hb), fun _ _ => .inr (.inr rfl)⟩
theorem Tch.of_grown {lo hi : Nat} {col : Col} {w w' : World} {row : Option Nat} (h : w.grownBy w' row) (hr : ∀ g, row = some g → g < w.heap.size → lo ≤ col g ∧ col g < hi) : Tch lo hi col col w w' :=
  ⟨h.os, h.tape, h.output, h.size, fun _ _ _ => rfl, fun _ _ h => h, fun i hi hn => h.block i hi (fun e => hn (hr i e.symm hi)), fun ht b hb => ht b (Nat.le_trans h.size hb), fun _ _ => .inr (.inr rfl)⟩
/-- The colours of a world: a new block is painted. -/
def paint (col : Col) (g r : Nat) : Col := fun b => if b = g then r else col b
theorem paint_self (col : Col) (g r : Nat) : paint col g r g = r := by simp [paint]
theorem paint_other {col : Col} {g r b : Nat} (h : b ≠ g) : paint col g r b = col b := by simp [paint, h]
theorem Tch.paint {lo hi : Nat} {a b : Col} {u v : World} (h : Tch lo hi a b u v) {g r : Nat} (hg : u.heap.size ≤ g) (hg2 : g < v.heap.size) (hr : r < 16 ∨ (lo ≤ r ∧ r < hi)) : Tch lo hi a (Mem.paint b g r) u v :=
  ⟨h.os, h.tape, h.output, h.size, fun i hi hn => by rw [paint_other (by omega)]; exact h.hue i hi hn, fun i hi hn => by rw [paint_other (by omega)]; exact h.stay i hi hn, h.block, fun ht i hi => by rw [paint_other (by omega)]; exact h.tidy ht i hi, fun i hi => by
    by_cases e : i = g
    · subst e; rw [paint_self]; rcases hr with e | e; exact .inl e; exact .inr (.inl e)
    · rw [paint_other e]; exact h.neu i hi⟩
/-- A block of a touched colour is painted anew, in a touched colour. -/
theorem Tch.repaint {lo hi : Nat} {a b : Col} {u v : World} (h : Tch lo hi a b u v) {g r : Nat} (hg : lo ≤ b g ∧ b g < hi) (hr : lo ≤ r ∧ r < hi) (hg2 : g < v.heap.size) : Tch lo hi a (Mem.paint b g r) u v :=
  ⟨h.os, h.tape, h.output, h.size, fun i hi hn => by
    by_cases e : i = g
    · subst e; exact absurd (by rw [← h.hue i hi hn]; exact hg) hn
    · rw [paint_other e]; exact h.hue i hi hn, fun i hi hn => by
    by_cases e : i = g
    · subst e; rw [paint_self]; exact hr
    · rw [paint_other e]; exact h.stay i hi hn, h.block, fun ht i hi => by rw [paint_other (by omega)]; exact h.tidy ht i hi, fun i hi => by
    by_cases e : i = g
    · subst e; rw [paint_self]; exact .inr (.inl hr)
    · rw [paint_other e]; exact h.neu i hi⟩
theorem Tch.drew {lo hi : Nat} {a b : Col} {u v : World} (h : Tch lo hi a b u v) : Tch lo hi a b u v.drew := ⟨h.os, h.tape, h.output, h.size, h.hue, h.stay, h.block, h.tidy, h.neu⟩
theorem Tch.drewN {lo hi : Nat} {a b : Col} {u v : World} (h : Tch lo hi a b u v) (n : Nat) : Tch lo hi a b u (v.drewN n) := ⟨h.os, h.tape, h.output, h.size, h.hue, h.stay, h.block, h.tidy, h.neu⟩
theorem Tch.alloc {lo hi : Nat} {a b : Col} {u v : World} (h : Tch lo hi a b u v) (o : Obj) : Tch lo hi a b u (v.alloc o) :=
  h.trans (Tch.of_below ((Below.refl _ v).alloc (Nat.le_refl _) o))
theorem Tch.setCell {lo hi : Nat} {a b : Col} {u v : World} (h : Tch lo hi a b u v) {p : Addr} (hp : lo ≤ b p.block ∧ b p.block < hi) (x : Value) : Tch lo hi a b u (v.setCell p x) :=
  h.trans (Tch.of_grown (only_setCell (World.grownBy.refl v (some p.block)) (p := p) (.inl rfl) x) (fun g e _ => by injection e with e; subst e; exact hp))
theorem Tch.below {lo hi : Nat} {a b : Col} {u v : World} (h : Tch lo hi a b u v) {B : Nat} (hB : B ≤ u.heap.size) (hc : ∀ i, i < B → ¬ (lo ≤ a i ∧ a i < hi)) : Below B u v :=
  ⟨h.os, h.tape, h.output, h.size, fun i hi => h.block i (Nat.lt_of_lt_of_le hi hB) (hc i hi)⟩
/-- A block that stays as it was. -/
theorem Tch.keep {lo hi : Nat} {a b : Col} {u v : World} (h : Tch lo hi a b u v) {g : Nat} {o : Obj} (hg : u.heap[g]? = some o) (hr : ¬ (lo ≤ a g ∧ a g < hi)) : v.heap[g]? = some o ∧ b g = a g := by
  have hlt : g < u.heap.size := (Array.getElem?_eq_some_iff.1 hg).1
  exact ⟨(h.block g hlt hr).trans hg, h.hue g hlt hr⟩

/-! ### rows of one colour -/
structure Row (w : World) (col : Col) (B r : Nat) (e : TypeId) (size : Nat) (v : Value) (n : Nat) (xs : List Value) : Prop where
  own : w.ownsRow B e size v n xs
  c : ∀ g, v.ownBlock = some g → col g = r
theorem Row.nil (w : World) (col : Col) (B r : Nat) (e : TypeId) (size : Nat) : Row w col B r e size (.slice none 0 0) 0 [] := ⟨World.ownsRow_nil _ _ _ _, fun g h => by cases h⟩
theorem Row.keep {w w' : World} {a b : Col} {B r size n lo hi : Nat} {e : TypeId} {v : Value} {xs : List Value} (h : Row w a B r e size v n xs) (ht : Tch lo hi a b w w') (hr : ¬ (lo ≤ r ∧ r < hi)) : Row w' b B r e size v n xs := by
  obtain ⟨⟨h1, h2⟩, hc⟩ := h
  rcases h2 with ⟨rfl, h2⟩ | ⟨g, cap, cur, rfl, hB, hg, h3⟩
  · exact ⟨⟨h1, .inl ⟨rfl, h2⟩⟩, fun g h => by cases h⟩
  · have e1 : a g = r := hc g rfl
    obtain ⟨k1, k2⟩ := ht.keep hg (by rw [e1]; exact hr)
    exact ⟨⟨h1, .inr ⟨g, cap, cur, rfl, hB, k1, h3⟩⟩, fun g' e2 => by injection e2 with e2; subst e2; rw [k2]; exact e1⟩
theorem Row.recol {w : World} {a b : Col} {B r size n : Nat} {e : TypeId} {v : Value} {xs : List Value} (h : Row w a B r e size v n xs) (hc : ∀ g, g < w.heap.size → b g = a g) : Row w b B r e size v n xs := by
  refine ⟨h.own, fun g hg => ?_⟩
  rw [hc g (h.own.lt g hg).2]
  exact h.c g hg
/-- A block's part. -/
structure Bk (w : World) (col : Col) (B r g : Nat) (t : TypeId) (cs : Array Value) : Prop where
  blk : Blk w g t cs
  c : col g = r
  b : B ≤ g
theorem Bk.keep {w w' : World} {a b : Col} {B r g lo hi : Nat} {t : TypeId} {cs : Array Value} (h : Bk w a B r g t cs) (ht : Tch lo hi a b w w') (hr : ¬ (lo ≤ r ∧ r < hi)) : Bk w' b B r g t cs := by
  obtain ⟨k1, k2⟩ := ht.keep h.blk (by rw [h.c]; exact hr)
  exact ⟨k1, k2.trans h.c, h.b⟩

theorem Bk.set {w : World} {a : Col} {B r g : Nat} {t : TypeId} {cs : Array Value} (h : Bk w a B r g t cs) (i : Nat) (u : Value) : Bk (w.setCell ⟨g, i, none⟩ u) a B r g t (cs.setIfInBounds i u) := ⟨h.blk.set_ i u, h.c, h.b⟩
/-! ### append, with the word on where the row lies then -/
theorem run_append_where (P : Program) (w : World) (base : Nat) (t ty e : TypeId) (i : TypeInfo) (z : Value) (size bytes : Nat) (ht : P.underlying t = some (.slice e)) (hi : P.info? e = some i) (hz : i.zero = some z)
    (hsize : i.size = size) (hby : i.bytes = bytes) (hzs : z.cells.size = size) (hsz : 0 < size)
    (v : Value) (n : Nat) (xs : List Value) (hown : w.ownsRow base e size v n xs)
    (a : Addr) (m c : Nat) (news : List Value) (hl : news.length = m * size) (hnews : ∀ j u, news[j]? = some u → w.cell? (a.add j) = some u) (h1 : ∀ u ∈ news, u.oneCell' = true)
    (h63 : n + m ≤ maxLen) (hbytes : (n + m) * bytes ≤ 140737488355328) (hbase : base ≤ w.heap.size) :
    ∃ v' w', (Builtin.append_ #[t, t] ty #[v, .slice (some a) m c]).run P w = .ok v' w' ∧ w'.ownsRow base e size v' (n + m) (xs ++ news) ∧ w.grownBy w' v.ownBlock ∧
      (v'.ownBlock = v.ownBlock ∨ v'.ownBlock = some w.heap.size) := by
  obtain ⟨v', w', hr, h2, h3, h4⟩ := run_append_own (P := P) w base t ty e i z size bytes ht hi hz hsize hby hzs hsz v n xs hown a m c news hl hnews h1 h63 hbytes hbase
  refine ⟨v', w', hr, h2, h3, ?_⟩
  subst hsize hby
  have hsmall : n + m ≤ 9223372036854775807 := by simp only [maxLen] at h63; omega
  rcases hown.2 with ⟨rfl, rfl⟩ | ⟨g, cap, cur, rfl, hbg, hg, hnc, hcm, hcs, htake⟩
  · have hx : xs = [] := List.eq_nil_of_length_eq_zero (by simpa using hown.1)
    subst hx
    by_cases hm : m = 0
    · left
      rw [h4.2 ⟨rfl, hm⟩]
    · right
      have hq := run_append_nil (P := P) w t ty e i z ht hi hz a m c news hl hnews (by omega) (by omega) (by have hb := hbytes; simp only [Nat.zero_add] at hb; omega)
      rw [hr] at hq
      injection hq with hq _
      rw [hq]; rfl
  · by_cases hroom : n + m ≤ cap
    · left
      have hfit : n * i.size + news.length ≤ cur.size := by rw [hl, hcs, ← Nat.add_mul]; exact Nat.mul_le_mul_right _ hroom
      have hq := run_append_room (P := P) w t ty e i ht hi g n cap cur hg a m c news hl hnews h1 hroom hfit
      rw [hr] at hq
      injection hq with hq _
      rw [hq]; rfl
    · right
      have holds : ∀ j u, xs[j]? = some u → w.cell? ((⟨g, 0, none⟩ : Addr).add j) = some u := hown.cells (g := g) rfl
      have hq := run_append_grow (P := P) w t ty e i z ht hi hz ⟨g, 0, none⟩ n cap xs hown.1 holds a m c news hl hnews (by omega) (by omega) (growslice_fits (by omega) hbytes)
      rw [hr] at hq
      injection hq with hq _
      rw [hq]; rfl
/-- A row of a colour is appended to: the row has that colour still, in colours that paint what is new. -/
theorem app_row {P : Program} (w : World) {ops : Array Oper} {rest : List Oper} {o : Oper} {a : Act} {Q : Exit → Act → World → Prop} (T E : TypeId) (z : Value) (size bytes : Nat)
    (ht : P.underlying T = some (.slice E)) (hinf : (P.info? E).map (fun i => (i.zero, i.size, i.bytes)) = some (some z, size, bytes)) (hzs : z.cells.size = size) (hsz : 0 < size)
    (hgd : o.guard = none) (s x : Operand) (ho : o.op = .call { callee := .builtin .append, args := #[s, x], argTypes := #[T, T] })
    (col : Col) (B r lo hi : Nat) (v : Value) (n : Nat) (xs : List Value) (hs : a.eval s = v) (hrow : Row w col B r E size v n xs) (hr : lo ≤ r ∧ r < hi)
    (A : Option Addr) (m c : Nat) (news : List Value) (hx : a.eval x = .slice A m c) (hA : A = none → m = 0 ∧ c = 0) (hb : RowAt w A (m * size) news) (h1 : ∀ u ∈ news, u.oneCell' = true)
    (h63 : n + m ≤ maxLen) (hbd : (n + m) * bytes ≤ 140737488355328) (hbase : B ≤ w.heap.size)
    (h : ∀ v' w' col', Row w' col' B r E size v' (n + m) (xs ++ news) → Tch lo hi col col' w w' → (∀ g, v.ownBlock ≠ some g → g ≠ w.heap.size → col' g = col g) → wpList P ops Q rest (a.put o.dst v') w') : wpList P ops Q (o :: rest) a w := by
  obtain ⟨i0, hi0, hz0, hz1, hz2⟩ := info_parts hinf
  have hgr : ∀ g, v.ownBlock = some g → g < w.heap.size → lo ≤ col g ∧ col g < hi := fun g e _ => by rw [hrow.c g e]; exact hr
  cases A with
  | none =>
    obtain ⟨rfl, rfl⟩ := hA rfl
    have e : news = [] := List.eq_nil_of_length_eq_zero (by rw [hb.len]; omega)
    subst e
    refine wpList_append_own_none hgd s x T ho B E i0 size ht hi0 v n xs hs hrow.own hx (h v w col ?_ (Tch.refl _ _ _ _) (fun _ _ _ => rfl))
    simpa using hrow
  | some ad =>
    refine wpList_plain hgd fun K hK => ?_
    have hn : ∀ j u, news[j]? = some u → w.cell? (ad.add j) = some u := fun j u hu => by
      obtain ⟨a', e', hc⟩ := hb.2 (by have := (List.getElem?_eq_some_iff.1 hu).1; have := hb.len; omega)
      obtain rfl : ad = a' := by simpa using e'
      exact hc j u hu
    obtain ⟨v', w', hr', h2, h3, h4⟩ := run_append_where P w B T o.type E i0 z size bytes ht hi0 hz0 hz1 hz2 hzs hsz v n xs hrow.own ad m c news hb.len hn h1 h63 hbd hbase
    unfold Oper.wp execOp
    simp only [ho, resolve, invoke, builtin, Sem.run_bind, Sem.run_pure, Result.andThen_ok, List.map_toArray, List.map_cons, List.map_nil, hs, hx, hr']
    refine hK _ _ ?_
    rcases h4 with h4 | h4
    · exact h v' w' col ⟨h2, fun g e => hrow.c g (by rw [← h4]; exact e)⟩ (Tch.of_grown h3 hgr) (fun _ _ _ => rfl)
    · refine h v' w' (paint col w.heap.size r) ⟨h2, fun g e => ?_⟩ ((Tch.of_grown h3 hgr).paint (Nat.le_refl _) (h2.lt _ h4).2 (.inr hr)) (fun g _ hg => paint_other hg)
      rw [h4] at e
      injection e with e
      rw [← e, paint_self]
end Go.Proofs.Ytifamhmiibhohaa.Mem
