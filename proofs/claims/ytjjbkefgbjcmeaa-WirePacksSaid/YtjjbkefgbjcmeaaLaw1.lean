/-
  THE WALKS of layer 1's law: lent, marked; the reference's Copied.
-/
import Derived.Test.YtjjbkefgbjcmeaaA
namespace Go.Proofs.Ytjjbkefgbjcmeaa.Wire
open Go.RowKit
set_option maxHeartbeats 8000000
set_option maxRecDepth 100000
set_option linter.unusedVariables false
set_option linter.unusedSimpArgs false

theorem copied_any (A : Option Addr) (n cap : Nat) (bs : List UInt8) (w : World) (hc : n ≤ 140737488351232) (hA : A = none → n = 0 ∧ cap = 0) (hb : BytesAt w A n bs) :
    Calls Try.prog 17 #[.slice A n cap] w fun e w' => ∃ v, e = .returned v ∧ w'.ownsRow w.heap.size 5 1 v n (bvl bs) ∧ Below w.heap.size w w' := by
  have HB := Lib.hid hb
  have HA := Lib.hid hA
  clear hb hA
  go_enter Try.func17, Try.ntmps17
  go_wp2_with (at_builtin; refine app_u8 _ rfl _ _ rfl w.heap.size (.slice none 0 0) 0 [] rfl (World.ownsRow_nil _ _ _ _) A n cap bs rfl HA.out HB.out (by omega) (Nat.le_refl _) ?_; intro v' w' hown hg)
  go_ret
  refine ⟨_, rfl, by simpa using hown, below_of_only hg (fun g e => by cases e)⟩

theorem lent_any (A : Option Addr) (n cap : Nat) (bs : List UInt8) (w : World) (hn : n ≤ 140737488351232) (hA : A = none → n = 0 ∧ cap = 0) (hb : BytesAt w A n bs) :
    Calls Try.prog 12 #[.slice A n cap] w fun e w' => ∃ g c, e = .returned (.slice (some ⟨g, 0, none⟩) n c) ∧ w'.ownsRow w.heap.size 5 1 (.slice (some ⟨g, 0, none⟩) (n + 2) c) (n + 2) (bvl (bs ++ [201, 202])) ∧ Below w.heap.size w w' := by
  have hbl := hb.len
  have HB := Lib.hid (hb.alloc (.cells #[] 5))
  have HA := Lib.hid hA
  have hlit : (w.alloc (.cells #[] 5)).ownsRow w.heap.size 5 1 (.slice (some ⟨w.heap.size, 0, none⟩) 0 0) 0 [] := World.ownsRow_lit w #[] 0 (Nat.le_refl _) (by unfold maxLen; omega) rfl
  have HLIT := Lib.hid hlit
  have HBL := Lib.hid hbl
  clear hb hA hlit hbl
  go_enter Try.func12, Try.ntmps12
  go_wp2_with (first
    | (at_builtin
       refine app_u8 _ rfl (.tmp 4) (.tmp 5) rfl w.heap.size (.slice (some ⟨w.heap.size, 0, none⟩) 0 0) 0 [] rfl HLIT.out A n cap bs rfl HA.out HB.out (by omega) (by simp) ?_
       intro v' w' hown hg
       rw [Nat.zero_add, List.nil_append] at hown
       have hlt : w.heap.size < w'.heap.size := Nat.lt_of_lt_of_le (by simp) hg.size
       have hb1 : Below w.heap.size w w' := below_only ((Below.refl _ w).alloc (Nat.le_refl _) (.cells #[] 5)) hg (fun g e => by
         have e1 : w.heap.size = g := by simpa [Value.ownBlock] using e
         omega)
       have hm : BytesAt (w'.alloc (.cells #[.int .u8 201, .int .u8 202] 5)) (some ⟨w'.heap.size, 0, none⟩) 2 [201, 202] :=
         BytesAt.of_own (base := 0) (e := 5) (c := 2) (World.ownsRow_lit w' #[.int .u8 201, .int .u8 202] 2 (Nat.zero_le _) (by unfold maxLen; omega) rfl)
       have HM := Lib.hid hm
       have HO := Lib.hid (hown.alloc (.cells #[.int .u8 201, .int .u8 202] 5))
       have HB1 := Lib.hid (hb1.alloc hb1.size (.cells #[.int .u8 201, .int .u8 202] 5))
       clear hm hown hg hb1)
    | (at_builtin
       refine app_u8 _ rfl (.tmp 7) (.tmp 8) rfl w.heap.size v' n (bvl bs) rfl HO.out (some ⟨w'.heap.size, 0, none⟩) 2 2 [201, 202] rfl (fun e => by cases e) HM.out (by omega) (by simp; omega) ?_
       intro v2 w2 hown2 hg2
       obtain ⟨g, c, cs, rfl, hg0, hblk, hc1, hc2, hc3⟩ := own_form hown2 (by omega)
       have h64 : c ≤ 9223372036854775807 := by unfold maxLen at hc2; omega
       have hcn : ¬ c = 0 := by omega
       have HO2 := Lib.hid hown2
       have HB2 := Lib.hid (below_own HO.out HB1.out (Nat.le_refl _) hg2)
       have hnc : (n : Int) ≤ (c : Int) := by omega
       clear hown2 hg2 hblk hc3 hc2))
  go_ret
  refine ⟨g, c, rfl, ?_, HB2.out⟩
  have := HO2.out
  rw [bvl, List.map_append]
  exact this

theorem marked_any (base g c n : Nat) (bs : List UInt8) (w : World) (hbl : bs.length = n)
    (hown : w.ownsRow base 5 1 (.slice (some ⟨g, 0, none⟩) (n + 2) c) (n + 2) (bvl (bs ++ [201, 202]))) :
    Calls Try.prog 16 #[.slice (some ⟨g, 0, none⟩) n c] w fun e w' => e = .returned (.bool true) ∧ w = w' := by
  obtain ⟨cs, hb0, hblk, hc1, hc2, hc3⟩ := own_blk hown
  have h64 : c ≤ 9223372036854775807 := by unfold maxLen at hc2; omega
  have k0 : w.cell? ⟨g, n, none⟩ = some (.int .u8 201) := by
    rw [hown.cellAt n (by omega), bvl_get, List.getElem?_append_right (by omega), hbl, Nat.sub_self]; rfl
  have k1 : w.cell? ⟨g, n + 1, none⟩ = some (.int .u8 202) := by
    rw [hown.cellAt (n + 1) (by omega), bvl_get, List.getElem?_append_right (by omega), hbl, show n + 1 - n = 1 by omega]; rfl
  have i1 : IntKind.i64.wrap ((n : Int) + 2) = (n : Int) + 2 := by rw [IntKind.wrap_i64]; omega
  have i2 : IntKind.i64.wrap ((n : Int) + 1) = (n : Int) + 1 := by rw [IntKind.wrap_i64]; omega
  have hcn : ¬ c = 0 := by omega
  have hnc : (n : Int) + 2 ≤ (c : Int) := by omega
  have t1 : ((n : Int) + 2).toNat = n + 2 := by omega
  have t2 : ((n : Int) + 1).toNat = n + 1 := by omega
  clear hown hblk hc2 hc3
  go_enter Try.func16, Try.ntmps16
  go_wp2_with fail
  go_ret
  exact ⟨rfl, rfl⟩
end Go.Proofs.Ytjjbkefgbjcmeaa.Wire
