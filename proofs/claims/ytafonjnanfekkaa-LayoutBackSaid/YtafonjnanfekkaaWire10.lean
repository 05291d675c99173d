
/-
  THE WALKS of layer 1 (wire), the program's, tenth part: Unpack, whole.
-/
import Derived.Test.YtafonjnanfekkaaWire9
import Derived.Test.YtafonjnanfekkaaLNumbers
namespace Go.Proofs.Ytafonjnanfekkaa.Wire
open Go.RowKit
set_option maxHeartbeats 16000000
set_option maxRecDepth 100000
set_option linter.unusedVariables false
set_option linter.unusedSimpArgs false

theorem enter_unpack (caps : Array Value) (w : World) : (callFunc 55 caps).run Try.prog w = .ok (.enter 55 caps) w := by simp [go_sem]
theorem unpack_of (A0 A1 : Option Addr) (n c0 len c1 : Nat) (c : Int) (v : Value) (w : World) (R : World → World → Prop)
    (h : ∀ W, ((w.alloc (.cells #[.slice A1 len c1] 26)).alloc (.cells #[.slice A0 n c0] 23)).alloc (.cells #[.slice none 0 0] 22) = W →
      Calls Try.prog 51 #[.func (.func 55) #[] #[.pointer (some ⟨w.heap.size + 1, 0, none⟩), .pointer (some ⟨w.heap.size, 0, none⟩), .pointer (some ⟨w.heap.size + 1 + 1, 0, none⟩)]] W
        fun e w' => e = .returned (.int .i64 c) ∧ R W w' ∧ w'.cell? ⟨w.heap.size + 1 + 1, 0, none⟩ = some v) :
    Calls Try.prog 17 #[.slice A1 len c1, .slice A0 n c0] w fun e w' => e = .returned (.tuple #[v, .int .i64 c]) ∧ ∃ W, ((w.alloc (.cells #[.slice A1 len c1] 26)).alloc (.cells #[.slice A0 n c0] 23)).alloc (.cells #[.slice none 0 0] 22) = W ∧ R W w' := by
  have hmf : ∀ (fn : Fn) (first cap : Array Value) (w : World), (Instr.makeFunc fn first cap).run Try.prog w = .ok (.func fn first cap) w := fun _ _ _ _ => rfl
  have H := Lib.hid (h _ rfl)
  clear h
  go_enter Try.func17, Try.ntmps17
  go_wp2_with fail
  refine H.out.mono ?_
  rintro e w1 ⟨rfl, hr, hc⟩
  have HR := Lib.hid hr
  clear hr
  go_wp2_with fail
  go_ret2
  exact ⟨rfl, _, rfl, HR.out⟩

theorem unpack_fin (A0 A1 : Option Addr) (n c0 len c1 : Nat) (c : Int) (w : World) (R : Value → World → Prop)
    (h : ∀ W, ((w.alloc (.cells #[.slice A1 len c1] 26)).alloc (.cells #[.slice A0 n c0] 23)).alloc (.cells #[.slice none 0 0] 22) = W →
      Calls Try.prog 51 #[.func (.func 55) #[] #[.pointer (some ⟨w.heap.size + 1, 0, none⟩), .pointer (some ⟨w.heap.size, 0, none⟩), .pointer (some ⟨w.heap.size + 1 + 1, 0, none⟩)]] W
        fun e w' => e = .returned (.int .i64 c) ∧ ∃ v, R v w' ∧ w'.cell? ⟨w.heap.size + 1 + 1, 0, none⟩ = some v) :
    Calls Try.prog 17 #[.slice A1 len c1, .slice A0 n c0] w fun e w' => ∃ v, e = .returned (.tuple #[v, .int .i64 c]) ∧ R v w' := by
  have hmf : ∀ (fn : Fn) (first cap : Array Value) (w : World), (Instr.makeFunc fn first cap).run Try.prog w = .ok (.func fn first cap) w := fun _ _ _ _ => rfl
  have H := Lib.hid (h _ rfl)
  clear h
  go_enter Try.func17, Try.ntmps17
  go_wp2_with fail
  refine H.out.mono ?_
  rintro e w1 ⟨rfl, v, hr, hc⟩
  have HR := Lib.hid hr
  clear hr
  go_wp2_with fail
  go_ret2
  exact ⟨v, rfl, HR.out⟩

theorem unpack_gives (A0 A1 : Option Addr) (n c0 len c1 : Nat) (c : Int) (w : World)
    (h : ∀ W, ((w.alloc (.cells #[.slice A1 len c1] 26)).alloc (.cells #[.slice A0 n c0] 23)).alloc (.cells #[.slice none 0 0] 22) = W →
      Calls Try.prog 55 #[.pointer (some ⟨w.heap.size + 1, 0, none⟩), .pointer (some ⟨w.heap.size, 0, none⟩), .pointer (some ⟨w.heap.size + 1 + 1, 0, none⟩)] (W.alloc (.cells #[.int .i64 0] 27))
        fun e w' => e = .panicked [{ v := wrong c, recovered := false }] ∧ ∃ n, w' = (W.alloc (.cells #[.int .i64 0] 27)).drewN n) :
    Calls Try.prog 17 #[.slice A1 len c1, .slice A0 n c0] w fun e w' => e = .returned (.tuple #[.slice none 0 0, .int .i64 c]) ∧ Below w.heap.size w w' := by
  refine (unpack_of A0 A1 n c0 len c1 c (.slice none 0 0) w (fun W w' => Below w.heap.size w w') (fun W hW => ?_)).mono ?_
  · obtain ⟨b0, b1, b2, hbel, hsz⟩ := boxes3 w _ _ _ _ _ _ W hW
    refine (try_gives 55 _ W (fun w' => ∃ n, w' = (W.alloc (.cells #[.int .i64 0] 27)).drewN n) c (enter_unpack _) (h W hW) (fun w' h => by obtain ⟨n, rfl⟩ := h; exact (Blk.new W _ _).drewN n)).mono ?_
    rintro e w' ⟨he, w1, ⟨q, rfl⟩, hg⟩
    have hb1 : Below w.heap.size w ((W.alloc (.cells #[.int .i64 0] 27)).drewN q) := below_drewN (hbel.alloc hbel.size _) q
    refine ⟨he, below_only hb1 hg (fun g hg => by injection hg with hg; omega), ?_⟩
    exact blk_cell0 (((b2.alloc (.cells #[.int .i64 0] 27)).drewN q).grown hg (by simp; omega))
  · rintro e w' ⟨he, W, hW, hb⟩
    exact ⟨he, hb⟩

theorem unpack_any (A0 A1 : Option Addr) (n c0 len c1 : Nat) (ws : List Int) (bs : List UInt8) (w : World) (hn : n ≤ 17592186044415) (hl : len ≤ c1) (hc1 : c1 ≤ 9223372036854775807)
    (hr : RowAt w A0 n (ints ws)) (hb : BytesAt w A1 len bs) :
    Calls Try.prog 17 #[.slice A1 len c1, .slice A0 n c0] w fun e w' => ∃ v, e = .returned (.tuple #[v, .int .i64 (unpackE bs ws)]) ∧ Below w.heap.size w w' ∧
      w'.ownsRow w.heap.size 84 1 v (unpackX bs ws).length (nums (unpackX bs ws)) := by
  have hlw : ws.length = n := by have := hr.len; simpa [ints] using this
  have hbl := hb.len
  have hrb : ∀ a, A0 = some a → 0 < n → a.block < w.heap.size := fun a e h => by subst e; exact hr.lt h
  have hbb : ∀ a, A1 = some a → 0 < len → a.block < w.heap.size := fun a e h => by subst e; exact hb.lt h
  cases hm : umay bs ws
  · have hE : unpackE bs ws = 22 := by simp [unpackE, hm]
    have hX : unpackX bs ws = [] := by simp [unpackX, hm]
    rw [hE, hX]
    refine (unpack_gives A0 A1 n c0 len c1 22 w (fun W hW => ?_)).mono fun e w' ⟨he, hbel⟩ => ⟨.slice none 0 0, he, hbel, World.ownsRow_nil _ _ _ _⟩
    obtain ⟨b0, b1, b2, hbel, hsz⟩ := boxes3 w _ _ _ _ _ _ W hW
    have k0 := blk_cell0 (b0.alloc (.cells #[.int .i64 0] 27))
    have k1 := blk_cell0 (b1.alloc (.cells #[.int .i64 0] 27))
    have hrW := (hr.below hbel).alloc (.cells #[.int .i64 0] 27)
    cases hw : wok ws
    · exact unpack1_bad _ _ _ A0 A1 n c0 len c1 ws _ (by omega) hrW hw k1 k0
    · refine unpack1_size _ _ _ A0 A1 n c0 len c1 ws _ (by omega) hrW hw ?_ k1 k0
      simp [umay, hw] at hm
      rw [hbl] at hm
      exact hm
  · have hE : unpackE bs ws = 0 := by simp [unpackE, hm]
    have hX : unpackX bs ws = unpacks bs ws := by simp [unpackX, hm]
    simp only [umay, Bool.and_eq_true, decide_eq_true_eq] at hm
    obtain ⟨hw, hs⟩ := hm
    rw [hbl] at hs
    rw [hE, hX, unpacks_length, hlw]
    have key : ∀ W, ((w.alloc (.cells #[.slice A1 len c1] 26)).alloc (.cells #[.slice A0 n c0] 23)).alloc (.cells #[.slice none 0 0] 22) = W → Calls Try.prog 51 #[.func (.func 55) #[] #[.pointer (some ⟨w.heap.size + 1, 0, none⟩), .pointer (some ⟨w.heap.size, 0, none⟩), .pointer (some ⟨w.heap.size + 1 + 1, 0, none⟩)]] W
        fun e w' => e = .returned (.int .i64 0) ∧ ∃ v, Below w.heap.size w w' ∧ w'.ownsRow w.heap.size 84 1 v n (nums (unpacks bs ws)) ∧ w'.cell? ⟨w.heap.size + 1 + 1, 0, none⟩ = some v := by
      intro W hW
      obtain ⟨b0, b1, b2, hbel, hsz⟩ := boxes3 w _ _ _ _ _ _ W hW
      have hcl := unpack1_ok (w.heap.size + 1) w.heap.size (w.heap.size + 1 + 1) w.heap.size A0 A1 n c0 len c1 ws bs (W.alloc (.cells #[.int .i64 0] 27)) hn hl hc1 ⟨by omega, by omega, by omega⟩
        ((hr.below hbel).alloc _) hrb ((hb.below hbel).alloc _) hbb hw hs (blk_cell0 (b1.alloc _)) (b0.alloc _) (b2.alloc _)
      refine (try_ok 55 _ W _ (enter_unpack _) hcl (fun w' ⟨v, h1, h2, h3, h4⟩ => (h4 W.heap.size (by simp) (by omega) (by omega)).trans (Blk.new W _ _))).mono ?_
      rintro e w' ⟨he, w1, ⟨v, h1, h2, h3, h4⟩, hg⟩
      have hb1 : Below w.heap.size w w1 := (hbel.alloc hbel.size _).trans h3
      refine ⟨he, v, below_only hb1 hg (fun g hg => by injection hg with hg; omega), ?_, ?_⟩
      · have h2' : w'.ownsRow (W.alloc (.cells #[.int .i64 0] 27)).heap.size 84 1 v n (nums (unpacks bs ws)) := own_kept h2 hg (fun e => by
          have := (h2.lt W.heap.size e.symm).1
          simp at this; omega)
        refine ⟨h2'.1, h2'.2.imp id fun ⟨g, cap, cs, x1, x2, x3⟩ => ⟨g, cap, cs, x1, by simp at x2; omega, x3⟩⟩
      · exact blk_cell0 (h1.grown hg (by simp; omega))
    exact unpack_fin A0 A1 n c0 len c1 0 w (fun v w' => Below w.heap.size w w' ∧ w'.ownsRow w.heap.size 84 1 v n (nums (unpacks bs ws))) (fun W hW => (key W hW).mono fun e w' ⟨he, v, x1, x2, x3⟩ => ⟨he, v, ⟨x1, x2⟩, x3⟩)
end Go.Proofs.Ytafonjnanfekkaa.Wire
