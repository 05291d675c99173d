
/-
  THE WALKS of layer 1 (wire), the program's, eighth part: Pack, whole.
-/
import Derived.Test.YtafonjnanfekkaaWire7
namespace Go.Proofs.Ytafonjnanfekkaa.Wire
open Go.RowKit
set_option maxHeartbeats 16000000
set_option maxRecDepth 100000
set_option linter.unusedVariables false
set_option linter.unusedSimpArgs false

theorem pack_of (A0 A1 : Option Addr) (n0 c0 n1 c1 : Nat) (size c : Int) (v : Value) (w : World) (R : World → World → Prop)
    (h : ∀ W, (((w.alloc (.cells #[.slice A0 n0 c0] 22)).alloc (.cells #[.slice A1 n1 c1] 23)).alloc (.cells #[.int .i64 size] 3)).alloc (.cells #[.slice none 0 0] 26) = W →
      Calls Try.prog 51 #[.func (.func 52) #[] #[.pointer (some ⟨w.heap.size, 0, none⟩), .pointer (some ⟨w.heap.size + 1, 0, none⟩), .pointer (some ⟨w.heap.size + 1 + 1, 0, none⟩), .pointer (some ⟨w.heap.size + 1 + 1 + 1, 0, none⟩)]] W
        fun e w' => e = .returned (.int .i64 c) ∧ R W w' ∧ w'.cell? ⟨w.heap.size + 1 + 1 + 1, 0, none⟩ = some v) :
    Calls Try.prog 16 #[.slice A0 n0 c0, .slice A1 n1 c1, .int .i64 size] w fun e w' => e = .returned (.tuple #[v, .int .i64 c]) ∧ ∃ W, (((w.alloc (.cells #[.slice A0 n0 c0] 22)).alloc (.cells #[.slice A1 n1 c1] 23)).alloc (.cells #[.int .i64 size] 3)).alloc (.cells #[.slice none 0 0] 26) = W ∧ R W w' := by
  have hmf : ∀ (fn : Fn) (first cap : Array Value) (w : World), (Instr.makeFunc fn first cap).run Try.prog w = .ok (.func fn first cap) w := fun _ _ _ _ => rfl
  have H := Lib.hid (h _ rfl)
  clear h
  go_enter Try.func16, Try.ntmps16
  go_wp2_with fail
  refine H.out.mono ?_
  rintro e w1 ⟨rfl, hr, hc⟩
  have HR := Lib.hid hr
  clear hr
  go_wp2_with fail
  go_ret2
  exact ⟨rfl, _, rfl, HR.out⟩

/-- Where Pack's closure gives up, nothing is packed. -/
theorem pack_gives (A0 A1 : Option Addr) (n0 c0 n1 c1 : Nat) (size c : Int) (w : World)
    (h : ∀ W, (((w.alloc (.cells #[.slice A0 n0 c0] 22)).alloc (.cells #[.slice A1 n1 c1] 23)).alloc (.cells #[.int .i64 size] 3)).alloc (.cells #[.slice none 0 0] 26) = W →
      Calls Try.prog 52 #[.pointer (some ⟨w.heap.size, 0, none⟩), .pointer (some ⟨w.heap.size + 1, 0, none⟩), .pointer (some ⟨w.heap.size + 1 + 1, 0, none⟩), .pointer (some ⟨w.heap.size + 1 + 1 + 1, 0, none⟩)] (W.alloc (.cells #[.int .i64 0] 27))
        fun e w' => e = .panicked [{ v := wrong c, recovered := false }] ∧ (W.alloc (.cells #[.int .i64 0] 27)).grownBy w' none) :
    Calls Try.prog 16 #[.slice A0 n0 c0, .slice A1 n1 c1, .int .i64 size] w fun e w' => e = .returned (.tuple #[.slice none 0 0, .int .i64 c]) ∧ Below w.heap.size w w' := by
  refine (pack_of A0 A1 n0 c0 n1 c1 size c (.slice none 0 0) w (fun W w' => Below w.heap.size w w') (fun W hW => ?_)).mono ?_
  · obtain ⟨b0, b1, b2, b3, hbel, hsz⟩ := boxes w _ _ _ _ _ _ _ _ W hW
    refine (try_gives 52 _ W (fun w' => (W.alloc (.cells #[.int .i64 0] 27)).grownBy w' none) c (enter_pack _) (h W hW) (fun w' h => (Blk.new W _ _).grown h (by simp))).mono ?_
    rintro e w' ⟨he, w1, hg1, hg⟩
    have hb1 : Below w.heap.size w w1 := below_only (hbel.alloc hbel.size _) hg1 (fun g hg => by cases hg)
    refine ⟨he, below_only hb1 hg (fun g hg => by injection hg with hg; omega), ?_⟩
    exact blk_cell0 (((b3.alloc (.cells #[.int .i64 0] 27)).grown hg1 (by simp)).grown hg (by simp; omega))
  · rintro e w' ⟨he, W, hW, hb⟩
    exact ⟨he, hb⟩

theorem pack_any (A0 A1 : Option Addr) (n0 c0 n1 c1 : Nat) (l : List Nat) (ws : List Int) (size : Int) (w : World) (hn : n1 ≤ 1125899906842624) (h64 : ∀ x ∈ l, x < 18446744073709551616)
    (hl : RowAt w A0 n0 (nums l)) (hr : RowAt w A1 n1 (ints ws)) :
    Calls Try.prog 16 #[.slice A0 n0 c0, .slice A1 n1 c1, .int .i64 size] w fun e w' => ∃ v, e = .returned (.tuple #[v, .int .i64 (packE l ws size)]) ∧ Below w.heap.size w w' ∧
      w'.ownsRow w.heap.size 5 1 v (packB l ws size).length (bvl (packB l ws size)) := by
  have hll : l.length = n0 := by have := hl.len; simpa [nums] using this
  have hlw : ws.length = n1 := by have := hr.len; simpa [ints] using this
  have none_ : ∀ c, packE l ws size = c → packB l ws size = [] →
      Calls Try.prog 16 #[.slice A0 n0 c0, .slice A1 n1 c1, .int .i64 size] w (fun e w' => e = .returned (.tuple #[.slice none 0 0, .int .i64 c]) ∧ Below w.heap.size w w') →
      Calls Try.prog 16 #[.slice A0 n0 c0, .slice A1 n1 c1, .int .i64 size] w (fun e w' => ∃ v, e = .returned (.tuple #[v, .int .i64 (packE l ws size)]) ∧ Below w.heap.size w w' ∧ w'.ownsRow w.heap.size 5 1 v (packB l ws size).length (bvl (packB l ws size))) := by
    intro c hc hb h
    refine h.mono fun e w' ⟨he, hbel⟩ => ⟨.slice none 0 0, by rw [he, hc], hbel, ?_⟩
    rw [hb]
    exact World.ownsRow_nil _ _ _ _
  cases hm : pmay l ws size
  · have hE : packE l ws size = 22 := by simp [packE, hm]
    have hB : packB l ws size = [] := by simp [packB, hm]
    refine none_ 22 hE hB (pack_gives A0 A1 n0 c0 n1 c1 size 22 w (fun W hW => ?_))
    obtain ⟨b0, b1, b2, b3, hbel, hsz⟩ := boxes w _ _ _ _ _ _ _ _ W hW
    have fin : ∀ (e : Ending) (w' : World), (e = .panicked [{ v := wrong 22, recovered := false }] ∧ ∃ n, w' = (W.alloc (.cells #[.int .i64 0] 27)).drewN n) → (e = .panicked [{ v := wrong 22, recovered := false }] ∧ (W.alloc (.cells #[.int .i64 0] 27)).grownBy w' none) := by
      rintro e w' ⟨he, n, rfl⟩
      exact ⟨he, only_drewN (World.grownBy.refl _ _) n⟩
    have k0 := blk_cell0 (b0.alloc (.cells #[.int .i64 0] 27))
    have k1 := blk_cell0 (b1.alloc (.cells #[.int .i64 0] 27))
    have k2 := blk_cell0 (b2.alloc (.cells #[.int .i64 0] 27))
    by_cases hne : n0 = n1
    · subst hne
      have hrW := (hr.below hbel).alloc (.cells #[.int .i64 0] 27)
      cases hw : wok ws
      · exact (pack1_bad _ _ _ _ A0 A1 n0 c0 c1 size ws _ hn hrW hw k0 k1 k2).mono fin
      · refine (pack1_size _ _ _ _ A0 A1 n0 c0 c1 size ws _ hn hrW hw ?_ k0 k1 k2).mono fin
        simp [pmay, hw, hll, hlw] at hm
        omega
    · exact (pack1_len _ _ _ _ A0 A1 n0 c0 n1 c1 size _ hne k0 k1 k2).mono fin
  · have hm' := hm
    simp only [pmay, Bool.and_eq_true, decide_eq_true_eq] at hm'
    obtain ⟨m1, m2, m3, m4⟩ := hm'
    obtain rfl : n0 = n1 := by omega
    have hsum := wsum_le ws m2
    obtain ⟨N, rfl⟩ := Int.eq_ofNat_of_zero_le (by omega : 0 ≤ size)
    rcases first_big l ws m1 with hbig | ⟨j, x, z, j1, j2, j3, j4⟩
    · have hp := packs_some l ws m1 hbig
      have hE : packE l ws (N : Int) = 0 := by simp [packE, hm, hp]
      have hB : packB l ws (N : Int) = pre l ws l.length ++ List.replicate (N - (pre l ws l.length).length) 0 := by simp [packB, hm, hp]
      have hpl := pre_length l ws l.length m1 m2
      rw [m1, List.take_length, ← m1] at hpl
      have hBl : (packB l ws (N : Int)).length = N := by rw [hB]; simp; omega
      refine (pack_of A0 A1 n0 c0 n0 c1 (N : Int) 0 (.slice (some ⟨w.heap.size + 1 + 1 + 1 + 1 + 1, 0, none⟩) N N) w
        (fun W w' => Below w.heap.size w w' ∧ Blk w' (w.heap.size + 1 + 1 + 1 + 1 + 1) 5 (roomOf (pre l ws n0) N)) (fun W hW => ?_)).mono ?_
      · obtain ⟨b0, b1, b2, b3, hbel, hsz⟩ := boxes w _ _ _ _ _ _ _ _ W hW
        have hsz' : (W.alloc (.cells #[.int .i64 0] 27)).heap.size = w.heap.size + 1 + 1 + 1 + 1 + 1 := by simp [hsz]
        have k0 := blk_cell0 (b0.alloc (.cells #[.int .i64 0] 27))
        have k1 := blk_cell0 (b1.alloc (.cells #[.int .i64 0] 27))
        have k2 := blk_cell0 (b2.alloc (.cells #[.int .i64 0] 27))
        have b3' := b3.alloc (.cells #[.int .i64 0] 27)
        have hcl := pack1_ok _ _ _ _ A0 A1 n0 c0 c1 N l ws (.slice none 0 0) _ hn ((hl.below hbel).alloc (.cells #[.int .i64 0] 27)) ((hr.below hbel).alloc (.cells #[.int .i64 0] 27)) m2 m3 (by omega) hbig k0 k1 k2 (blk_cell0 b3') (b3'.frozen 0)
        rw [hsz'] at hcl
        refine (try_ok 52 _ W (fun w' => ∃ wr, w' = wr.setCell ⟨w.heap.size + 1 + 1 + 1, 0, none⟩ (.slice (some ⟨w.heap.size + 1 + 1 + 1 + 1 + 1, 0, none⟩) N N) ∧ Blk wr (w.heap.size + 1 + 1 + 1 + 1 + 1) 5 (roomOf (pre l ws n0) N) ∧ (W.alloc (.cells #[.int .i64 0] 27)).grownBy wr none)
          (enter_pack _) hcl (fun w' ⟨wr, h1, h2, h3⟩ => by rw [h1]; exact ((Blk.new W _ _).grown h3 (by simp)).far (by simp; omega) _)).mono ?_
        rintro e w' ⟨he, w1, ⟨wr, h1, h2, h3⟩, hg⟩
        have hb1 : Below w.heap.size w wr := below_only (hbel.alloc hbel.size _) h3 (fun g hg => by cases hg)
        subst h1
        refine ⟨he, ⟨below_only (hb1.setCell (by simp; omega) _) hg (fun g hg => by injection hg with hg; omega), ?_⟩, ?_⟩
        · exact (h2.far (by simp; omega) _).grown hg (by simp; omega)
        · exact (((b3'.grown h3 (by simp)).set_ 0 _).grown hg (by simp; omega)).cell 0
      · rintro e w' ⟨he, W, hW, hb, hk⟩
        refine ⟨_, by rw [he, hE], hb, ?_⟩
        rw [hBl]
        refine ⟨by rw [bvl_length, hBl]; omega, .inr ⟨_, N, _, rfl, by omega, hk, Nat.le_refl _, by unfold maxLen; omega, by rw [roomOf_size (by rw [← hll]; omega)]; omega, ?_⟩⟩
        rw [← hll, hB, roomOf]
        simp only [Nat.mul_one]
        exact List.take_of_length_le (by rw [bvl_length, List.length_append, List.length_replicate]; omega)
    · have hp := packs_none l ws j x z j1 j2 j3
      have hE : packE l ws (N : Int) = 34 := by simp [packE, hm, hp]
      have hB : packB l ws (N : Int) = [] := by simp [packB, hm, hp]
      refine none_ 34 hE hB (pack_gives A0 A1 n0 c0 n0 c1 (N : Int) 34 w (fun W hW => ?_))
      obtain ⟨b0, b1, b2, b3, hbel, hsz⟩ := boxes w _ _ _ _ _ _ _ _ W hW
      have k0 := blk_cell0 (b0.alloc (.cells #[.int .i64 0] 27))
      have k1 := blk_cell0 (b1.alloc (.cells #[.int .i64 0] 27))
      have k2 := blk_cell0 (b2.alloc (.cells #[.int .i64 0] 27))
      have b3' := b3.alloc (.cells #[.int .i64 0] 27)
      exact pack1_over _ _ _ _ A0 A1 n0 c0 c1 N l ws (.slice none 0 0) _ hn ((hl.below hbel).alloc (.cells #[.int .i64 0] 27)) ((hr.below hbel).alloc (.cells #[.int .i64 0] 27)) m2 m3 (by omega) j x z j1 j2 j3 h64 j4 k0 k1 k2 (blk_cell0 b3') (b3'.frozen 0)
end Go.Proofs.Ytafonjnanfekkaa.Wire
