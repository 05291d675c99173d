
/-
  THE WALKS of layer 1 (wire), the program's, second part: try; Get, Put, Seal, Sealed.
-/
import Derived.Test.YtafonjnanfekkaaWire1
import Derived.Defers
import Derived.Recover
import Derived.Laws.Pointers
namespace Go.Proofs.Ytafonjnanfekkaa.Wire
open Go.RowKit
set_option maxHeartbeats 8000000
set_option maxRecDepth 100000
set_option linter.unusedVariables false
set_option linter.unusedSimpArgs false

theorem assert_wrong (c : Int) (w : World) : (Instr.typeAssert (.iface 91 (.agg #[.int .i64 c])) 20 91 true).run Try.prog w = .ok (.tuple #[.agg #[.int .i64 c], .bool true]) w := by kernel_rfl

theorem catch_panic (p : Addr) (c x : Int) (older : List PanicEntry) (w : World) (hc : w.cell? p = some (.int .i64 x)) (hz : w.frozen? p = false) :
    CallsD Try.prog 93 #[.pointer (some p)] (.panicking ({ v := wrong c, recovered := false } :: older)) w fun e u' w' =>
      e = .returned (.tuple #[]) ∧ u' = .panicking ({ v := wrong c, recovered := true } :: older) ∧ w' = (w.alloc (.cells #[.int .i64 c] 91)).setCell p (.int .i64 c) := by
  have hlt := World.block_lt_of_cell? w _ hc
  have hta := assert_wrong c
  refine callsD_of_wpS Try.func93 rfl fun c₀ cs hu => ?_
  simp only [Try.ntmps93, List.size_toArray, List.length_cons, List.length_nil, Nat.reduceAdd, Nat.reduceSub, Array.replicate_succ, Array.replicate_zero, List.push_toArray, List.append_toArray, List.nil_append, List.cons_append]
  apply wpS_seq
  apply wpS_region
  simp [wpOpsS, go_sem, recoverD, hu, Exit.thenS, wrong]
  refine wpS_of_wp ?_
  have hz2 : (w.alloc (.cells #[.int .i64 c] 91)).frozen? p = false := by rw [World.frozen?_alloc_old _ _ _ (by omega)]; exact hz
  go_wp2
  simp [bodyPostS, results, Try.results93, wrong]

theorem catch_idle (p : Addr) (w : World) :
    CallsD Try.prog 93 #[.pointer (some p)] .returning w fun e u' w' => e = .returned (.tuple #[]) ∧ u' = .returning ∧ w' = w := by
  refine callsD_of_wpS Try.func93 rfl fun c₀ cs hu => ?_
  simp only [Try.ntmps93, List.size_toArray, List.length_cons, List.length_nil, Nat.reduceAdd, Nat.reduceSub, Array.replicate_succ, Array.replicate_zero, List.push_toArray, List.append_toArray, List.nil_append, List.cons_append]
  apply wpS_seq
  apply wpS_region
  simp [wpOpsS, go_sem, recoverD, hu, Exit.thenS]
  refine wpS_of_wp ?_
  go_wp2
  cases c₀
  simp_all [bodyPostS, results, Try.results93]

/-- What is done ends: try answers 0. -/
theorem try_ok (f : FuncId) (caps : Array Value) (w : World) (R : World → Prop)
    (hcf : ∀ w, (callFunc f caps).run Try.prog w = .ok (.enter f caps) w)
    (h : Calls Try.prog f caps (w.alloc (.cells #[.int .i64 0] 27)) fun e w' => e = .returned (.tuple #[]) ∧ R w')
    (hR : ∀ w', R w' → Blk w' w.heap.size 27 #[.int .i64 0]) :
    Calls Try.prog 51 #[.func (.func f) #[] caps] w fun e w' => e = .returned (.int .i64 0) ∧ ∃ w1, R w1 ∧ w1.grownBy w' (some w.heap.size) := by
  have hmf : ∀ (fn : Fn) (first cap : Array Value) (w : World), (Instr.makeFunc fn first cap).run Try.prog w = .ok (.func fn first cap) w := fun _ _ _ _ => rfl
  go_enter_defers Try.func51, Try.ntmps51
  go_wp2_with fail
  refine h.mono ?_
  rintro e w1 ⟨rfl, hr⟩
  have HR := Lib.hid hr
  clear hr
  have hbk := hR w1 HR.out
  have hfz := hbk.frozen 0
  have hc := hbk.cell 0
  have hc' : w1.cell? ⟨w.heap.size, 0, none⟩ = some (.int .i64 0) := hc
  clear hc hbk
  go_wp2_with fail
  refine leaves_cons (f := 93) (args := #[.pointer (some ⟨w.heap.size, 0, none⟩)]) (by simp) (by simp [go_sem]) ?_
  refine (catch_idle ⟨w.heap.size, 0, none⟩ _).mono ?_
  rintro e u' w'' ⟨rfl, rfl, rfl⟩
  have hbk := (hR w1 HR.out).set_ 0 (.int .i64 0)
  have hfin := only_setCell (World.grownBy.refl w1 (some w.heap.size)) (p := ⟨w.heap.size, 0, none⟩) (.inl rfl) (.int .i64 0)
  have hc2 : (w1.setCell ⟨w.heap.size, 0, none⟩ (.int .i64 0)).cell? ⟨w.heap.size, 0, none⟩ = some (.int .i64 0) := hbk.cell 0
  simp only [Leaves, settle]
  refine ⟨.int .i64 0, ?_, rfl, w1, HR.out, hfin⟩
  simp [results, Try.results51, go_sem, hc2]

/-- What is done gives up by an error: try answers it. -/
theorem try_gives (f : FuncId) (caps : Array Value) (w : World) (R : World → Prop) (c : Int)
    (hcf : ∀ w, (callFunc f caps).run Try.prog w = .ok (.enter f caps) w)
    (h : Calls Try.prog f caps (w.alloc (.cells #[.int .i64 0] 27)) fun e w' => e = .panicked [{ v := wrong c, recovered := false }] ∧ R w')
    (hR : ∀ w', R w' → Blk w' w.heap.size 27 #[.int .i64 0]) :
    Calls Try.prog 51 #[.func (.func f) #[] caps] w fun e w' => e = .returned (.int .i64 c) ∧ ∃ w1, R w1 ∧ w1.grownBy w' (some w.heap.size) := by
  have hmf : ∀ (fn : Fn) (first cap : Array Value) (w : World), (Instr.makeFunc fn first cap).run Try.prog w = .ok (.func fn first cap) w := fun _ _ _ _ => rfl
  go_enter_defers Try.func51, Try.ntmps51
  go_wp2_with fail
  refine h.mono ?_
  rintro e w1 ⟨rfl, hr⟩
  have HR := Lib.hid hr
  clear hr
  have hbk := hR w1 HR.out
  have hfz := hbk.frozen 0
  have hc' : w1.cell? ⟨w.heap.size, 0, none⟩ = some (.int .i64 0) := hbk.cell 0
  have HBK := Lib.hid hbk
  clear hbk
  go_wp2_with fail
  refine leaves_cons (f := 93) (args := #[.pointer (some ⟨w.heap.size, 0, none⟩)]) (by simp) (by simp [go_sem]) ?_
  refine (catch_panic ⟨w.heap.size, 0, none⟩ c 0 [] w1 hc' hfz).mono ?_
  rintro e u' w'' ⟨rfl, rfl, rfl⟩
  have hbk2 := (HBK.out.alloc (.cells #[.int .i64 c] 91)).set_ 0 (.int .i64 c)
  have hfin := only_setCell (only_alloc (World.grownBy.refl w1 (some w.heap.size)) (.cells #[.int .i64 c] 91)) (p := ⟨w.heap.size, 0, none⟩) (.inl rfl) (.int .i64 c)
  have hc2 : ((w1.alloc (.cells #[.int .i64 c] 91)).setCell ⟨w.heap.size, 0, none⟩ (.int .i64 c)).cell? ⟨w.heap.size, 0, none⟩ = some (.int .i64 c) := hbk2.cell 0
  simp only [Leaves, settle]
  refine ⟨.int .i64 c, ?_, rfl, w1, HR.out, hfin⟩
  simp [results, Try.results51, go_sem, hc2]
end Go.Proofs.Ytafonjnanfekkaa.Wire
