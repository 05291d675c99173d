
/-
  THE WALKS of layer 1's law: lent, marked; the reference's Copied.
-/
import Derived.Test.YtafonjnanfekkaaA
namespace Go.Proofs.Ytafonjnanfekkaa.Wire
open Go.RowKit
set_option maxHeartbeats 8000000
set_option maxRecDepth 100000
set_option linter.unusedVariables false
set_option linter.unusedSimpArgs false

theorem copied_any (A : Option Addr) (n cap : Nat) (bs : List UInt8) (w : World) (hc : n ≤ 140737488351232) (hA : A = none → n = 0 ∧ cap = 0) (hb : BytesAt w A n bs) :
    Calls Try.prog 104 #[.slice A n cap] w fun e w' => ∃ v, e = .returned v ∧ w'.ownsRow w.heap.size 5 1 v n (bvl bs) ∧ Below w.heap.size w w' := by
  have HB := Lib.hid hb
  have HA := Lib.hid hA
  clear hb hA
  go_enter Try.func104, Try.ntmps104
  go_wp2_with (at_builtin; refine app_u8 _ rfl _ _ rfl w.heap.size (.slice none 0 0) 0 [] rfl (World.ownsRow_nil _ _ _ _) A n cap bs rfl HA.out HB.out (by omega) (Nat.le_refl _) ?_; intro v' w' hown hg)
  go_ret
  refine ⟨_, rfl, by simpa using hown, below_of_only hg (fun g e => by cases e)⟩

end Go.Proofs.Ytafonjnanfekkaa.Wire
