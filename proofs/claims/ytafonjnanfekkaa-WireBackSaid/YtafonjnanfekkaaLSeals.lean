
/-
  THE WALK of WireSeals.
-/
import Derived.Test.YtafonjnanfekkaaLNumbers
import Derived.Test.YtafonjnanfekkaaLaw3
namespace Go.Proofs.Ytafonjnanfekkaa.Wire
open Go.RowKit
set_option maxHeartbeats 8000000
set_option maxRecDepth 100000
set_option linter.unusedVariables false
set_option linter.unusedSimpArgs false

theorem own_bytes {w : World} {base n c : Nat} {A : Option Addr} {bs : List UInt8} (h : w.ownsRow base 5 1 (.slice A n c) n (bvl bs)) : BytesAt w A n bs := by
  obtain ⟨A2, c2, e2, h2, _⟩ := own_slice h
  injection e2 with e2 _ _
  rw [e2]; exact h2

end Go.Proofs.Ytafonjnanfekkaa.Wire
