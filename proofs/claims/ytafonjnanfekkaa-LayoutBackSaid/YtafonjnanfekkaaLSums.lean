
/-
  THE WALK of WireSums.
-/
import Derived.Test.YtafonjnanfekkaaAwake
import Derived.Test.YtafonjnanfekkaaLaw1
import Derived.Test.YtafonjnanfekkaaI
namespace Go.Proofs.Ytafonjnanfekkaa.Wire
open Go.RowKit
set_option maxHeartbeats 8000000
set_option maxRecDepth 100000
set_option linter.unusedVariables false
set_option linter.unusedSimpArgs false

theorem own_head {w : World} {base g n c : Nat} {bs : List UInt8} {x y : UInt8} (h : w.ownsRow base 5 1 (.slice (some ⟨g, 0, none⟩) (n + 2) c) (n + 2) (bvl (bs ++ [x, y]))) (hbl : bs.length = n) :
    BytesAt w (some ⟨g, 0, none⟩) n bs ∧ n ≤ c ∧ c ≤ 9223372036854775807 := by
  have hb := (BytesAt.of_own h).take_ n (by omega)
  rw [List.take_append_of_le_length (by omega), List.take_of_length_le (by omega)] at hb
  obtain ⟨cs, _, _, h1, h2, _⟩ := own_blk h
  exact ⟨hb, by omega, by unfold maxLen at h2; omega⟩

end Go.Proofs.Ytafonjnanfekkaa.Wire
