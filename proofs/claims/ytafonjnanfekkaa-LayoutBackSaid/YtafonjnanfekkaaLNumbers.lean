
/-
  THE WALK of WireNumbers.
-/
import Derived.Test.YtafonjnanfekkaaLSums
namespace Go.Proofs.Ytafonjnanfekkaa.Wire
open Go.RowKit
set_option maxHeartbeats 8000000
set_option maxRecDepth 100000
set_option linter.unusedVariables false
set_option linter.unusedSimpArgs false

/-- Two rows made one behind the other lie apart. -/
theorem own_apart {w : World} {b1 b2 g n c m : Nat} {t : TypeId} {v : Value} {xs ys : List Value} (h : w.ownsRow b1 t 1 (.slice (some ⟨g, 0, none⟩) n c) n xs) (hlt : g < b2)
    (h2 : w.ownsRow b2 t 1 v m ys) : v.ownBlock ≠ some g := by
  intro e
  have := (h2.lt g e).1
  omega
theorem own_kept {w w' : World} {base : Nat} {t : TypeId} {v : Value} {n : Nat} {xs : List Value} {row : Option Nat} (h : w.ownsRow base t 1 v n xs) (hb : w.grownBy w' row) (hne : row ≠ v.ownBlock) : w'.ownsRow base t 1 v n xs :=
  h.kept hb (.inr fun e => hne e.symm)
theorem own_len {w : World} {base N n : Nat} {v : Value} {bs : List UInt8} {x y : UInt8} (h : w.ownsRow base 5 1 v (n + 2) (bvl (bs ++ [x, y]))) : bs.length = n := by
  have := h.1
  rw [bvl_length] at this
  simp at this; omega

end Go.Proofs.Ytafonjnanfekkaa.Wire
