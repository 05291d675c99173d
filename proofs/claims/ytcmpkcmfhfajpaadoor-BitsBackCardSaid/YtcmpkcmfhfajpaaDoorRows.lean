/-
  NARROWER THAN 'FOR EVERY INPUT', by the rows' own cells (each row's printed sentence says how): BitsFinds: laid · BitsBack: laid · BitsRoom: laid · BitsTurns: laid · BitsBuddies: laid · BitsGoal: laid · BitsTurned: laid.
  DERIVED. THE GIVEN ROWS OF THIS SEAT. 7 by the template 'for every input the law returns true; each argument reads behind the call as it read before'; 0 by the template 'total and deterministic' (their statements: YtcmpkcmfhfajpaaDoorTotals.lean).
  GIVEN WITH THE SEED: the statements are not yours to turn. If you find one false, say at which input.
  Laid BY PROGRAM, IN A SANDBOX (cutbox-rows.mjs): the forced cells as the released guide's own fill.sh prints them over the translation fbe79f047a903130… (all of the seat's roots in one cut). By AI agents, Wed Nov 11 2026. No macro, syntax, notation, axiom, sorry.
-/
import Derived.Test.YtcmpkcmfhfajpaaDoorChecked
import GoSem.Claim
import GoSem.ClaimJoined
import GoSem.ClaimMapViews
import Derived.JoinedTies
import Derived.KernelRfl
namespace Go.Proofs.YtcmpkcmfhfajpaaDoor
/- THE CELL 'sum', in the pinned program and in every row, IS THE sha256 OF THE DUMP (.gsa) THAT YtcmpkcmfhfajpaaDoorProg.lean LOADS. Nothing in Lean hashes anything: it is a label: what it is worth is what the hold of that sum in a sandbox is worth. -/
noncomputable def Tryd.pinned : Pinned := { name := "ytcmpkcmfhfajpaadoor", sum := "fbe79f047a9031304ab717b608a4a73d23b411fef58257d6c5d17660ab41f0ae", checked := Tryd.checked }
namespace Rows
def none {H : Type} : Left H := { results := [], args := [] }

/- WHAT THE LISTED PACKAGE-LEVEL VARIABLES READ AS WHEN THE CALL BEGINS. Each datum BY PROGRAM (the guide's laid-datum.mjs) off the statement by which the dump's own 'gosem.cut.vars' lays the variable. In a bare row this is a premise. The card (YtcmpkcmfhfajpaaDoorCards.lean) ties it to the program's text. -/
def laid_math_bits_deBruijn32tab {H : Type} : DataW H := .agg [.lit (.int .u8 0), .lit (.int .u8 1), .lit (.int .u8 28), .lit (.int .u8 2), .lit (.int .u8 29), .lit (.int .u8 14), .lit (.int .u8 24), .lit (.int .u8 3), .lit (.int .u8 30), .lit (.int .u8 22), .lit (.int .u8 20), .lit (.int .u8 15), .lit (.int .u8 25), .lit (.int .u8 17), .lit (.int .u8 4), .lit (.int .u8 8), .lit (.int .u8 31), .lit (.int .u8 27), .lit (.int .u8 13), .lit (.int .u8 23), .lit (.int .u8 21), .lit (.int .u8 19), .lit (.int .u8 16), .lit (.int .u8 7), .lit (.int .u8 26), .lit (.int .u8 12), .lit (.int .u8 18), .lit (.int .u8 6), .lit (.int .u8 11), .lit (.int .u8 5), .lit (.int .u8 10), .lit (.int .u8 9)]
def laid_math_bits_deBruijn64tab {H : Type} : DataW H := .agg [.lit (.int .u8 0), .lit (.int .u8 1), .lit (.int .u8 56), .lit (.int .u8 2), .lit (.int .u8 57), .lit (.int .u8 49), .lit (.int .u8 28), .lit (.int .u8 3), .lit (.int .u8 61), .lit (.int .u8 58), .lit (.int .u8 42), .lit (.int .u8 50), .lit (.int .u8 38), .lit (.int .u8 29), .lit (.int .u8 17), .lit (.int .u8 4), .lit (.int .u8 62), .lit (.int .u8 47), .lit (.int .u8 59), .lit (.int .u8 36), .lit (.int .u8 45), .lit (.int .u8 43), .lit (.int .u8 51), .lit (.int .u8 22), .lit (.int .u8 53), .lit (.int .u8 39), .lit (.int .u8 33), .lit (.int .u8 30), .lit (.int .u8 24), .lit (.int .u8 18), .lit (.int .u8 12), .lit (.int .u8 5), .lit (.int .u8 63), .lit (.int .u8 55), .lit (.int .u8 48), .lit (.int .u8 27), .lit (.int .u8 60), .lit (.int .u8 41), .lit (.int .u8 37), .lit (.int .u8 16), .lit (.int .u8 46), .lit (.int .u8 35), .lit (.int .u8 44), .lit (.int .u8 21), .lit (.int .u8 52), .lit (.int .u8 32), .lit (.int .u8 23), .lit (.int .u8 11), .lit (.int .u8 54), .lit (.int .u8 26), .lit (.int .u8 40), .lit (.int .u8 15), .lit (.int .u8 34), .lit (.int .u8 20), .lit (.int .u8 31), .lit (.int .u8 10), .lit (.int .u8 25), .lit (.int .u8 14), .lit (.int .u8 19), .lit (.int .u8 9), .lit (.int .u8 13), .lit (.int .u8 8), .lit (.int .u8 7), .lit (.int .u8 6)]

/-- 'hayricklaw05.BitsFinds': WHATEVER THE INPUT: true; the input reads as it did. -/
def bitsFindsSpec : ChangeSpec := { name := "bitsFinds", fn := fun _ => fun
  | [d1, d2, d3] => { results := [.lit (.bool true)], args := [d1, d2, d3] }
  | _ => none }
def bitsFindsRow : OpenClaim := { program := "ytcmpkcmfhfajpaadoor", sum := "fbe79f047a9031304ab717b608a4a73d23b411fef58257d6c5d17660ab41f0ae", func := "hayrick/hayricklaw05.BitsFinds", spec := "bitsFinds", unfollowed := true, recurses := true, named := ["math/bits.deBruijn32tab", "math/bits.deBruijn64tab"], apart := false, laid := [("math/bits.deBruijn32tab", laid_math_bits_deBruijn32tab), ("math/bits.deBruijn64tab", laid_math_bits_deBruijn64tab)] }
def BitsFindsSaid : Prop := bitsFindsRow.holds Tryd.pinned (OpenSpec.ofChange bitsFindsSpec)

/-- ITS FALSE NEIGHBOUR: 'it returns false'. Refute it at one input. -/
def bitsFindsWrong : ChangeSpec := { name := "bitsFinds", fn := fun _ => fun
  | [d1, d2, d3] => { results := [.lit (.bool false)], args := [d1, d2, d3] }
  | _ => none }
def BitsFindsWrongFalsely : Prop := bitsFindsRow.holds Tryd.pinned (OpenSpec.ofChange bitsFindsWrong)

/-- 'hayricklaw05.BitsBack': WHATEVER THE INPUT: true; the input reads as it did. -/
def bitsBackSpec : ChangeSpec := { name := "bitsBack", fn := fun _ => fun
  | [d1, d2, d3, d4, d5] => { results := [.lit (.bool true)], args := [d1, d2, d3, d4, d5] }
  | _ => none }
def bitsBackRow : OpenClaim := { program := "ytcmpkcmfhfajpaadoor", sum := "fbe79f047a9031304ab717b608a4a73d23b411fef58257d6c5d17660ab41f0ae", func := "hayrick/hayricklaw05.BitsBack", spec := "bitsBack", unfollowed := true, recurses := true, named := ["math/bits.deBruijn32tab", "math/bits.deBruijn64tab"], apart := false, laid := [("math/bits.deBruijn32tab", laid_math_bits_deBruijn32tab), ("math/bits.deBruijn64tab", laid_math_bits_deBruijn64tab)] }
def BitsBackSaid : Prop := bitsBackRow.holds Tryd.pinned (OpenSpec.ofChange bitsBackSpec)

/-- ITS FALSE NEIGHBOUR: 'it returns false'. Refute it at one input. -/
def bitsBackWrong : ChangeSpec := { name := "bitsBack", fn := fun _ => fun
  | [d1, d2, d3, d4, d5] => { results := [.lit (.bool false)], args := [d1, d2, d3, d4, d5] }
  | _ => none }
def BitsBackWrongFalsely : Prop := bitsBackRow.holds Tryd.pinned (OpenSpec.ofChange bitsBackWrong)

/-- 'hayricklaw05.BitsRoom': WHATEVER THE INPUT: true; the input reads as it did. -/
def bitsRoomSpec : ChangeSpec := { name := "bitsRoom", fn := fun _ => fun
  | [d1, d2] => { results := [.lit (.bool true)], args := [d1, d2] }
  | _ => none }
def bitsRoomRow : OpenClaim := { program := "ytcmpkcmfhfajpaadoor", sum := "fbe79f047a9031304ab717b608a4a73d23b411fef58257d6c5d17660ab41f0ae", func := "hayrick/hayricklaw05.BitsRoom", spec := "bitsRoom", unfollowed := true, recurses := true, named := ["math/bits.deBruijn32tab", "math/bits.deBruijn64tab"], apart := false, laid := [("math/bits.deBruijn32tab", laid_math_bits_deBruijn32tab), ("math/bits.deBruijn64tab", laid_math_bits_deBruijn64tab)] }
def BitsRoomSaid : Prop := bitsRoomRow.holds Tryd.pinned (OpenSpec.ofChange bitsRoomSpec)

/-- ITS FALSE NEIGHBOUR: 'it returns false'. Refute it at one input. -/
def bitsRoomWrong : ChangeSpec := { name := "bitsRoom", fn := fun _ => fun
  | [d1, d2] => { results := [.lit (.bool false)], args := [d1, d2] }
  | _ => none }
def BitsRoomWrongFalsely : Prop := bitsRoomRow.holds Tryd.pinned (OpenSpec.ofChange bitsRoomWrong)

/-- 'hayricklaw05.BitsTurns': WHATEVER THE INPUT: true; the input reads as it did. -/
def bitsTurnsSpec : ChangeSpec := { name := "bitsTurns", fn := fun _ => fun
  | [d1, d2, d3, d4, d5, d6] => { results := [.lit (.bool true)], args := [d1, d2, d3, d4, d5, d6] }
  | _ => none }
def bitsTurnsRow : OpenClaim := { program := "ytcmpkcmfhfajpaadoor", sum := "fbe79f047a9031304ab717b608a4a73d23b411fef58257d6c5d17660ab41f0ae", func := "hayrick/hayricklaw05.BitsTurns", spec := "bitsTurns", unfollowed := true, recurses := true, named := ["math/bits.deBruijn32tab", "math/bits.deBruijn64tab"], apart := false, laid := [("math/bits.deBruijn32tab", laid_math_bits_deBruijn32tab), ("math/bits.deBruijn64tab", laid_math_bits_deBruijn64tab)] }
def BitsTurnsSaid : Prop := bitsTurnsRow.holds Tryd.pinned (OpenSpec.ofChange bitsTurnsSpec)

/-- ITS FALSE NEIGHBOUR: 'it returns false'. Refute it at one input. -/
def bitsTurnsWrong : ChangeSpec := { name := "bitsTurns", fn := fun _ => fun
  | [d1, d2, d3, d4, d5, d6] => { results := [.lit (.bool false)], args := [d1, d2, d3, d4, d5, d6] }
  | _ => none }
def BitsTurnsWrongFalsely : Prop := bitsTurnsRow.holds Tryd.pinned (OpenSpec.ofChange bitsTurnsWrong)

/-- 'hayricklaw05.BitsBuddies': WHATEVER THE INPUT: true; the input reads as it did. -/
def bitsBuddiesSpec : ChangeSpec := { name := "bitsBuddies", fn := fun _ => fun
  | [d1, d2, d3] => { results := [.lit (.bool true)], args := [d1, d2, d3] }
  | _ => none }
def bitsBuddiesRow : OpenClaim := { program := "ytcmpkcmfhfajpaadoor", sum := "fbe79f047a9031304ab717b608a4a73d23b411fef58257d6c5d17660ab41f0ae", func := "hayrick/hayricklaw05.BitsBuddies", spec := "bitsBuddies", unfollowed := true, recurses := true, named := ["math/bits.deBruijn32tab", "math/bits.deBruijn64tab"], apart := false, laid := [("math/bits.deBruijn32tab", laid_math_bits_deBruijn32tab), ("math/bits.deBruijn64tab", laid_math_bits_deBruijn64tab)] }
def BitsBuddiesSaid : Prop := bitsBuddiesRow.holds Tryd.pinned (OpenSpec.ofChange bitsBuddiesSpec)

/-- ITS FALSE NEIGHBOUR: 'it returns false'. Refute it at one input. -/
def bitsBuddiesWrong : ChangeSpec := { name := "bitsBuddies", fn := fun _ => fun
  | [d1, d2, d3] => { results := [.lit (.bool false)], args := [d1, d2, d3] }
  | _ => none }
def BitsBuddiesWrongFalsely : Prop := bitsBuddiesRow.holds Tryd.pinned (OpenSpec.ofChange bitsBuddiesWrong)

/-- 'hayricklaw05.BitsGoal': WHATEVER THE INPUT: true; the input reads as it did. -/
def bitsGoalSpec : ChangeSpec := { name := "bitsGoal", fn := fun _ => fun
  | [d1, d2, d3] => { results := [.lit (.bool true)], args := [d1, d2, d3] }
  | _ => none }
def bitsGoalRow : OpenClaim := { program := "ytcmpkcmfhfajpaadoor", sum := "fbe79f047a9031304ab717b608a4a73d23b411fef58257d6c5d17660ab41f0ae", func := "hayrick/hayricklaw05.BitsGoal", spec := "bitsGoal", unfollowed := true, recurses := true, named := ["math/bits.deBruijn32tab", "math/bits.deBruijn64tab"], apart := false, laid := [("math/bits.deBruijn32tab", laid_math_bits_deBruijn32tab), ("math/bits.deBruijn64tab", laid_math_bits_deBruijn64tab)] }
def BitsGoalSaid : Prop := bitsGoalRow.holds Tryd.pinned (OpenSpec.ofChange bitsGoalSpec)

/-- ITS FALSE NEIGHBOUR: 'it returns false'. Refute it at one input. -/
def bitsGoalWrong : ChangeSpec := { name := "bitsGoal", fn := fun _ => fun
  | [d1, d2, d3] => { results := [.lit (.bool false)], args := [d1, d2, d3] }
  | _ => none }
def BitsGoalWrongFalsely : Prop := bitsGoalRow.holds Tryd.pinned (OpenSpec.ofChange bitsGoalWrong)

/-- 'hayricklaw05.BitsTurned': WHATEVER THE INPUT: true; the input reads as it did. -/
def bitsTurnedSpec : ChangeSpec := { name := "bitsTurned", fn := fun _ => fun
  | [d1, d2, d3, d4, d5, d6] => { results := [.lit (.bool true)], args := [d1, d2, d3, d4, d5, d6] }
  | _ => none }
def bitsTurnedRow : OpenClaim := { program := "ytcmpkcmfhfajpaadoor", sum := "fbe79f047a9031304ab717b608a4a73d23b411fef58257d6c5d17660ab41f0ae", func := "hayrick/hayricklaw05.BitsTurned", spec := "bitsTurned", unfollowed := true, recurses := true, named := ["math/bits.deBruijn32tab", "math/bits.deBruijn64tab"], apart := false, laid := [("math/bits.deBruijn32tab", laid_math_bits_deBruijn32tab), ("math/bits.deBruijn64tab", laid_math_bits_deBruijn64tab)] }
def BitsTurnedSaid : Prop := bitsTurnedRow.holds Tryd.pinned (OpenSpec.ofChange bitsTurnedSpec)

/-- ITS FALSE NEIGHBOUR: 'it returns false'. Refute it at one input. -/
def bitsTurnedWrong : ChangeSpec := { name := "bitsTurned", fn := fun _ => fun
  | [d1, d2, d3, d4, d5, d6] => { results := [.lit (.bool false)], args := [d1, d2, d3, d4, d5, d6] }
  | _ => none }
def BitsTurnedWrongFalsely : Prop := bitsTurnedRow.holds Tryd.pinned (OpenSpec.ofChange bitsTurnedWrong)

/- THE SECOND FORM. 'bulk': how many values and letters a reading holds, each counted each time it is reached (what is shared counts as often as it is met; a slice's spare places count too). A statement '..UptoSaid' is the law's where the arguments, and the package variables that the reading takes, are together of bulk at most 1048576: NARROWER than '..Said'. Prove '..Said' where nothing that the law and all that it calls make is longer than what came in: it says more and counts as full. Else prove '..UptoSaid'. A law counts once. -/
mutual
def uptoBulk {H : Type} : DataW H → Nat
  | .lit (.string bytes) => bytes.length + 1
  | .lit _ => 1
  | .nil => 1
  | .ptr d => uptoBulk d + 1
  | .slice elems spare => uptoBulkAll elems + uptoBulkAll spare + 1
  | .agg parts => uptoBulkAll parts + 1
  | .iface _ d => uptoBulk d + 1
  | .map entries => uptoBulkEntries entries + 1
  | .held _ => 1
def uptoBulkAll {H : Type} : List (DataW H) → Nat
  | [] => 0
  | d :: r => uptoBulk d + uptoBulkAll r
def uptoBulkEntries {H : Type} : List (Lit × DataW H) → Nat
  | [] => 0
  | x :: r => uptoBulkEntry x + uptoBulkEntries r
def uptoBulkEntry {H : Type} : Lit × DataW H → Nat
  | (.string bytes, d) => bytes.length + uptoBulk d + 1
  | (_, d) => uptoBulk d + 1
 end
def uptoSmall : (H : Type) → List (DataW H) → Bool := fun _ ds => decide (uptoBulkAll ds ≤ 1048576)
def OpenSpec.upto (s : _root_.Go.ChangeSpec) : _root_.Go.OpenSpec := { _root_.Go.OpenSpec.ofChange s with cond := some uptoSmall }

/-- 'hayricklaw05.BitsFinds', WHERE WHAT IT READS IS OF BULK AT MOST 1048576: true; the input reads as it did. -/
def bitsFindsUptoRow : OpenClaim := { program := "ytcmpkcmfhfajpaadoor", sum := "fbe79f047a9031304ab717b608a4a73d23b411fef58257d6c5d17660ab41f0ae", func := "hayrick/hayricklaw05.BitsFinds", spec := "bitsFinds", unfollowed := true, recurses := true, named := ["math/bits.deBruijn32tab", "math/bits.deBruijn64tab"], apart := false, laid := [("math/bits.deBruijn32tab", laid_math_bits_deBruijn32tab), ("math/bits.deBruijn64tab", laid_math_bits_deBruijn64tab)], narrowed := true }
def BitsFindsUptoSaid : Prop := bitsFindsUptoRow.holds Tryd.pinned (OpenSpec.upto bitsFindsSpec)

/-- 'hayricklaw05.BitsBack', WHERE WHAT IT READS IS OF BULK AT MOST 1048576: true; the input reads as it did. -/
def bitsBackUptoRow : OpenClaim := { program := "ytcmpkcmfhfajpaadoor", sum := "fbe79f047a9031304ab717b608a4a73d23b411fef58257d6c5d17660ab41f0ae", func := "hayrick/hayricklaw05.BitsBack", spec := "bitsBack", unfollowed := true, recurses := true, named := ["math/bits.deBruijn32tab", "math/bits.deBruijn64tab"], apart := false, laid := [("math/bits.deBruijn32tab", laid_math_bits_deBruijn32tab), ("math/bits.deBruijn64tab", laid_math_bits_deBruijn64tab)], narrowed := true }
def BitsBackUptoSaid : Prop := bitsBackUptoRow.holds Tryd.pinned (OpenSpec.upto bitsBackSpec)

/-- 'hayricklaw05.BitsRoom', WHERE WHAT IT READS IS OF BULK AT MOST 1048576: true; the input reads as it did. -/
def bitsRoomUptoRow : OpenClaim := { program := "ytcmpkcmfhfajpaadoor", sum := "fbe79f047a9031304ab717b608a4a73d23b411fef58257d6c5d17660ab41f0ae", func := "hayrick/hayricklaw05.BitsRoom", spec := "bitsRoom", unfollowed := true, recurses := true, named := ["math/bits.deBruijn32tab", "math/bits.deBruijn64tab"], apart := false, laid := [("math/bits.deBruijn32tab", laid_math_bits_deBruijn32tab), ("math/bits.deBruijn64tab", laid_math_bits_deBruijn64tab)], narrowed := true }
def BitsRoomUptoSaid : Prop := bitsRoomUptoRow.holds Tryd.pinned (OpenSpec.upto bitsRoomSpec)

/-- 'hayricklaw05.BitsTurns', WHERE WHAT IT READS IS OF BULK AT MOST 1048576: true; the input reads as it did. -/
def bitsTurnsUptoRow : OpenClaim := { program := "ytcmpkcmfhfajpaadoor", sum := "fbe79f047a9031304ab717b608a4a73d23b411fef58257d6c5d17660ab41f0ae", func := "hayrick/hayricklaw05.BitsTurns", spec := "bitsTurns", unfollowed := true, recurses := true, named := ["math/bits.deBruijn32tab", "math/bits.deBruijn64tab"], apart := false, laid := [("math/bits.deBruijn32tab", laid_math_bits_deBruijn32tab), ("math/bits.deBruijn64tab", laid_math_bits_deBruijn64tab)], narrowed := true }
def BitsTurnsUptoSaid : Prop := bitsTurnsUptoRow.holds Tryd.pinned (OpenSpec.upto bitsTurnsSpec)

/-- 'hayricklaw05.BitsBuddies', WHERE WHAT IT READS IS OF BULK AT MOST 1048576: true; the input reads as it did. -/
def bitsBuddiesUptoRow : OpenClaim := { program := "ytcmpkcmfhfajpaadoor", sum := "fbe79f047a9031304ab717b608a4a73d23b411fef58257d6c5d17660ab41f0ae", func := "hayrick/hayricklaw05.BitsBuddies", spec := "bitsBuddies", unfollowed := true, recurses := true, named := ["math/bits.deBruijn32tab", "math/bits.deBruijn64tab"], apart := false, laid := [("math/bits.deBruijn32tab", laid_math_bits_deBruijn32tab), ("math/bits.deBruijn64tab", laid_math_bits_deBruijn64tab)], narrowed := true }
def BitsBuddiesUptoSaid : Prop := bitsBuddiesUptoRow.holds Tryd.pinned (OpenSpec.upto bitsBuddiesSpec)

/-- 'hayricklaw05.BitsGoal', WHERE WHAT IT READS IS OF BULK AT MOST 1048576: true; the input reads as it did. -/
def bitsGoalUptoRow : OpenClaim := { program := "ytcmpkcmfhfajpaadoor", sum := "fbe79f047a9031304ab717b608a4a73d23b411fef58257d6c5d17660ab41f0ae", func := "hayrick/hayricklaw05.BitsGoal", spec := "bitsGoal", unfollowed := true, recurses := true, named := ["math/bits.deBruijn32tab", "math/bits.deBruijn64tab"], apart := false, laid := [("math/bits.deBruijn32tab", laid_math_bits_deBruijn32tab), ("math/bits.deBruijn64tab", laid_math_bits_deBruijn64tab)], narrowed := true }
def BitsGoalUptoSaid : Prop := bitsGoalUptoRow.holds Tryd.pinned (OpenSpec.upto bitsGoalSpec)

/-- 'hayricklaw05.BitsTurned', WHERE WHAT IT READS IS OF BULK AT MOST 1048576: true; the input reads as it did. -/
def bitsTurnedUptoRow : OpenClaim := { program := "ytcmpkcmfhfajpaadoor", sum := "fbe79f047a9031304ab717b608a4a73d23b411fef58257d6c5d17660ab41f0ae", func := "hayrick/hayricklaw05.BitsTurned", spec := "bitsTurned", unfollowed := true, recurses := true, named := ["math/bits.deBruijn32tab", "math/bits.deBruijn64tab"], apart := false, laid := [("math/bits.deBruijn32tab", laid_math_bits_deBruijn32tab), ("math/bits.deBruijn64tab", laid_math_bits_deBruijn64tab)], narrowed := true }
def BitsTurnedUptoSaid : Prop := bitsTurnedUptoRow.holds Tryd.pinned (OpenSpec.upto bitsTurnedSpec)

end Rows
end Go.Proofs.YtcmpkcmfhfajpaaDoor
