/-
  No cell of these rows narrows 'for every input' (looked for: loops, veiled, ifaces, maps, wideKeys, modest, calm, conditions, laid).
  DERIVED. THE GIVEN ROWS OF THIS SEAT. 2 by the template 'for every input the law returns true; each argument reads behind the call as it read before'; 0 by the template 'total and deterministic' (their statements: YtifamhmiibhohaaTotals.lean).
  GIVEN WITH THE SEED: the statements are not yours to turn. If you find one false, say at which input.
  Laid BY PROGRAM, IN A SANDBOX (cutbox-rows.mjs): the forced cells as the released guide's own fill.sh prints them over the translation 861d1cbfb862789c… (all of the seat's roots in one cut). By AI agents, Wed Nov 11 2026. No macro, syntax, notation, axiom, sorry.
-/
import Derived.Test.YtifamhmiibhohaaChecked
import GoSem.Claim
import GoSem.ClaimJoined
import GoSem.ClaimMapViews
import Derived.JoinedTies
import Derived.KernelRfl
namespace Go.Proofs.Ytifamhmiibhohaa
/- THE CELL 'sum', in the pinned program and in every row, IS THE sha256 OF THE DUMP (.gsa) THAT YtifamhmiibhohaaProg.lean LOADS. Nothing in Lean hashes anything: it is a label: what it is worth is what the hold of that sum in a sandbox is worth. -/
noncomputable def Try.pinned : Pinned := { name := "ytifamhmiibhohaa", sum := "861d1cbfb862789c2331a6219845e8ab57a350d6a3e5a09b566bfee62f9ac916", checked := Try.checked }
namespace Rows
def none {H : Type} : Left H := { results := [], args := [] }

/-- 'hayricklaw07.LogLays': WHATEVER THE INPUT: true; the input reads as it did. -/
def logLaysSpec : ChangeSpec := { name := "logLays", fn := fun _ => fun
  | [d1, d2, d3] => { results := [.lit (.bool true)], args := [d1, d2, d3] }
  | _ => none }
def logLaysRow : OpenClaim := { program := "ytifamhmiibhohaa", sum := "861d1cbfb862789c2331a6219845e8ab57a350d6a3e5a09b566bfee62f9ac916", func := "hayrick/hayricklaw07.LogLays", spec := "logLays", unfollowed := true, recurses := true, apart := false }
def LogLaysSaid : Prop := logLaysRow.holds Try.pinned (OpenSpec.ofChange logLaysSpec)

/-- ITS FALSE NEIGHBOUR: 'it returns false'. Refute it at one input. -/
def logLaysWrong : ChangeSpec := { name := "logLays", fn := fun _ => fun
  | [d1, d2, d3] => { results := [.lit (.bool false)], args := [d1, d2, d3] }
  | _ => none }
def LogLaysWrongFalsely : Prop := logLaysRow.holds Try.pinned (OpenSpec.ofChange logLaysWrong)

/-- 'hayricklaw07.LogTold': WHATEVER THE INPUT: true; the input reads as it did. -/
def logToldSpec : ChangeSpec := { name := "logTold", fn := fun _ => fun
  | [d1, d2, d3, d4, d5] => { results := [.lit (.bool true)], args := [d1, d2, d3, d4, d5] }
  | _ => none }
def logToldRow : OpenClaim := { program := "ytifamhmiibhohaa", sum := "861d1cbfb862789c2331a6219845e8ab57a350d6a3e5a09b566bfee62f9ac916", func := "hayrick/hayricklaw07.LogTold", spec := "logTold", unfollowed := true, recurses := true, apart := false }
def LogToldSaid : Prop := logToldRow.holds Try.pinned (OpenSpec.ofChange logToldSpec)

/-- ITS FALSE NEIGHBOUR: 'it returns false'. Refute it at one input. -/
def logToldWrong : ChangeSpec := { name := "logTold", fn := fun _ => fun
  | [d1, d2, d3, d4, d5] => { results := [.lit (.bool false)], args := [d1, d2, d3, d4, d5] }
  | _ => none }
def LogToldWrongFalsely : Prop := logToldRow.holds Try.pinned (OpenSpec.ofChange logToldWrong)

/- THE SECOND FORM. 'bulk': how many values and letters a reading holds, each counted each time it is reached (what is shared counts as often as it is met; a slice's spare places count too). A statement '..UptoSaid' is the law's where the arguments, and the package variables that the reading takes, are together of bulk at most 1048576: NARROWER than '..Said'. Prove '..Said' where nothing that the law and all that it calls make is longer than what came in: it says more and counts as full. Else prove '..UptoSaid'. A law counts once. -/
mutual
def uptoBulk {H : Type} : DataW H → Nat
  | .lit (.string bytes) => bytes.length + 1
  | .lit _ => 1
  | .nil => 1
  | .ptr d => uptoBulk d + 1
  | .slice elems spare => uptoBulkAll elems + uptoBulkAll spare + 1
  | .agg parts => uptoBulkAll parts + 1
  | .iface _ d => uptoBulk d + 1
  | .map entries => uptoBulkEntries entries + 1
  | .held _ => 1
def uptoBulkAll {H : Type} : List (DataW H) → Nat
  | [] => 0
  | d :: r => uptoBulk d + uptoBulkAll r
def uptoBulkEntries {H : Type} : List (Lit × DataW H) → Nat
  | [] => 0
  | x :: r => uptoBulkEntry x + uptoBulkEntries r
def uptoBulkEntry {H : Type} : Lit × DataW H → Nat
  | (.string bytes, d) => bytes.length + uptoBulk d + 1
  | (_, d) => uptoBulk d + 1
 end
def uptoSmall : (H : Type) → List (DataW H) → Bool := fun _ ds => decide (uptoBulkAll ds ≤ 1048576)
def OpenSpec.upto (s : _root_.Go.ChangeSpec) : _root_.Go.OpenSpec := { _root_.Go.OpenSpec.ofChange s with cond := some uptoSmall }

/-- 'hayricklaw07.LogLays', WHERE WHAT IT READS IS OF BULK AT MOST 1048576: true; the input reads as it did. -/
def logLaysUptoRow : OpenClaim := { program := "ytifamhmiibhohaa", sum := "861d1cbfb862789c2331a6219845e8ab57a350d6a3e5a09b566bfee62f9ac916", func := "hayrick/hayricklaw07.LogLays", spec := "logLays", unfollowed := true, recurses := true, apart := false, narrowed := true }
def LogLaysUptoSaid : Prop := logLaysUptoRow.holds Try.pinned (OpenSpec.upto logLaysSpec)

/-- 'hayricklaw07.LogTold', WHERE WHAT IT READS IS OF BULK AT MOST 1048576: true; the input reads as it did. -/
def logToldUptoRow : OpenClaim := { program := "ytifamhmiibhohaa", sum := "861d1cbfb862789c2331a6219845e8ab57a350d6a3e5a09b566bfee62f9ac916", func := "hayrick/hayricklaw07.LogTold", spec := "logTold", unfollowed := true, recurses := true, apart := false, narrowed := true }
def LogToldUptoSaid : Prop := logToldUptoRow.holds Try.pinned (OpenSpec.upto logToldSpec)

end Rows
end Go.Proofs.Ytifamhmiibhohaa
