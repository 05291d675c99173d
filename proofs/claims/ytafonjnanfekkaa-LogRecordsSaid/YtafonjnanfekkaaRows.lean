/-
  No cell of these rows narrows 'for every input' (looked for: loops, veiled, ifaces, maps, wideKeys, modest, calm, conditions, laid).
  DERIVED. THE GIVEN ROWS OF THIS SEAT. 12 by the template 'for every input the law returns true; each argument reads behind the call as it read before'; 0 by the template 'total and deterministic' (their statements: YtafonjnanfekkaaTotals.lean).
  GIVEN WITH THE SEED: the statements are not yours to turn. If you find one false, say at which input.
  Laid BY PROGRAM, IN A SANDBOX (cutbox-rows.mjs): the forced cells as the released guide's own fill.sh prints them over the translation d700bd368c435126… (all of the seat's roots in one cut). By AI agents, Wed Nov 11 2026. No macro, syntax, notation, axiom, sorry.
-/
import Derived.Test.YtafonjnanfekkaaChecked
import GoSem.Claim
import GoSem.ClaimJoined
import GoSem.ClaimMapViews
import Derived.JoinedTies
import Derived.KernelRfl
namespace Go.Proofs.Ytafonjnanfekkaa
/- THE CELL 'sum', in the pinned program and in every row, IS THE sha256 OF THE DUMP (.gsa) THAT YtafonjnanfekkaaProg.lean LOADS. Nothing in Lean hashes anything: it is a label: what it is worth is what the hold of that sum in a sandbox is worth. -/
noncomputable def Try.pinned : Pinned := { name := "ytafonjnanfekkaa", sum := "d700bd368c435126830af8a7b4c66cbde9f1309ebc19dc8a6d4bfc93134ab728", checked := Try.checked }
namespace Rows
def none {H : Type} : Left H := { results := [], args := [] }

/-- 'hayricklaw01.WireBack': WHATEVER THE INPUT: true; the input reads as it did. -/
def wireBackSpec : ChangeSpec := { name := "wireBack", fn := fun _ => fun
  | [d1, d2, d3, d4] => { results := [.lit (.bool true)], args := [d1, d2, d3, d4] }
  | _ => none }
def wireBackRow : OpenClaim := { program := "ytafonjnanfekkaa", sum := "d700bd368c435126830af8a7b4c66cbde9f1309ebc19dc8a6d4bfc93134ab728", func := "hayrick/hayricklaw01.WireBack", spec := "wireBack", unfollowed := true, recurses := true, apart := false }
def WireBackSaid : Prop := wireBackRow.holds Try.pinned (OpenSpec.ofChange wireBackSpec)

/-- ITS FALSE NEIGHBOUR: 'it returns false'. Refute it at one input. -/
def wireBackWrong : ChangeSpec := { name := "wireBack", fn := fun _ => fun
  | [d1, d2, d3, d4] => { results := [.lit (.bool false)], args := [d1, d2, d3, d4] }
  | _ => none }
def WireBackWrongFalsely : Prop := wireBackRow.holds Try.pinned (OpenSpec.ofChange wireBackWrong)

/-- 'hayricklaw04.LayoutSupers': WHATEVER THE INPUT: true; the input reads as it did. -/
def layoutSupersSpec : ChangeSpec := { name := "layoutSupers", fn := fun _ => fun
  | [d1, d2] => { results := [.lit (.bool true)], args := [d1, d2] }
  | _ => none }
def layoutSupersRow : OpenClaim := { program := "ytafonjnanfekkaa", sum := "d700bd368c435126830af8a7b4c66cbde9f1309ebc19dc8a6d4bfc93134ab728", func := "hayrick/hayricklaw04.LayoutSupers", spec := "layoutSupers", unfollowed := true, recurses := true, apart := false }
def LayoutSupersSaid : Prop := layoutSupersRow.holds Try.pinned (OpenSpec.ofChange layoutSupersSpec)

/-- ITS FALSE NEIGHBOUR: 'it returns false'. Refute it at one input. -/
def layoutSupersWrong : ChangeSpec := { name := "layoutSupers", fn := fun _ => fun
  | [d1, d2] => { results := [.lit (.bool false)], args := [d1, d2] }
  | _ => none }
def LayoutSupersWrongFalsely : Prop := layoutSupersRow.holds Try.pinned (OpenSpec.ofChange layoutSupersWrong)

/-- 'hayricklaw04.LayoutGroups': WHATEVER THE INPUT: true; the input reads as it did. -/
def layoutGroupsSpec : ChangeSpec := { name := "layoutGroups", fn := fun _ => fun
  | [d1, d2, d3] => { results := [.lit (.bool true)], args := [d1, d2, d3] }
  | _ => none }
def layoutGroupsRow : OpenClaim := { program := "ytafonjnanfekkaa", sum := "d700bd368c435126830af8a7b4c66cbde9f1309ebc19dc8a6d4bfc93134ab728", func := "hayrick/hayricklaw04.LayoutGroups", spec := "layoutGroups", unfollowed := true, recurses := true, apart := false }
def LayoutGroupsSaid : Prop := layoutGroupsRow.holds Try.pinned (OpenSpec.ofChange layoutGroupsSpec)

/-- ITS FALSE NEIGHBOUR: 'it returns false'. Refute it at one input. -/
def layoutGroupsWrong : ChangeSpec := { name := "layoutGroups", fn := fun _ => fun
  | [d1, d2, d3] => { results := [.lit (.bool false)], args := [d1, d2, d3] }
  | _ => none }
def LayoutGroupsWrongFalsely : Prop := layoutGroupsRow.holds Try.pinned (OpenSpec.ofChange layoutGroupsWrong)

/-- 'hayricklaw07.LogRecords': WHATEVER THE INPUT: true; the input reads as it did. -/
def logRecordsSpec : ChangeSpec := { name := "logRecords", fn := fun _ => fun
  | [d1, d2] => { results := [.lit (.bool true)], args := [d1, d2] }
  | _ => none }
def logRecordsRow : OpenClaim := { program := "ytafonjnanfekkaa", sum := "d700bd368c435126830af8a7b4c66cbde9f1309ebc19dc8a6d4bfc93134ab728", func := "hayrick/hayricklaw07.LogRecords", spec := "logRecords", unfollowed := true, recurses := true, apart := false }
def LogRecordsSaid : Prop := logRecordsRow.holds Try.pinned (OpenSpec.ofChange logRecordsSpec)

/-- ITS FALSE NEIGHBOUR: 'it returns false'. Refute it at one input. -/
def logRecordsWrong : ChangeSpec := { name := "logRecords", fn := fun _ => fun
  | [d1, d2] => { results := [.lit (.bool false)], args := [d1, d2] }
  | _ => none }
def LogRecordsWrongFalsely : Prop := logRecordsRow.holds Try.pinned (OpenSpec.ofChange logRecordsWrong)

/-- 'hayricklaw07.LogBack': WHATEVER THE INPUT: true; the input reads as it did. -/
def logBackSpec : ChangeSpec := { name := "logBack", fn := fun _ => fun
  | [d1, d2] => { results := [.lit (.bool true)], args := [d1, d2] }
  | _ => none }
def logBackRow : OpenClaim := { program := "ytafonjnanfekkaa", sum := "d700bd368c435126830af8a7b4c66cbde9f1309ebc19dc8a6d4bfc93134ab728", func := "hayrick/hayricklaw07.LogBack", spec := "logBack", unfollowed := true, recurses := true, apart := false }
def LogBackSaid : Prop := logBackRow.holds Try.pinned (OpenSpec.ofChange logBackSpec)

/-- ITS FALSE NEIGHBOUR: 'it returns false'. Refute it at one input. -/
def logBackWrong : ChangeSpec := { name := "logBack", fn := fun _ => fun
  | [d1, d2] => { results := [.lit (.bool false)], args := [d1, d2] }
  | _ => none }
def LogBackWrongFalsely : Prop := logBackRow.holds Try.pinned (OpenSpec.ofChange logBackWrong)

/-- 'hayricklaw07.LogOnly': WHATEVER THE INPUT: true; the input reads as it did. -/
def logOnlySpec : ChangeSpec := { name := "logOnly", fn := fun _ => fun
  | [d] => { results := [.lit (.bool true)], args := [d] }
  | _ => none }
def logOnlyRow : OpenClaim := { program := "ytafonjnanfekkaa", sum := "d700bd368c435126830af8a7b4c66cbde9f1309ebc19dc8a6d4bfc93134ab728", func := "hayrick/hayricklaw07.LogOnly", spec := "logOnly", unfollowed := true, recurses := true, apart := false }
def LogOnlySaid : Prop := logOnlyRow.holds Try.pinned (OpenSpec.ofChange logOnlySpec)

/-- ITS FALSE NEIGHBOUR: 'it returns false'. Refute it at one input. -/
def logOnlyWrong : ChangeSpec := { name := "logOnly", fn := fun _ => fun
  | [d] => { results := [.lit (.bool false)], args := [d] }
  | _ => none }
def LogOnlyWrongFalsely : Prop := logOnlyRow.holds Try.pinned (OpenSpec.ofChange logOnlyWrong)

/-- 'hayricklaw07.LogNeeds': WHATEVER THE INPUT: true; the input reads as it did. -/
def logNeedsSpec : ChangeSpec := { name := "logNeeds", fn := fun _ => fun
  | [d1, d2, d3, d4] => { results := [.lit (.bool true)], args := [d1, d2, d3, d4] }
  | _ => none }
def logNeedsRow : OpenClaim := { program := "ytafonjnanfekkaa", sum := "d700bd368c435126830af8a7b4c66cbde9f1309ebc19dc8a6d4bfc93134ab728", func := "hayrick/hayricklaw07.LogNeeds", spec := "logNeeds", unfollowed := true, recurses := true, apart := false }
def LogNeedsSaid : Prop := logNeedsRow.holds Try.pinned (OpenSpec.ofChange logNeedsSpec)

/-- ITS FALSE NEIGHBOUR: 'it returns false'. Refute it at one input. -/
def logNeedsWrong : ChangeSpec := { name := "logNeeds", fn := fun _ => fun
  | [d1, d2, d3, d4] => { results := [.lit (.bool false)], args := [d1, d2, d3, d4] }
  | _ => none }
def LogNeedsWrongFalsely : Prop := logNeedsRow.holds Try.pinned (OpenSpec.ofChange logNeedsWrong)

/-- 'hayricklaw07.LogEscapes': WHATEVER THE INPUT: true; the input reads as it did. -/
def logEscapesSpec : ChangeSpec := { name := "logEscapes", fn := fun _ => fun
  | [d] => { results := [.lit (.bool true)], args := [d] }
  | _ => none }
def logEscapesRow : OpenClaim := { program := "ytafonjnanfekkaa", sum := "d700bd368c435126830af8a7b4c66cbde9f1309ebc19dc8a6d4bfc93134ab728", func := "hayrick/hayricklaw07.LogEscapes", spec := "logEscapes", unfollowed := true, recurses := true, apart := false }
def LogEscapesSaid : Prop := logEscapesRow.holds Try.pinned (OpenSpec.ofChange logEscapesSpec)

/-- ITS FALSE NEIGHBOUR: 'it returns false'. Refute it at one input. -/
def logEscapesWrong : ChangeSpec := { name := "logEscapes", fn := fun _ => fun
  | [d] => { results := [.lit (.bool false)], args := [d] }
  | _ => none }
def LogEscapesWrongFalsely : Prop := logEscapesRow.holds Try.pinned (OpenSpec.ofChange logEscapesWrong)

/-- 'hayricklaw04.LayoutBack': WHATEVER THE INPUT: true; the input reads as it did. -/
def layoutBackSpec : ChangeSpec := { name := "layoutBack", fn := fun _ => fun
  | [d1, d2, d3] => { results := [.lit (.bool true)], args := [d1, d2, d3] }
  | _ => none }
def layoutBackRow : OpenClaim := { program := "ytafonjnanfekkaa", sum := "d700bd368c435126830af8a7b4c66cbde9f1309ebc19dc8a6d4bfc93134ab728", func := "hayrick/hayricklaw04.LayoutBack", spec := "layoutBack", unfollowed := true, recurses := true, apart := false }
def LayoutBackSaid : Prop := layoutBackRow.holds Try.pinned (OpenSpec.ofChange layoutBackSpec)

/-- ITS FALSE NEIGHBOUR: 'it returns false'. Refute it at one input. -/
def layoutBackWrong : ChangeSpec := { name := "layoutBack", fn := fun _ => fun
  | [d1, d2, d3] => { results := [.lit (.bool false)], args := [d1, d2, d3] }
  | _ => none }
def LayoutBackWrongFalsely : Prop := layoutBackRow.holds Try.pinned (OpenSpec.ofChange layoutBackWrong)

/-- 'hayricklaw04.LayoutOnly': WHATEVER THE INPUT: true; the input reads as it did. -/
def layoutOnlySpec : ChangeSpec := { name := "layoutOnly", fn := fun _ => fun
  | [d1, d2] => { results := [.lit (.bool true)], args := [d1, d2] }
  | _ => none }
def layoutOnlyRow : OpenClaim := { program := "ytafonjnanfekkaa", sum := "d700bd368c435126830af8a7b4c66cbde9f1309ebc19dc8a6d4bfc93134ab728", func := "hayrick/hayricklaw04.LayoutOnly", spec := "layoutOnly", unfollowed := true, recurses := true, apart := false }
def LayoutOnlySaid : Prop := layoutOnlyRow.holds Try.pinned (OpenSpec.ofChange layoutOnlySpec)

/-- ITS FALSE NEIGHBOUR: 'it returns false'. Refute it at one input. -/
def layoutOnlyWrong : ChangeSpec := { name := "layoutOnly", fn := fun _ => fun
  | [d1, d2] => { results := [.lit (.bool false)], args := [d1, d2] }
  | _ => none }
def LayoutOnlyWrongFalsely : Prop := layoutOnlyRow.holds Try.pinned (OpenSpec.ofChange layoutOnlyWrong)

/-- 'hayricklaw07.LogLays': WHATEVER THE INPUT: true; the input reads as it did. -/
def logLaysSpec : ChangeSpec := { name := "logLays", fn := fun _ => fun
  | [d1, d2, d3] => { results := [.lit (.bool true)], args := [d1, d2, d3] }
  | _ => none }
def logLaysRow : OpenClaim := { program := "ytafonjnanfekkaa", sum := "d700bd368c435126830af8a7b4c66cbde9f1309ebc19dc8a6d4bfc93134ab728", func := "hayrick/hayricklaw07.LogLays", spec := "logLays", unfollowed := true, recurses := true, apart := false }
def LogLaysSaid : Prop := logLaysRow.holds Try.pinned (OpenSpec.ofChange logLaysSpec)

/-- ITS FALSE NEIGHBOUR: 'it returns false'. Refute it at one input. -/
def logLaysWrong : ChangeSpec := { name := "logLays", fn := fun _ => fun
  | [d1, d2, d3] => { results := [.lit (.bool false)], args := [d1, d2, d3] }
  | _ => none }
def LogLaysWrongFalsely : Prop := logLaysRow.holds Try.pinned (OpenSpec.ofChange logLaysWrong)

/-- 'hayricklaw07.LogTold': WHATEVER THE INPUT: true; the input reads as it did. -/
def logToldSpec : ChangeSpec := { name := "logTold", fn := fun _ => fun
  | [d1, d2, d3, d4, d5] => { results := [.lit (.bool true)], args := [d1, d2, d3, d4, d5] }
  | _ => none }
def logToldRow : OpenClaim := { program := "ytafonjnanfekkaa", sum := "d700bd368c435126830af8a7b4c66cbde9f1309ebc19dc8a6d4bfc93134ab728", func := "hayrick/hayricklaw07.LogTold", spec := "logTold", unfollowed := true, recurses := true, apart := false }
def LogToldSaid : Prop := logToldRow.holds Try.pinned (OpenSpec.ofChange logToldSpec)

/-- ITS FALSE NEIGHBOUR: 'it returns false'. Refute it at one input. -/
def logToldWrong : ChangeSpec := { name := "logTold", fn := fun _ => fun
  | [d1, d2, d3, d4, d5] => { results := [.lit (.bool false)], args := [d1, d2, d3, d4, d5] }
  | _ => none }
def LogToldWrongFalsely : Prop := logToldRow.holds Try.pinned (OpenSpec.ofChange logToldWrong)

/- THE SECOND FORM. 'bulk': how many values and letters a reading holds, each counted each time it is reached (what is shared counts as often as it is met; a slice's spare places count too). A statement '..UptoSaid' is the law's where the arguments, and the package variables that the reading takes, are together of bulk at most 1048576: NARROWER than '..Said'. Prove '..Said' where nothing that the law and all that it calls make is longer than what came in: it says more and counts as full. Else prove '..UptoSaid'. A law counts once. -/
mutual
def uptoBulk {H : Type} : DataW H → Nat
  | .lit (.string bytes) => bytes.length + 1
  | .lit _ => 1
  | .nil => 1
  | .ptr d => uptoBulk d + 1
  | .slice elems spare => uptoBulkAll elems + uptoBulkAll spare + 1
  | .agg parts => uptoBulkAll parts + 1
  | .iface _ d => uptoBulk d + 1
  | .map entries => uptoBulkEntries entries + 1
  | .held _ => 1
def uptoBulkAll {H : Type} : List (DataW H) → Nat
  | [] => 0
  | d :: r => uptoBulk d + uptoBulkAll r
def uptoBulkEntries {H : Type} : List (Lit × DataW H) → Nat
  | [] => 0
  | x :: r => uptoBulkEntry x + uptoBulkEntries r
def uptoBulkEntry {H : Type} : Lit × DataW H → Nat
  | (.string bytes, d) => bytes.length + uptoBulk d + 1
  | (_, d) => uptoBulk d + 1
 end
def uptoSmall : (H : Type) → List (DataW H) → Bool := fun _ ds => decide (uptoBulkAll ds ≤ 1048576)
def OpenSpec.upto (s : _root_.Go.ChangeSpec) : _root_.Go.OpenSpec := { _root_.Go.OpenSpec.ofChange s with cond := some uptoSmall }

/-- 'hayricklaw01.WireBack', WHERE WHAT IT READS IS OF BULK AT MOST 1048576: true; the input reads as it did. -/
def wireBackUptoRow : OpenClaim := { program := "ytafonjnanfekkaa", sum := "d700bd368c435126830af8a7b4c66cbde9f1309ebc19dc8a6d4bfc93134ab728", func := "hayrick/hayricklaw01.WireBack", spec := "wireBack", unfollowed := true, recurses := true, apart := false, narrowed := true }
def WireBackUptoSaid : Prop := wireBackUptoRow.holds Try.pinned (OpenSpec.upto wireBackSpec)

/-- 'hayricklaw04.LayoutSupers', WHERE WHAT IT READS IS OF BULK AT MOST 1048576: true; the input reads as it did. -/
def layoutSupersUptoRow : OpenClaim := { program := "ytafonjnanfekkaa", sum := "d700bd368c435126830af8a7b4c66cbde9f1309ebc19dc8a6d4bfc93134ab728", func := "hayrick/hayricklaw04.LayoutSupers", spec := "layoutSupers", unfollowed := true, recurses := true, apart := false, narrowed := true }
def LayoutSupersUptoSaid : Prop := layoutSupersUptoRow.holds Try.pinned (OpenSpec.upto layoutSupersSpec)

/-- 'hayricklaw04.LayoutGroups', WHERE WHAT IT READS IS OF BULK AT MOST 1048576: true; the input reads as it did. -/
def layoutGroupsUptoRow : OpenClaim := { program := "ytafonjnanfekkaa", sum := "d700bd368c435126830af8a7b4c66cbde9f1309ebc19dc8a6d4bfc93134ab728", func := "hayrick/hayricklaw04.LayoutGroups", spec := "layoutGroups", unfollowed := true, recurses := true, apart := false, narrowed := true }
def LayoutGroupsUptoSaid : Prop := layoutGroupsUptoRow.holds Try.pinned (OpenSpec.upto layoutGroupsSpec)

/-- 'hayricklaw07.LogRecords', WHERE WHAT IT READS IS OF BULK AT MOST 1048576: true; the input reads as it did. -/
def logRecordsUptoRow : OpenClaim := { program := "ytafonjnanfekkaa", sum := "d700bd368c435126830af8a7b4c66cbde9f1309ebc19dc8a6d4bfc93134ab728", func := "hayrick/hayricklaw07.LogRecords", spec := "logRecords", unfollowed := true, recurses := true, apart := false, narrowed := true }
def LogRecordsUptoSaid : Prop := logRecordsUptoRow.holds Try.pinned (OpenSpec.upto logRecordsSpec)

/-- 'hayricklaw07.LogBack', WHERE WHAT IT READS IS OF BULK AT MOST 1048576: true; the input reads as it did. -/
def logBackUptoRow : OpenClaim := { program := "ytafonjnanfekkaa", sum := "d700bd368c435126830af8a7b4c66cbde9f1309ebc19dc8a6d4bfc93134ab728", func := "hayrick/hayricklaw07.LogBack", spec := "logBack", unfollowed := true, recurses := true, apart := false, narrowed := true }
def LogBackUptoSaid : Prop := logBackUptoRow.holds Try.pinned (OpenSpec.upto logBackSpec)

/-- 'hayricklaw07.LogOnly', WHERE WHAT IT READS IS OF BULK AT MOST 1048576: true; the input reads as it did. -/
def logOnlyUptoRow : OpenClaim := { program := "ytafonjnanfekkaa", sum := "d700bd368c435126830af8a7b4c66cbde9f1309ebc19dc8a6d4bfc93134ab728", func := "hayrick/hayricklaw07.LogOnly", spec := "logOnly", unfollowed := true, recurses := true, apart := false, narrowed := true }
def LogOnlyUptoSaid : Prop := logOnlyUptoRow.holds Try.pinned (OpenSpec.upto logOnlySpec)

/-- 'hayricklaw07.LogNeeds', WHERE WHAT IT READS IS OF BULK AT MOST 1048576: true; the input reads as it did. -/
def logNeedsUptoRow : OpenClaim := { program := "ytafonjnanfekkaa", sum := "d700bd368c435126830af8a7b4c66cbde9f1309ebc19dc8a6d4bfc93134ab728", func := "hayrick/hayricklaw07.LogNeeds", spec := "logNeeds", unfollowed := true, recurses := true, apart := false, narrowed := true }
def LogNeedsUptoSaid : Prop := logNeedsUptoRow.holds Try.pinned (OpenSpec.upto logNeedsSpec)

/-- 'hayricklaw07.LogEscapes', WHERE WHAT IT READS IS OF BULK AT MOST 1048576: true; the input reads as it did. -/
def logEscapesUptoRow : OpenClaim := { program := "ytafonjnanfekkaa", sum := "d700bd368c435126830af8a7b4c66cbde9f1309ebc19dc8a6d4bfc93134ab728", func := "hayrick/hayricklaw07.LogEscapes", spec := "logEscapes", unfollowed := true, recurses := true, apart := false, narrowed := true }
def LogEscapesUptoSaid : Prop := logEscapesUptoRow.holds Try.pinned (OpenSpec.upto logEscapesSpec)

/-- 'hayricklaw04.LayoutBack', WHERE WHAT IT READS IS OF BULK AT MOST 1048576: true; the input reads as it did. -/
def layoutBackUptoRow : OpenClaim := { program := "ytafonjnanfekkaa", sum := "d700bd368c435126830af8a7b4c66cbde9f1309ebc19dc8a6d4bfc93134ab728", func := "hayrick/hayricklaw04.LayoutBack", spec := "layoutBack", unfollowed := true, recurses := true, apart := false, narrowed := true }
def LayoutBackUptoSaid : Prop := layoutBackUptoRow.holds Try.pinned (OpenSpec.upto layoutBackSpec)

/-- 'hayricklaw04.LayoutOnly', WHERE WHAT IT READS IS OF BULK AT MOST 1048576: true; the input reads as it did. -/
def layoutOnlyUptoRow : OpenClaim := { program := "ytafonjnanfekkaa", sum := "d700bd368c435126830af8a7b4c66cbde9f1309ebc19dc8a6d4bfc93134ab728", func := "hayrick/hayricklaw04.LayoutOnly", spec := "layoutOnly", unfollowed := true, recurses := true, apart := false, narrowed := true }
def LayoutOnlyUptoSaid : Prop := layoutOnlyUptoRow.holds Try.pinned (OpenSpec.upto layoutOnlySpec)

/-- 'hayricklaw07.LogLays', WHERE WHAT IT READS IS OF BULK AT MOST 1048576: true; the input reads as it did. -/
def logLaysUptoRow : OpenClaim := { program := "ytafonjnanfekkaa", sum := "d700bd368c435126830af8a7b4c66cbde9f1309ebc19dc8a6d4bfc93134ab728", func := "hayrick/hayricklaw07.LogLays", spec := "logLays", unfollowed := true, recurses := true, apart := false, narrowed := true }
def LogLaysUptoSaid : Prop := logLaysUptoRow.holds Try.pinned (OpenSpec.upto logLaysSpec)

/-- 'hayricklaw07.LogTold', WHERE WHAT IT READS IS OF BULK AT MOST 1048576: true; the input reads as it did. -/
def logToldUptoRow : OpenClaim := { program := "ytafonjnanfekkaa", sum := "d700bd368c435126830af8a7b4c66cbde9f1309ebc19dc8a6d4bfc93134ab728", func := "hayrick/hayricklaw07.LogTold", spec := "logTold", unfollowed := true, recurses := true, apart := false, narrowed := true }
def LogToldUptoSaid : Prop := logToldUptoRow.holds Try.pinned (OpenSpec.upto logToldSpec)

end Rows
end Go.Proofs.Ytafonjnanfekkaa
