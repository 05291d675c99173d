/-
  No cell of these rows narrows 'for every input' (looked for: loops, veiled, ifaces, maps, wideKeys, modest, calm, conditions, laid).
  DERIVED. THE GIVEN ROWS OF THIS SEAT. 6 by the template 'for every input the law returns true; each argument reads behind the call as it read before'; 0 by the template 'total and deterministic' (their statements: YtomoliickggghaaTotals.lean).
  GIVEN WITH THE SEED: the statements are not yours to turn. If you find one false, say at which input.
  Laid BY PROGRAM, IN A SANDBOX (cutbox-rows.mjs): the forced cells as the released guide's own fill.sh prints them over the translation e12f3e19720cc06c… (all of the seat's roots in one cut). By AI agents, Wed Nov 11 2026. No macro, syntax, notation, axiom, sorry.
-/
import Derived.Test.YtomoliickggghaaChecked
import GoSem.Claim
import GoSem.ClaimJoined
import GoSem.ClaimMapViews
import Derived.JoinedTies
import Derived.KernelRfl
namespace Go.Proofs.Ytomoliickggghaa
/- THE CELL 'sum', in the pinned program and in every row, IS THE sha256 OF THE DUMP (.gsa) THAT YtomoliickggghaaProg.lean LOADS. Nothing in Lean hashes anything: it is a label: what it is worth is what the hold of that sum in a sandbox is worth. -/
noncomputable def Try.pinned : Pinned := { name := "ytomoliickggghaa", sum := "e12f3e19720cc06c8b5e277dec8650efe1f330c60cf66262d992469d749f0207", checked := Try.checked }
namespace Rows
def none {H : Type} : Left H := { results := [], args := [] }

/-- 'hayricklaw06.StoreBack': WHATEVER THE INPUT: true; the input reads as it did. -/
def storeBackSpec : ChangeSpec := { name := "storeBack", fn := fun _ => fun
  | [d1, d2] => { results := [.lit (.bool true)], args := [d1, d2] }
  | _ => none }
def storeBackRow : OpenClaim := { program := "ytomoliickggghaa", sum := "e12f3e19720cc06c8b5e277dec8650efe1f330c60cf66262d992469d749f0207", func := "hayrick/hayricklaw06.StoreBack", spec := "storeBack", unfollowed := true, recurses := true, apart := false }
def StoreBackSaid : Prop := storeBackRow.holds Try.pinned (OpenSpec.ofChange storeBackSpec)

/-- ITS FALSE NEIGHBOUR: 'it returns false'. Refute it at one input. -/
def storeBackWrong : ChangeSpec := { name := "storeBack", fn := fun _ => fun
  | [d1, d2] => { results := [.lit (.bool false)], args := [d1, d2] }
  | _ => none }
def StoreBackWrongFalsely : Prop := storeBackRow.holds Try.pinned (OpenSpec.ofChange storeBackWrong)

/-- 'hayricklaw06.StoreCommits': WHATEVER THE INPUT: true; the input reads as it did. -/
def storeCommitsSpec : ChangeSpec := { name := "storeCommits", fn := fun _ => fun
  | [d] => { results := [.lit (.bool true)], args := [d] }
  | _ => none }
def storeCommitsRow : OpenClaim := { program := "ytomoliickggghaa", sum := "e12f3e19720cc06c8b5e277dec8650efe1f330c60cf66262d992469d749f0207", func := "hayrick/hayricklaw06.StoreCommits", spec := "storeCommits", unfollowed := true, recurses := true, apart := false }
def StoreCommitsSaid : Prop := storeCommitsRow.holds Try.pinned (OpenSpec.ofChange storeCommitsSpec)

/-- ITS FALSE NEIGHBOUR: 'it returns false'. Refute it at one input. -/
def storeCommitsWrong : ChangeSpec := { name := "storeCommits", fn := fun _ => fun
  | [d] => { results := [.lit (.bool false)], args := [d] }
  | _ => none }
def StoreCommitsWrongFalsely : Prop := storeCommitsRow.holds Try.pinned (OpenSpec.ofChange storeCommitsWrong)

/-- 'hayricklaw06.StoreSees': WHATEVER THE INPUT: true; the input reads as it did. -/
def storeSeesSpec : ChangeSpec := { name := "storeSees", fn := fun _ => fun
  | [d1, d2, d3] => { results := [.lit (.bool true)], args := [d1, d2, d3] }
  | _ => none }
def storeSeesRow : OpenClaim := { program := "ytomoliickggghaa", sum := "e12f3e19720cc06c8b5e277dec8650efe1f330c60cf66262d992469d749f0207", func := "hayrick/hayricklaw06.StoreSees", spec := "storeSees", unfollowed := true, recurses := true, apart := false }
def StoreSeesSaid : Prop := storeSeesRow.holds Try.pinned (OpenSpec.ofChange storeSeesSpec)

/-- ITS FALSE NEIGHBOUR: 'it returns false'. Refute it at one input. -/
def storeSeesWrong : ChangeSpec := { name := "storeSees", fn := fun _ => fun
  | [d1, d2, d3] => { results := [.lit (.bool false)], args := [d1, d2, d3] }
  | _ => none }
def StoreSeesWrongFalsely : Prop := storeSeesRow.holds Try.pinned (OpenSpec.ofChange storeSeesWrong)

/-- 'hayricklaw06.StoreNone': WHATEVER THE INPUT: true; the input reads as it did. -/
def storeNoneSpec : ChangeSpec := { name := "storeNone", fn := fun _ => fun
  | [d] => { results := [.lit (.bool true)], args := [d] }
  | _ => none }
def storeNoneRow : OpenClaim := { program := "ytomoliickggghaa", sum := "e12f3e19720cc06c8b5e277dec8650efe1f330c60cf66262d992469d749f0207", func := "hayrick/hayricklaw06.StoreNone", spec := "storeNone", unfollowed := true, recurses := true, apart := false }
def StoreNoneSaid : Prop := storeNoneRow.holds Try.pinned (OpenSpec.ofChange storeNoneSpec)

/-- ITS FALSE NEIGHBOUR: 'it returns false'. Refute it at one input. -/
def storeNoneWrong : ChangeSpec := { name := "storeNone", fn := fun _ => fun
  | [d] => { results := [.lit (.bool false)], args := [d] }
  | _ => none }
def StoreNoneWrongFalsely : Prop := storeNoneRow.holds Try.pinned (OpenSpec.ofChange storeNoneWrong)

/-- 'hayricklaw06.StoreHomes': WHATEVER THE INPUT: true; the input reads as it did. -/
def storeHomesSpec : ChangeSpec := { name := "storeHomes", fn := fun _ => fun
  | [d] => { results := [.lit (.bool true)], args := [d] }
  | _ => none }
def storeHomesRow : OpenClaim := { program := "ytomoliickggghaa", sum := "e12f3e19720cc06c8b5e277dec8650efe1f330c60cf66262d992469d749f0207", func := "hayrick/hayricklaw06.StoreHomes", spec := "storeHomes", unfollowed := true, recurses := true, apart := false }
def StoreHomesSaid : Prop := storeHomesRow.holds Try.pinned (OpenSpec.ofChange storeHomesSpec)

/-- ITS FALSE NEIGHBOUR: 'it returns false'. Refute it at one input. -/
def storeHomesWrong : ChangeSpec := { name := "storeHomes", fn := fun _ => fun
  | [d] => { results := [.lit (.bool false)], args := [d] }
  | _ => none }
def StoreHomesWrongFalsely : Prop := storeHomesRow.holds Try.pinned (OpenSpec.ofChange storeHomesWrong)

/-- 'hayricklaw06.StorePlays': WHATEVER THE INPUT: true; the input reads as it did. -/
def storePlaysSpec : ChangeSpec := { name := "storePlays", fn := fun _ => fun
  | [d1, d2, d3] => { results := [.lit (.bool true)], args := [d1, d2, d3] }
  | _ => none }
def storePlaysRow : OpenClaim := { program := "ytomoliickggghaa", sum := "e12f3e19720cc06c8b5e277dec8650efe1f330c60cf66262d992469d749f0207", func := "hayrick/hayricklaw06.StorePlays", spec := "storePlays", unfollowed := true, recurses := true, apart := false }
def StorePlaysSaid : Prop := storePlaysRow.holds Try.pinned (OpenSpec.ofChange storePlaysSpec)

/-- ITS FALSE NEIGHBOUR: 'it returns false'. Refute it at one input. -/
def storePlaysWrong : ChangeSpec := { name := "storePlays", fn := fun _ => fun
  | [d1, d2, d3] => { results := [.lit (.bool false)], args := [d1, d2, d3] }
  | _ => none }
def StorePlaysWrongFalsely : Prop := storePlaysRow.holds Try.pinned (OpenSpec.ofChange storePlaysWrong)

/- THE SECOND FORM. 'bulk': how many values and letters a reading holds, each counted each time it is reached (what is shared counts as often as it is met; a slice's spare places count too). A statement '..UptoSaid' is the law's where the arguments, and the package variables that the reading takes, are together of bulk at most 1048576: NARROWER than '..Said'. Prove '..Said' where nothing that the law and all that it calls make is longer than what came in: it says more and counts as full. Else prove '..UptoSaid'. A law counts once. -/
mutual
def uptoBulk {H : Type} : DataW H → Nat
  | .lit (.string bytes) => bytes.length + 1
  | .lit _ => 1
  | .nil => 1
  | .ptr d => uptoBulk d + 1
  | .slice elems spare => uptoBulkAll elems + uptoBulkAll spare + 1
  | .agg parts => uptoBulkAll parts + 1
  | .iface _ d => uptoBulk d + 1
  | .map entries => uptoBulkEntries entries + 1
  | .held _ => 1
def uptoBulkAll {H : Type} : List (DataW H) → Nat
  | [] => 0
  | d :: r => uptoBulk d + uptoBulkAll r
def uptoBulkEntries {H : Type} : List (Lit × DataW H) → Nat
  | [] => 0
  | x :: r => uptoBulkEntry x + uptoBulkEntries r
def uptoBulkEntry {H : Type} : Lit × DataW H → Nat
  | (.string bytes, d) => bytes.length + uptoBulk d + 1
  | (_, d) => uptoBulk d + 1
 end
def uptoSmall : (H : Type) → List (DataW H) → Bool := fun _ ds => decide (uptoBulkAll ds ≤ 1048576)
def OpenSpec.upto (s : _root_.Go.ChangeSpec) : _root_.Go.OpenSpec := { _root_.Go.OpenSpec.ofChange s with cond := some uptoSmall }

/-- 'hayricklaw06.StoreBack', WHERE WHAT IT READS IS OF BULK AT MOST 1048576: true; the input reads as it did. -/
def storeBackUptoRow : OpenClaim := { program := "ytomoliickggghaa", sum := "e12f3e19720cc06c8b5e277dec8650efe1f330c60cf66262d992469d749f0207", func := "hayrick/hayricklaw06.StoreBack", spec := "storeBack", unfollowed := true, recurses := true, apart := false, narrowed := true }
def StoreBackUptoSaid : Prop := storeBackUptoRow.holds Try.pinned (OpenSpec.upto storeBackSpec)

/-- 'hayricklaw06.StoreCommits', WHERE WHAT IT READS IS OF BULK AT MOST 1048576: true; the input reads as it did. -/
def storeCommitsUptoRow : OpenClaim := { program := "ytomoliickggghaa", sum := "e12f3e19720cc06c8b5e277dec8650efe1f330c60cf66262d992469d749f0207", func := "hayrick/hayricklaw06.StoreCommits", spec := "storeCommits", unfollowed := true, recurses := true, apart := false, narrowed := true }
def StoreCommitsUptoSaid : Prop := storeCommitsUptoRow.holds Try.pinned (OpenSpec.upto storeCommitsSpec)

/-- 'hayricklaw06.StoreSees', WHERE WHAT IT READS IS OF BULK AT MOST 1048576: true; the input reads as it did. -/
def storeSeesUptoRow : OpenClaim := { program := "ytomoliickggghaa", sum := "e12f3e19720cc06c8b5e277dec8650efe1f330c60cf66262d992469d749f0207", func := "hayrick/hayricklaw06.StoreSees", spec := "storeSees", unfollowed := true, recurses := true, apart := false, narrowed := true }
def StoreSeesUptoSaid : Prop := storeSeesUptoRow.holds Try.pinned (OpenSpec.upto storeSeesSpec)

/-- 'hayricklaw06.StoreNone', WHERE WHAT IT READS IS OF BULK AT MOST 1048576: true; the input reads as it did. -/
def storeNoneUptoRow : OpenClaim := { program := "ytomoliickggghaa", sum := "e12f3e19720cc06c8b5e277dec8650efe1f330c60cf66262d992469d749f0207", func := "hayrick/hayricklaw06.StoreNone", spec := "storeNone", unfollowed := true, recurses := true, apart := false, narrowed := true }
def StoreNoneUptoSaid : Prop := storeNoneUptoRow.holds Try.pinned (OpenSpec.upto storeNoneSpec)

/-- 'hayricklaw06.StoreHomes', WHERE WHAT IT READS IS OF BULK AT MOST 1048576: true; the input reads as it did. -/
def storeHomesUptoRow : OpenClaim := { program := "ytomoliickggghaa", sum := "e12f3e19720cc06c8b5e277dec8650efe1f330c60cf66262d992469d749f0207", func := "hayrick/hayricklaw06.StoreHomes", spec := "storeHomes", unfollowed := true, recurses := true, apart := false, narrowed := true }
def StoreHomesUptoSaid : Prop := storeHomesUptoRow.holds Try.pinned (OpenSpec.upto storeHomesSpec)

/-- 'hayricklaw06.StorePlays', WHERE WHAT IT READS IS OF BULK AT MOST 1048576: true; the input reads as it did. -/
def storePlaysUptoRow : OpenClaim := { program := "ytomoliickggghaa", sum := "e12f3e19720cc06c8b5e277dec8650efe1f330c60cf66262d992469d749f0207", func := "hayrick/hayricklaw06.StorePlays", spec := "storePlays", unfollowed := true, recurses := true, apart := false, narrowed := true }
def StorePlaysUptoSaid : Prop := storePlaysUptoRow.holds Try.pinned (OpenSpec.upto storePlaysSpec)

end Rows
end Go.Proofs.Ytomoliickggghaa
