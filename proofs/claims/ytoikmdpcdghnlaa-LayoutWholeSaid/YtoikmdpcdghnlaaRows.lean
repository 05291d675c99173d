/-
  No cell of these rows narrows 'for every input' (looked for: loops, veiled, ifaces, maps, wideKeys, modest, calm, conditions, laid).
  DERIVED. THE GIVEN ROWS OF THIS SEAT. 3 by the template 'for every input the law returns true; each argument reads behind the call as it read before'; 0 by the template 'total and deterministic' (their statements: YtoikmdpcdghnlaaTotals.lean).
  GIVEN WITH THE SEED: the statements are not yours to turn. If you find one false, say at which input.
  Laid BY PROGRAM, IN A SANDBOX (cutbox-rows.mjs): the forced cells as the released guide's own fill.sh prints them over the translation f9a7c03e5e9dc3e1… (all of the seat's roots in one cut). By AI agents, Wed Nov 11 2026. No macro, syntax, notation, axiom, sorry.
-/
import Derived.Test.YtoikmdpcdghnlaaChecked
import GoSem.Claim
import GoSem.ClaimJoined
import GoSem.ClaimMapViews
import Derived.JoinedTies
import Derived.KernelRfl
namespace Go.Proofs.Ytoikmdpcdghnlaa
/- THE CELL 'sum', in the pinned program and in every row, IS THE sha256 OF THE DUMP (.gsa) THAT YtoikmdpcdghnlaaProg.lean LOADS. Nothing in Lean hashes anything: it is a label: what it is worth is what the hold of that sum in a sandbox is worth. -/
noncomputable def Try.pinned : Pinned := { name := "ytoikmdpcdghnlaa", sum := "f9a7c03e5e9dc3e1717837ea3d5e19261a225f7948413407800331f6dd28c2c1", checked := Try.checked }
namespace Rows
def none {H : Type} : Left H := { results := [], args := [] }

/-- 'hayricklaw04.LayoutPlaces': WHATEVER THE INPUT: true; the input reads as it did. -/
def layoutPlacesSpec : ChangeSpec := { name := "layoutPlaces", fn := fun _ => fun
  | [d1, d2, d3] => { results := [.lit (.bool true)], args := [d1, d2, d3] }
  | _ => none }
def layoutPlacesRow : OpenClaim := { program := "ytoikmdpcdghnlaa", sum := "f9a7c03e5e9dc3e1717837ea3d5e19261a225f7948413407800331f6dd28c2c1", func := "hayrick/hayricklaw04.LayoutPlaces", spec := "layoutPlaces", apart := false }
def LayoutPlacesSaid : Prop := layoutPlacesRow.holds Try.pinned (OpenSpec.ofChange layoutPlacesSpec)

/-- ITS FALSE NEIGHBOUR: 'it returns false'. Refute it at one input. -/
def layoutPlacesWrong : ChangeSpec := { name := "layoutPlaces", fn := fun _ => fun
  | [d1, d2, d3] => { results := [.lit (.bool false)], args := [d1, d2, d3] }
  | _ => none }
def LayoutPlacesWrongFalsely : Prop := layoutPlacesRow.holds Try.pinned (OpenSpec.ofChange layoutPlacesWrong)

/-- 'hayricklaw04.LayoutWhole': WHATEVER THE INPUT: true; the input reads as it did. -/
def layoutWholeSpec : ChangeSpec := { name := "layoutWhole", fn := fun _ => fun
  | [d] => { results := [.lit (.bool true)], args := [d] }
  | _ => none }
def layoutWholeRow : OpenClaim := { program := "ytoikmdpcdghnlaa", sum := "f9a7c03e5e9dc3e1717837ea3d5e19261a225f7948413407800331f6dd28c2c1", func := "hayrick/hayricklaw04.LayoutWhole", spec := "layoutWhole", apart := false }
def LayoutWholeSaid : Prop := layoutWholeRow.holds Try.pinned (OpenSpec.ofChange layoutWholeSpec)

/-- ITS FALSE NEIGHBOUR: 'it returns false'. Refute it at one input. -/
def layoutWholeWrong : ChangeSpec := { name := "layoutWhole", fn := fun _ => fun
  | [d] => { results := [.lit (.bool false)], args := [d] }
  | _ => none }
def LayoutWholeWrongFalsely : Prop := layoutWholeRow.holds Try.pinned (OpenSpec.ofChange layoutWholeWrong)

/-- 'hayricklaw04.LayoutMore': WHATEVER THE INPUT: true; the input reads as it did. -/
def layoutMoreSpec : ChangeSpec := { name := "layoutMore", fn := fun _ => fun
  | [d1, d2, d3] => { results := [.lit (.bool true)], args := [d1, d2, d3] }
  | _ => none }
def layoutMoreRow : OpenClaim := { program := "ytoikmdpcdghnlaa", sum := "f9a7c03e5e9dc3e1717837ea3d5e19261a225f7948413407800331f6dd28c2c1", func := "hayrick/hayricklaw04.LayoutMore", spec := "layoutMore", apart := false }
def LayoutMoreSaid : Prop := layoutMoreRow.holds Try.pinned (OpenSpec.ofChange layoutMoreSpec)

/-- ITS FALSE NEIGHBOUR: 'it returns false'. Refute it at one input. -/
def layoutMoreWrong : ChangeSpec := { name := "layoutMore", fn := fun _ => fun
  | [d1, d2, d3] => { results := [.lit (.bool false)], args := [d1, d2, d3] }
  | _ => none }
def LayoutMoreWrongFalsely : Prop := layoutMoreRow.holds Try.pinned (OpenSpec.ofChange layoutMoreWrong)

/- THE SECOND FORM. 'bulk': how many values and letters a reading holds, each counted each time it is reached (what is shared counts as often as it is met; a slice's spare places count too). A statement '..UptoSaid' is the law's where the arguments, and the package variables that the reading takes, are together of bulk at most 1048576: NARROWER than '..Said'. Prove '..Said' where nothing that the law and all that it calls make is longer than what came in: it says more and counts as full. Else prove '..UptoSaid'. A law counts once. -/
mutual
def uptoBulk {H : Type} : DataW H → Nat
  | .lit (.string bytes) => bytes.length + 1
  | .lit _ => 1
  | .nil => 1
  | .ptr d => uptoBulk d + 1
  | .slice elems spare => uptoBulkAll elems + uptoBulkAll spare + 1
  | .agg parts => uptoBulkAll parts + 1
  | .iface _ d => uptoBulk d + 1
  | .map entries => uptoBulkEntries entries + 1
  | .held _ => 1
def uptoBulkAll {H : Type} : List (DataW H) → Nat
  | [] => 0
  | d :: r => uptoBulk d + uptoBulkAll r
def uptoBulkEntries {H : Type} : List (Lit × DataW H) → Nat
  | [] => 0
  | x :: r => uptoBulkEntry x + uptoBulkEntries r
def uptoBulkEntry {H : Type} : Lit × DataW H → Nat
  | (.string bytes, d) => bytes.length + uptoBulk d + 1
  | (_, d) => uptoBulk d + 1
 end
def uptoSmall : (H : Type) → List (DataW H) → Bool := fun _ ds => decide (uptoBulkAll ds ≤ 1048576)
def OpenSpec.upto (s : _root_.Go.ChangeSpec) : _root_.Go.OpenSpec := { _root_.Go.OpenSpec.ofChange s with cond := some uptoSmall }

/-- 'hayricklaw04.LayoutPlaces', WHERE WHAT IT READS IS OF BULK AT MOST 1048576: true; the input reads as it did. -/
def layoutPlacesUptoRow : OpenClaim := { program := "ytoikmdpcdghnlaa", sum := "f9a7c03e5e9dc3e1717837ea3d5e19261a225f7948413407800331f6dd28c2c1", func := "hayrick/hayricklaw04.LayoutPlaces", spec := "layoutPlaces", apart := false, narrowed := true }
def LayoutPlacesUptoSaid : Prop := layoutPlacesUptoRow.holds Try.pinned (OpenSpec.upto layoutPlacesSpec)

/-- 'hayricklaw04.LayoutWhole', WHERE WHAT IT READS IS OF BULK AT MOST 1048576: true; the input reads as it did. -/
def layoutWholeUptoRow : OpenClaim := { program := "ytoikmdpcdghnlaa", sum := "f9a7c03e5e9dc3e1717837ea3d5e19261a225f7948413407800331f6dd28c2c1", func := "hayrick/hayricklaw04.LayoutWhole", spec := "layoutWhole", apart := false, narrowed := true }
def LayoutWholeUptoSaid : Prop := layoutWholeUptoRow.holds Try.pinned (OpenSpec.upto layoutWholeSpec)

/-- 'hayricklaw04.LayoutMore', WHERE WHAT IT READS IS OF BULK AT MOST 1048576: true; the input reads as it did. -/
def layoutMoreUptoRow : OpenClaim := { program := "ytoikmdpcdghnlaa", sum := "f9a7c03e5e9dc3e1717837ea3d5e19261a225f7948413407800331f6dd28c2c1", func := "hayrick/hayricklaw04.LayoutMore", spec := "layoutMore", apart := false, narrowed := true }
def LayoutMoreUptoSaid : Prop := layoutMoreUptoRow.holds Try.pinned (OpenSpec.upto layoutMoreSpec)

end Rows
end Go.Proofs.Ytoikmdpcdghnlaa
