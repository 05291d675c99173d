/-
  No cell of these rows narrows 'for every input' (looked for: loops, veiled, ifaces, maps, wideKeys, modest, calm, conditions, laid).
  DERIVED. THE GIVEN ROWS OF THIS SEAT. 8 by the template 'for every input the law returns true; each argument reads behind the call as it read before'; 0 by the template 'total and deterministic' (their statements: YtjjbkefgbjcmeaaTotals.lean).
  GIVEN WITH THE SEED: the statements are not yours to turn. If you find one false, say at which input.
  Laid BY PROGRAM, IN A SANDBOX (cutbox-rows.mjs): the forced cells as the released guide's own fill.sh prints them over the translation a75a161d96bae2da… (all of the seat's roots in one cut). By AI agents, Wed Nov 11 2026. No macro, syntax, notation, axiom, sorry.
-/
import Derived.Test.YtjjbkefgbjcmeaaChecked
import GoSem.Claim
import GoSem.ClaimJoined
import GoSem.ClaimMapViews
import Derived.JoinedTies
import Derived.KernelRfl
namespace Go.Proofs.Ytjjbkefgbjcmeaa
/- THE CELL 'sum', in the pinned program and in every row, IS THE sha256 OF THE DUMP (.gsa) THAT YtjjbkefgbjcmeaaProg.lean LOADS. Nothing in Lean hashes anything: it is a label: what it is worth is what the hold of that sum in a sandbox is worth. -/
noncomputable def Try.pinned : Pinned := { name := "ytjjbkefgbjcmeaa", sum := "a75a161d96bae2da31d1826b01907b19783066256b26112b3481480b125fd509", checked := Try.checked }
namespace Rows
def none {H : Type} : Left H := { results := [], args := [] }

/-- 'hayricklaw01.WireSums': WHATEVER THE INPUT: true; the input reads as it did. -/
def wireSumsSpec : ChangeSpec := { name := "wireSums", fn := fun _ => fun
  | [d1, d2] => { results := [.lit (.bool true)], args := [d1, d2] }
  | _ => none }
def wireSumsRow : OpenClaim := { program := "ytjjbkefgbjcmeaa", sum := "a75a161d96bae2da31d1826b01907b19783066256b26112b3481480b125fd509", func := "hayrick/hayricklaw01.WireSums", spec := "wireSums", unfollowed := true, recurses := true, apart := false }
def WireSumsSaid : Prop := wireSumsRow.holds Try.pinned (OpenSpec.ofChange wireSumsSpec)

/-- ITS FALSE NEIGHBOUR: 'it returns false'. Refute it at one input. -/
def wireSumsWrong : ChangeSpec := { name := "wireSums", fn := fun _ => fun
  | [d1, d2] => { results := [.lit (.bool false)], args := [d1, d2] }
  | _ => none }
def WireSumsWrongFalsely : Prop := wireSumsRow.holds Try.pinned (OpenSpec.ofChange wireSumsWrong)

/-- 'hayricklaw01.WireNumbers': WHATEVER THE INPUT: true; the input reads as it did. -/
def wireNumbersSpec : ChangeSpec := { name := "wireNumbers", fn := fun _ => fun
  | [d1, d2, d3, d4] => { results := [.lit (.bool true)], args := [d1, d2, d3, d4] }
  | _ => none }
def wireNumbersRow : OpenClaim := { program := "ytjjbkefgbjcmeaa", sum := "a75a161d96bae2da31d1826b01907b19783066256b26112b3481480b125fd509", func := "hayrick/hayricklaw01.WireNumbers", spec := "wireNumbers", unfollowed := true, recurses := true, apart := false }
def WireNumbersSaid : Prop := wireNumbersRow.holds Try.pinned (OpenSpec.ofChange wireNumbersSpec)

/-- ITS FALSE NEIGHBOUR: 'it returns false'. Refute it at one input. -/
def wireNumbersWrong : ChangeSpec := { name := "wireNumbers", fn := fun _ => fun
  | [d1, d2, d3, d4] => { results := [.lit (.bool false)], args := [d1, d2, d3, d4] }
  | _ => none }
def WireNumbersWrongFalsely : Prop := wireNumbersRow.holds Try.pinned (OpenSpec.ofChange wireNumbersWrong)

/-- 'hayricklaw01.WireJoins': WHATEVER THE INPUT: true; the input reads as it did. -/
def wireJoinsSpec : ChangeSpec := { name := "wireJoins", fn := fun _ => fun
  | [d1, d2, d3] => { results := [.lit (.bool true)], args := [d1, d2, d3] }
  | _ => none }
def wireJoinsRow : OpenClaim := { program := "ytjjbkefgbjcmeaa", sum := "a75a161d96bae2da31d1826b01907b19783066256b26112b3481480b125fd509", func := "hayrick/hayricklaw01.WireJoins", spec := "wireJoins", unfollowed := true, recurses := true, apart := false }
def WireJoinsSaid : Prop := wireJoinsRow.holds Try.pinned (OpenSpec.ofChange wireJoinsSpec)

/-- ITS FALSE NEIGHBOUR: 'it returns false'. Refute it at one input. -/
def wireJoinsWrong : ChangeSpec := { name := "wireJoins", fn := fun _ => fun
  | [d1, d2, d3] => { results := [.lit (.bool false)], args := [d1, d2, d3] }
  | _ => none }
def WireJoinsWrongFalsely : Prop := wireJoinsRow.holds Try.pinned (OpenSpec.ofChange wireJoinsWrong)

/-- 'hayricklaw01.WireApart': WHATEVER THE INPUT: true; the input reads as it did. -/
def wireApartSpec : ChangeSpec := { name := "wireApart", fn := fun _ => fun
  | [d1, d2, d3, d4, d5, d6] => { results := [.lit (.bool true)], args := [d1, d2, d3, d4, d5, d6] }
  | _ => none }
def wireApartRow : OpenClaim := { program := "ytjjbkefgbjcmeaa", sum := "a75a161d96bae2da31d1826b01907b19783066256b26112b3481480b125fd509", func := "hayrick/hayricklaw01.WireApart", spec := "wireApart", unfollowed := true, recurses := true, apart := false }
def WireApartSaid : Prop := wireApartRow.holds Try.pinned (OpenSpec.ofChange wireApartSpec)

/-- ITS FALSE NEIGHBOUR: 'it returns false'. Refute it at one input. -/
def wireApartWrong : ChangeSpec := { name := "wireApart", fn := fun _ => fun
  | [d1, d2, d3, d4, d5, d6] => { results := [.lit (.bool false)], args := [d1, d2, d3, d4, d5, d6] }
  | _ => none }
def WireApartWrongFalsely : Prop := wireApartRow.holds Try.pinned (OpenSpec.ofChange wireApartWrong)

/-- 'hayricklaw01.WireSeals': WHATEVER THE INPUT: true; the input reads as it did. -/
def wireSealsSpec : ChangeSpec := { name := "wireSeals", fn := fun _ => fun
  | [d1, d2, d3] => { results := [.lit (.bool true)], args := [d1, d2, d3] }
  | _ => none }
def wireSealsRow : OpenClaim := { program := "ytjjbkefgbjcmeaa", sum := "a75a161d96bae2da31d1826b01907b19783066256b26112b3481480b125fd509", func := "hayrick/hayricklaw01.WireSeals", spec := "wireSeals", unfollowed := true, recurses := true, apart := false }
def WireSealsSaid : Prop := wireSealsRow.holds Try.pinned (OpenSpec.ofChange wireSealsSpec)

/-- ITS FALSE NEIGHBOUR: 'it returns false'. Refute it at one input. -/
def wireSealsWrong : ChangeSpec := { name := "wireSeals", fn := fun _ => fun
  | [d1, d2, d3] => { results := [.lit (.bool false)], args := [d1, d2, d3] }
  | _ => none }
def WireSealsWrongFalsely : Prop := wireSealsRow.holds Try.pinned (OpenSpec.ofChange wireSealsWrong)

/-- 'hayricklaw01.WirePacks': WHATEVER THE INPUT: true; the input reads as it did. -/
def wirePacksSpec : ChangeSpec := { name := "wirePacks", fn := fun _ => fun
  | [d1, d2, d3, d4] => { results := [.lit (.bool true)], args := [d1, d2, d3, d4] }
  | _ => none }
def wirePacksRow : OpenClaim := { program := "ytjjbkefgbjcmeaa", sum := "a75a161d96bae2da31d1826b01907b19783066256b26112b3481480b125fd509", func := "hayrick/hayricklaw01.WirePacks", spec := "wirePacks", unfollowed := true, recurses := true, apart := false }
def WirePacksSaid : Prop := wirePacksRow.holds Try.pinned (OpenSpec.ofChange wirePacksSpec)

/-- ITS FALSE NEIGHBOUR: 'it returns false'. Refute it at one input. -/
def wirePacksWrong : ChangeSpec := { name := "wirePacks", fn := fun _ => fun
  | [d1, d2, d3, d4] => { results := [.lit (.bool false)], args := [d1, d2, d3, d4] }
  | _ => none }
def WirePacksWrongFalsely : Prop := wirePacksRow.holds Try.pinned (OpenSpec.ofChange wirePacksWrong)

/-- 'hayricklaw01.WireOnly': WHATEVER THE INPUT: true; the input reads as it did. -/
def wireOnlySpec : ChangeSpec := { name := "wireOnly", fn := fun _ => fun
  | [d1, d2] => { results := [.lit (.bool true)], args := [d1, d2] }
  | _ => none }
def wireOnlyRow : OpenClaim := { program := "ytjjbkefgbjcmeaa", sum := "a75a161d96bae2da31d1826b01907b19783066256b26112b3481480b125fd509", func := "hayrick/hayricklaw01.WireOnly", spec := "wireOnly", unfollowed := true, recurses := true, apart := false }
def WireOnlySaid : Prop := wireOnlyRow.holds Try.pinned (OpenSpec.ofChange wireOnlySpec)

/-- ITS FALSE NEIGHBOUR: 'it returns false'. Refute it at one input. -/
def wireOnlyWrong : ChangeSpec := { name := "wireOnly", fn := fun _ => fun
  | [d1, d2] => { results := [.lit (.bool false)], args := [d1, d2] }
  | _ => none }
def WireOnlyWrongFalsely : Prop := wireOnlyRow.holds Try.pinned (OpenSpec.ofChange wireOnlyWrong)

/-- 'hayricklaw01.WireBack': WHATEVER THE INPUT: true; the input reads as it did. -/
def wireBackSpec : ChangeSpec := { name := "wireBack", fn := fun _ => fun
  | [d1, d2, d3, d4] => { results := [.lit (.bool true)], args := [d1, d2, d3, d4] }
  | _ => none }
def wireBackRow : OpenClaim := { program := "ytjjbkefgbjcmeaa", sum := "a75a161d96bae2da31d1826b01907b19783066256b26112b3481480b125fd509", func := "hayrick/hayricklaw01.WireBack", spec := "wireBack", unfollowed := true, recurses := true, apart := false }
def WireBackSaid : Prop := wireBackRow.holds Try.pinned (OpenSpec.ofChange wireBackSpec)

/-- ITS FALSE NEIGHBOUR: 'it returns false'. Refute it at one input. -/
def wireBackWrong : ChangeSpec := { name := "wireBack", fn := fun _ => fun
  | [d1, d2, d3, d4] => { results := [.lit (.bool false)], args := [d1, d2, d3, d4] }
  | _ => none }
def WireBackWrongFalsely : Prop := wireBackRow.holds Try.pinned (OpenSpec.ofChange wireBackWrong)

/- THE SECOND FORM. 'bulk': how many values and letters a reading holds, each counted each time it is reached (what is shared counts as often as it is met; a slice's spare places count too). A statement '..UptoSaid' is the law's where the arguments, and the package variables that the reading takes, are together of bulk at most 1048576: NARROWER than '..Said'. Prove '..Said' where nothing that the law and all that it calls make is longer than what came in: it says more and counts as full. Else prove '..UptoSaid'. A law counts once. -/
mutual
def uptoBulk {H : Type} : DataW H → Nat
  | .lit (.string bytes) => bytes.length + 1
  | .lit _ => 1
  | .nil => 1
  | .ptr d => uptoBulk d + 1
  | .slice elems spare => uptoBulkAll elems + uptoBulkAll spare + 1
  | .agg parts => uptoBulkAll parts + 1
  | .iface _ d => uptoBulk d + 1
  | .map entries => uptoBulkEntries entries + 1
  | .held _ => 1
def uptoBulkAll {H : Type} : List (DataW H) → Nat
  | [] => 0
  | d :: r => uptoBulk d + uptoBulkAll r
def uptoBulkEntries {H : Type} : List (Lit × DataW H) → Nat
  | [] => 0
  | x :: r => uptoBulkEntry x + uptoBulkEntries r
def uptoBulkEntry {H : Type} : Lit × DataW H → Nat
  | (.string bytes, d) => bytes.length + uptoBulk d + 1
  | (_, d) => uptoBulk d + 1
 end
def uptoSmall : (H : Type) → List (DataW H) → Bool := fun _ ds => decide (uptoBulkAll ds ≤ 1048576)
def OpenSpec.upto (s : _root_.Go.ChangeSpec) : _root_.Go.OpenSpec := { _root_.Go.OpenSpec.ofChange s with cond := some uptoSmall }

/-- 'hayricklaw01.WireSums', WHERE WHAT IT READS IS OF BULK AT MOST 1048576: true; the input reads as it did. -/
def wireSumsUptoRow : OpenClaim := { program := "ytjjbkefgbjcmeaa", sum := "a75a161d96bae2da31d1826b01907b19783066256b26112b3481480b125fd509", func := "hayrick/hayricklaw01.WireSums", spec := "wireSums", unfollowed := true, recurses := true, apart := false, narrowed := true }
def WireSumsUptoSaid : Prop := wireSumsUptoRow.holds Try.pinned (OpenSpec.upto wireSumsSpec)

/-- 'hayricklaw01.WireNumbers', WHERE WHAT IT READS IS OF BULK AT MOST 1048576: true; the input reads as it did. -/
def wireNumbersUptoRow : OpenClaim := { program := "ytjjbkefgbjcmeaa", sum := "a75a161d96bae2da31d1826b01907b19783066256b26112b3481480b125fd509", func := "hayrick/hayricklaw01.WireNumbers", spec := "wireNumbers", unfollowed := true, recurses := true, apart := false, narrowed := true }
def WireNumbersUptoSaid : Prop := wireNumbersUptoRow.holds Try.pinned (OpenSpec.upto wireNumbersSpec)

/-- 'hayricklaw01.WireJoins', WHERE WHAT IT READS IS OF BULK AT MOST 1048576: true; the input reads as it did. -/
def wireJoinsUptoRow : OpenClaim := { program := "ytjjbkefgbjcmeaa", sum := "a75a161d96bae2da31d1826b01907b19783066256b26112b3481480b125fd509", func := "hayrick/hayricklaw01.WireJoins", spec := "wireJoins", unfollowed := true, recurses := true, apart := false, narrowed := true }
def WireJoinsUptoSaid : Prop := wireJoinsUptoRow.holds Try.pinned (OpenSpec.upto wireJoinsSpec)

/-- 'hayricklaw01.WireApart', WHERE WHAT IT READS IS OF BULK AT MOST 1048576: true; the input reads as it did. -/
def wireApartUptoRow : OpenClaim := { program := "ytjjbkefgbjcmeaa", sum := "a75a161d96bae2da31d1826b01907b19783066256b26112b3481480b125fd509", func := "hayrick/hayricklaw01.WireApart", spec := "wireApart", unfollowed := true, recurses := true, apart := false, narrowed := true }
def WireApartUptoSaid : Prop := wireApartUptoRow.holds Try.pinned (OpenSpec.upto wireApartSpec)

/-- 'hayricklaw01.WireSeals', WHERE WHAT IT READS IS OF BULK AT MOST 1048576: true; the input reads as it did. -/
def wireSealsUptoRow : OpenClaim := { program := "ytjjbkefgbjcmeaa", sum := "a75a161d96bae2da31d1826b01907b19783066256b26112b3481480b125fd509", func := "hayrick/hayricklaw01.WireSeals", spec := "wireSeals", unfollowed := true, recurses := true, apart := false, narrowed := true }
def WireSealsUptoSaid : Prop := wireSealsUptoRow.holds Try.pinned (OpenSpec.upto wireSealsSpec)

/-- 'hayricklaw01.WirePacks', WHERE WHAT IT READS IS OF BULK AT MOST 1048576: true; the input reads as it did. -/
def wirePacksUptoRow : OpenClaim := { program := "ytjjbkefgbjcmeaa", sum := "a75a161d96bae2da31d1826b01907b19783066256b26112b3481480b125fd509", func := "hayrick/hayricklaw01.WirePacks", spec := "wirePacks", unfollowed := true, recurses := true, apart := false, narrowed := true }
def WirePacksUptoSaid : Prop := wirePacksUptoRow.holds Try.pinned (OpenSpec.upto wirePacksSpec)

/-- 'hayricklaw01.WireOnly', WHERE WHAT IT READS IS OF BULK AT MOST 1048576: true; the input reads as it did. -/
def wireOnlyUptoRow : OpenClaim := { program := "ytjjbkefgbjcmeaa", sum := "a75a161d96bae2da31d1826b01907b19783066256b26112b3481480b125fd509", func := "hayrick/hayricklaw01.WireOnly", spec := "wireOnly", unfollowed := true, recurses := true, apart := false, narrowed := true }
def WireOnlyUptoSaid : Prop := wireOnlyUptoRow.holds Try.pinned (OpenSpec.upto wireOnlySpec)

/-- 'hayricklaw01.WireBack', WHERE WHAT IT READS IS OF BULK AT MOST 1048576: true; the input reads as it did. -/
def wireBackUptoRow : OpenClaim := { program := "ytjjbkefgbjcmeaa", sum := "a75a161d96bae2da31d1826b01907b19783066256b26112b3481480b125fd509", func := "hayrick/hayricklaw01.WireBack", spec := "wireBack", unfollowed := true, recurses := true, apart := false, narrowed := true }
def WireBackUptoSaid : Prop := wireBackUptoRow.holds Try.pinned (OpenSpec.upto wireBackSpec)

end Rows
end Go.Proofs.Ytjjbkefgbjcmeaa
