/-
  DERIVED. GIVEN WITH THE SEED: THE CARDS: each row of YtcmpkcmfhfajpaaDoorRows.lean that lists a variable, with what it lists TIED to the program's text (the seventh form; the later family's looks); each row that meets fmt, with fmt's text TOLD by the authors' own Lean function (tested against real Go, not proved from fmt's source: count such statements apart). THE CARD IS WHAT COUNTS. Prove the row's statement (the work); the ties are given (YtcmpkcmfhfajpaaDoorTie.lean); close each card by the builder's one call (the guide's Derived/Test/ToyasCard.lean, 'card_holds'). Laid BY PROGRAM, IN A SANDBOX (cutbox-door.mjs). By AI agents, Wed Nov 11 2026. No macro, syntax, notation, axiom, sorry.
-/
import Derived.Test.YtcmpkcmfhfajpaaDoorRows
import GoSem.ClaimSeven
namespace Go.Proofs.YtcmpkcmfhfajpaaDoor
namespace Rows

/-- THE TIED CARD OF 'hayricklaw05.BitsFinds'. -/
def bitsFindsCard : Claim7 := { stood := { row := bitsFindsRow, standIns := [], harness := (true, "96ebdc0b6590c3421474a3afdebc92b9620e8281886a65cccbfbd02a6d73769d"), looks := true }, kinds := [], alts := [], laidByText := true, laidKinds := [.data, .data], laidTests := true, laidLooks := .later }
def BitsFindsCardSaid : Prop := Claim7.holds Tryd.pinned (.plain (OpenSpec.ofChange bitsFindsSpec)) bitsFindsCard

/-- THE TIED CARD OF 'hayricklaw05.BitsBack'. -/
def bitsBackCard : Claim7 := { stood := { row := bitsBackRow, standIns := [], harness := (true, "96ebdc0b6590c3421474a3afdebc92b9620e8281886a65cccbfbd02a6d73769d"), looks := true }, kinds := [], alts := [], laidByText := true, laidKinds := [.data, .data], laidTests := true, laidLooks := .later }
def BitsBackCardSaid : Prop := Claim7.holds Tryd.pinned (.plain (OpenSpec.ofChange bitsBackSpec)) bitsBackCard

/-- THE TIED CARD OF 'hayricklaw05.BitsRoom'. -/
def bitsRoomCard : Claim7 := { stood := { row := bitsRoomRow, standIns := [], harness := (true, "96ebdc0b6590c3421474a3afdebc92b9620e8281886a65cccbfbd02a6d73769d"), looks := true }, kinds := [], alts := [], laidByText := true, laidKinds := [.data, .data], laidTests := true, laidLooks := .later }
def BitsRoomCardSaid : Prop := Claim7.holds Tryd.pinned (.plain (OpenSpec.ofChange bitsRoomSpec)) bitsRoomCard

/-- THE TIED CARD OF 'hayricklaw05.BitsTurns'. -/
def bitsTurnsCard : Claim7 := { stood := { row := bitsTurnsRow, standIns := [], harness := (true, "96ebdc0b6590c3421474a3afdebc92b9620e8281886a65cccbfbd02a6d73769d"), looks := true }, kinds := [], alts := [], laidByText := true, laidKinds := [.data, .data], laidTests := true, laidLooks := .later }
def BitsTurnsCardSaid : Prop := Claim7.holds Tryd.pinned (.plain (OpenSpec.ofChange bitsTurnsSpec)) bitsTurnsCard

/-- THE TIED CARD OF 'hayricklaw05.BitsBuddies'. -/
def bitsBuddiesCard : Claim7 := { stood := { row := bitsBuddiesRow, standIns := [], harness := (true, "96ebdc0b6590c3421474a3afdebc92b9620e8281886a65cccbfbd02a6d73769d"), looks := true }, kinds := [], alts := [], laidByText := true, laidKinds := [.data, .data], laidTests := true, laidLooks := .later }
def BitsBuddiesCardSaid : Prop := Claim7.holds Tryd.pinned (.plain (OpenSpec.ofChange bitsBuddiesSpec)) bitsBuddiesCard

/-- THE TIED CARD OF 'hayricklaw05.BitsGoal'. -/
def bitsGoalCard : Claim7 := { stood := { row := bitsGoalRow, standIns := [], harness := (true, "96ebdc0b6590c3421474a3afdebc92b9620e8281886a65cccbfbd02a6d73769d"), looks := true }, kinds := [], alts := [], laidByText := true, laidKinds := [.data, .data], laidTests := true, laidLooks := .later }
def BitsGoalCardSaid : Prop := Claim7.holds Tryd.pinned (.plain (OpenSpec.ofChange bitsGoalSpec)) bitsGoalCard

/-- THE TIED CARD OF 'hayricklaw05.BitsTurned'. -/
def bitsTurnedCard : Claim7 := { stood := { row := bitsTurnedRow, standIns := [], harness := (true, "96ebdc0b6590c3421474a3afdebc92b9620e8281886a65cccbfbd02a6d73769d"), looks := true }, kinds := [], alts := [], laidByText := true, laidKinds := [.data, .data], laidTests := true, laidLooks := .later }
def BitsTurnedCardSaid : Prop := Claim7.holds Tryd.pinned (.plain (OpenSpec.ofChange bitsTurnedSpec)) bitsTurnedCard

/-- THE SECOND FORM's CARD OF 'hayricklaw05.BitsFinds'. -/
def bitsFindsUptoCard : Claim7 := { stood := { row := bitsFindsUptoRow, standIns := [], harness := (true, "96ebdc0b6590c3421474a3afdebc92b9620e8281886a65cccbfbd02a6d73769d"), looks := true }, kinds := [], alts := [], laidByText := true, laidKinds := [.data, .data], laidTests := true, laidLooks := .later }
def BitsFindsUptoCardSaid : Prop := Claim7.holds Tryd.pinned (.plain (OpenSpec.upto bitsFindsSpec)) bitsFindsUptoCard

/-- THE SECOND FORM's CARD OF 'hayricklaw05.BitsBack'. -/
def bitsBackUptoCard : Claim7 := { stood := { row := bitsBackUptoRow, standIns := [], harness := (true, "96ebdc0b6590c3421474a3afdebc92b9620e8281886a65cccbfbd02a6d73769d"), looks := true }, kinds := [], alts := [], laidByText := true, laidKinds := [.data, .data], laidTests := true, laidLooks := .later }
def BitsBackUptoCardSaid : Prop := Claim7.holds Tryd.pinned (.plain (OpenSpec.upto bitsBackSpec)) bitsBackUptoCard

/-- THE SECOND FORM's CARD OF 'hayricklaw05.BitsRoom'. -/
def bitsRoomUptoCard : Claim7 := { stood := { row := bitsRoomUptoRow, standIns := [], harness := (true, "96ebdc0b6590c3421474a3afdebc92b9620e8281886a65cccbfbd02a6d73769d"), looks := true }, kinds := [], alts := [], laidByText := true, laidKinds := [.data, .data], laidTests := true, laidLooks := .later }
def BitsRoomUptoCardSaid : Prop := Claim7.holds Tryd.pinned (.plain (OpenSpec.upto bitsRoomSpec)) bitsRoomUptoCard

/-- THE SECOND FORM's CARD OF 'hayricklaw05.BitsTurns'. -/
def bitsTurnsUptoCard : Claim7 := { stood := { row := bitsTurnsUptoRow, standIns := [], harness := (true, "96ebdc0b6590c3421474a3afdebc92b9620e8281886a65cccbfbd02a6d73769d"), looks := true }, kinds := [], alts := [], laidByText := true, laidKinds := [.data, .data], laidTests := true, laidLooks := .later }
def BitsTurnsUptoCardSaid : Prop := Claim7.holds Tryd.pinned (.plain (OpenSpec.upto bitsTurnsSpec)) bitsTurnsUptoCard

/-- THE SECOND FORM's CARD OF 'hayricklaw05.BitsBuddies'. -/
def bitsBuddiesUptoCard : Claim7 := { stood := { row := bitsBuddiesUptoRow, standIns := [], harness := (true, "96ebdc0b6590c3421474a3afdebc92b9620e8281886a65cccbfbd02a6d73769d"), looks := true }, kinds := [], alts := [], laidByText := true, laidKinds := [.data, .data], laidTests := true, laidLooks := .later }
def BitsBuddiesUptoCardSaid : Prop := Claim7.holds Tryd.pinned (.plain (OpenSpec.upto bitsBuddiesSpec)) bitsBuddiesUptoCard

/-- THE SECOND FORM's CARD OF 'hayricklaw05.BitsGoal'. -/
def bitsGoalUptoCard : Claim7 := { stood := { row := bitsGoalUptoRow, standIns := [], harness := (true, "96ebdc0b6590c3421474a3afdebc92b9620e8281886a65cccbfbd02a6d73769d"), looks := true }, kinds := [], alts := [], laidByText := true, laidKinds := [.data, .data], laidTests := true, laidLooks := .later }
def BitsGoalUptoCardSaid : Prop := Claim7.holds Tryd.pinned (.plain (OpenSpec.upto bitsGoalSpec)) bitsGoalUptoCard

/-- THE SECOND FORM's CARD OF 'hayricklaw05.BitsTurned'. -/
def bitsTurnedUptoCard : Claim7 := { stood := { row := bitsTurnedUptoRow, standIns := [], harness := (true, "96ebdc0b6590c3421474a3afdebc92b9620e8281886a65cccbfbd02a6d73769d"), looks := true }, kinds := [], alts := [], laidByText := true, laidKinds := [.data, .data], laidTests := true, laidLooks := .later }
def BitsTurnedUptoCardSaid : Prop := Claim7.holds Tryd.pinned (.plain (OpenSpec.upto bitsTurnedSpec)) bitsTurnedUptoCard
end Rows
end Go.Proofs.YtcmpkcmfhfajpaaDoor
