/-
  DERIVED. GIVEN WITH THE SEED: THE CARDS: each row of YtbgkepdnemgkdaaGreatDoorRows.lean that lists a variable, with what it lists TIED to the program's text (the seventh form; the later family's looks); each row that meets fmt, with fmt's text TOLD by the authors' own Lean function (tested against real Go, not proved from fmt's source: count such statements apart). THE CARD IS WHAT COUNTS. Prove the row's statement (the work); the ties are given (YtbgkepdnemgkdaaGreatDoorTie.lean); close each card by the builder's one call (the guide's Derived/Test/ToyasCard.lean, 'card_holds'). Laid BY PROGRAM, IN A SANDBOX (cutbox-door.mjs). By AI agents, Wed Nov 11 2026. No macro, syntax, notation, axiom, sorry.
-/
import Derived.Test.YtbgkepdnemgkdaaGreatDoorRows
import GoSem.ClaimSeven
namespace Go.Proofs.YtbgkepdnemgkdaaGreatDoor
namespace Rows

/-- THE TIED CARD OF 'bulletinlaw12.GroupnameWalk'. -/
def groupnameWalkCard : Claim7 := { stood := { row := groupnameWalkRow, standIns := [], harness := (true, "3f7440d8990907b954edd6fc37927a9a5a0341536199bba0445d7f2dfba7339d"), looks := false }, kinds := [], alts := [], laidByText := true, laidKinds := [.data, .pinned], laidTests := true, laidLooks := .later }
def GroupnameWalkCardSaid : Prop := Claim7.holds Tryz.pinned (.plain (OpenSpec.ofChange groupnameWalkSpec)) groupnameWalkCard

/-- THE TIED CARD OF 'bulletinlaw12.GroupnameCheck'. -/
def groupnameCheckCard : Claim7 := { stood := { row := groupnameCheckRow, standIns := [], harness := (true, "3f7440d8990907b954edd6fc37927a9a5a0341536199bba0445d7f2dfba7339d"), looks := false }, kinds := [], alts := [], laidByText := true, laidKinds := [.data, .pinned], laidTests := true, laidLooks := .later }
def GroupnameCheckCardSaid : Prop := Claim7.holds Tryz.pinned (.plain (OpenSpec.ofChange groupnameCheckSpec)) groupnameCheckCard

/-- THE TIED CARD OF 'bulletinlaw12.GroupnameJoin'. -/
def groupnameJoinCard : Claim7 := { stood := { row := groupnameJoinRow, standIns := [], harness := (true, "3f7440d8990907b954edd6fc37927a9a5a0341536199bba0445d7f2dfba7339d"), looks := false }, kinds := [], alts := [], laidByText := true, laidKinds := [.data, .pinned], laidTests := true, laidLooks := .later }
def GroupnameJoinCardSaid : Prop := Claim7.holds Tryz.pinned (.plain (OpenSpec.ofChange groupnameJoinSpec)) groupnameJoinCard

/-- THE TIED CARD OF 'bulletinlaw12.GroupnameWithin'. -/
def groupnameWithinCard : Claim7 := { stood := { row := groupnameWithinRow, standIns := [], harness := (true, "3f7440d8990907b954edd6fc37927a9a5a0341536199bba0445d7f2dfba7339d"), looks := false }, kinds := [], alts := [], laidByText := true, laidKinds := [.data, .pinned], laidTests := true, laidLooks := .later }
def GroupnameWithinCardSaid : Prop := Claim7.holds Tryz.pinned (.plain (OpenSpec.ofChange groupnameWithinSpec)) groupnameWithinCard

/-- THE TIED CARD OF 'bulletinlaw12.GroupnameParseList'. -/
def groupnameParseListCard : Claim7 := { stood := { row := groupnameParseListRow, standIns := [], harness := (true, "3f7440d8990907b954edd6fc37927a9a5a0341536199bba0445d7f2dfba7339d"), looks := false }, kinds := [], alts := [], laidByText := true, laidKinds := [.data, .pinned], laidTests := true, laidLooks := .later }
def GroupnameParseListCardSaid : Prop := Claim7.holds Tryz.pinned (.plain (OpenSpec.ofChange groupnameParseListSpec)) groupnameParseListCard

/-- THE TIED CARD OF 'bulletinlaw12.GroupnameFormatList'. -/
def groupnameFormatListCard : Claim7 := { stood := { row := groupnameFormatListRow, standIns := [], harness := (true, "3f7440d8990907b954edd6fc37927a9a5a0341536199bba0445d7f2dfba7339d"), looks := false }, kinds := [], alts := [], laidByText := true, laidKinds := [.data, .pinned], laidTests := true, laidLooks := .later }
def GroupnameFormatListCardSaid : Prop := Claim7.holds Tryz.pinned (.plain (OpenSpec.ofChange groupnameFormatListSpec)) groupnameFormatListCard

/-- THE SECOND FORM's CARD OF 'bulletinlaw12.GroupnameWalk'. -/
def groupnameWalkUptoCard : Claim7 := { stood := { row := groupnameWalkUptoRow, standIns := [], harness := (true, "3f7440d8990907b954edd6fc37927a9a5a0341536199bba0445d7f2dfba7339d"), looks := false }, kinds := [], alts := [], laidByText := true, laidKinds := [.data, .pinned], laidTests := true, laidLooks := .later }
def GroupnameWalkUptoCardSaid : Prop := Claim7.holds Tryz.pinned (.plain (OpenSpec.upto groupnameWalkSpec)) groupnameWalkUptoCard

/-- THE SECOND FORM's CARD OF 'bulletinlaw12.GroupnameCheck'. -/
def groupnameCheckUptoCard : Claim7 := { stood := { row := groupnameCheckUptoRow, standIns := [], harness := (true, "3f7440d8990907b954edd6fc37927a9a5a0341536199bba0445d7f2dfba7339d"), looks := false }, kinds := [], alts := [], laidByText := true, laidKinds := [.data, .pinned], laidTests := true, laidLooks := .later }
def GroupnameCheckUptoCardSaid : Prop := Claim7.holds Tryz.pinned (.plain (OpenSpec.upto groupnameCheckSpec)) groupnameCheckUptoCard

/-- THE SECOND FORM's CARD OF 'bulletinlaw12.GroupnameJoin'. -/
def groupnameJoinUptoCard : Claim7 := { stood := { row := groupnameJoinUptoRow, standIns := [], harness := (true, "3f7440d8990907b954edd6fc37927a9a5a0341536199bba0445d7f2dfba7339d"), looks := false }, kinds := [], alts := [], laidByText := true, laidKinds := [.data, .pinned], laidTests := true, laidLooks := .later }
def GroupnameJoinUptoCardSaid : Prop := Claim7.holds Tryz.pinned (.plain (OpenSpec.upto groupnameJoinSpec)) groupnameJoinUptoCard

/-- THE SECOND FORM's CARD OF 'bulletinlaw12.GroupnameWithin'. -/
def groupnameWithinUptoCard : Claim7 := { stood := { row := groupnameWithinUptoRow, standIns := [], harness := (true, "3f7440d8990907b954edd6fc37927a9a5a0341536199bba0445d7f2dfba7339d"), looks := false }, kinds := [], alts := [], laidByText := true, laidKinds := [.data, .pinned], laidTests := true, laidLooks := .later }
def GroupnameWithinUptoCardSaid : Prop := Claim7.holds Tryz.pinned (.plain (OpenSpec.upto groupnameWithinSpec)) groupnameWithinUptoCard

/-- THE SECOND FORM's CARD OF 'bulletinlaw12.GroupnameParseList'. -/
def groupnameParseListUptoCard : Claim7 := { stood := { row := groupnameParseListUptoRow, standIns := [], harness := (true, "3f7440d8990907b954edd6fc37927a9a5a0341536199bba0445d7f2dfba7339d"), looks := false }, kinds := [], alts := [], laidByText := true, laidKinds := [.data, .pinned], laidTests := true, laidLooks := .later }
def GroupnameParseListUptoCardSaid : Prop := Claim7.holds Tryz.pinned (.plain (OpenSpec.upto groupnameParseListSpec)) groupnameParseListUptoCard

/-- THE SECOND FORM's CARD OF 'bulletinlaw12.GroupnameFormatList'. -/
def groupnameFormatListUptoCard : Claim7 := { stood := { row := groupnameFormatListUptoRow, standIns := [], harness := (true, "3f7440d8990907b954edd6fc37927a9a5a0341536199bba0445d7f2dfba7339d"), looks := false }, kinds := [], alts := [], laidByText := true, laidKinds := [.data, .pinned], laidTests := true, laidLooks := .later }
def GroupnameFormatListUptoCardSaid : Prop := Claim7.holds Tryz.pinned (.plain (OpenSpec.upto groupnameFormatListSpec)) groupnameFormatListUptoCard
end Rows
end Go.Proofs.YtbgkepdnemgkdaaGreatDoor
