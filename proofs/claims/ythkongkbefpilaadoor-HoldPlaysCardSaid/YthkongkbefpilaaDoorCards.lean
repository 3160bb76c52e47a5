/-
  DERIVED. GIVEN WITH THE SEED: THE CARDS: each row of YthkongkbefpilaaDoorRows.lean that lists a variable, with what it lists TIED to the program's text (the seventh form; the later family's looks); each row that meets fmt, with fmt's text TOLD by the authors' own Lean function (tested against real Go, not proved from fmt's source: count such statements apart). THE CARD IS WHAT COUNTS. Prove the row's statement (the work); the ties are given (YthkongkbefpilaaDoorTie.lean); close each card by the builder's one call (the guide's Derived/Test/ToyasCard.lean, 'card_holds'). Laid BY PROGRAM, IN A SANDBOX (cutbox-door.mjs). By AI agents, Wed Nov 11 2026. No macro, syntax, notation, axiom, sorry.
-/
import Derived.Test.YthkongkbefpilaaDoorRows
import GoSem.ClaimSeven
namespace Go.Proofs.YthkongkbefpilaaDoor
namespace Rows

/-- THE TIED CARD OF 'slipwaylaw19.HoldNumbers'. -/
def holdNumbersCard : Claim7 := { stood := { row := holdNumbersRow, standIns := [], harness := (true, "3b8e166f773e2ca03292c2ee791345c9038a76fd79680f8089a1d28633dbdd26"), looks := true }, kinds := [], alts := [], laidByText := true, laidKinds := [.sentinel, .sentinel], laidTests := true, laidLooks := .later }
def HoldNumbersCardSaid : Prop := Claim7.holds Tryd.pinned (.plain (OpenSpec.ofChange holdNumbersSpec)) holdNumbersCard

/-- THE TIED CARD OF 'slipwaylaw19.HoldMakes'. -/
def holdMakesCard : Claim7 := { stood := { row := holdMakesRow, standIns := [], harness := (true, "3b8e166f773e2ca03292c2ee791345c9038a76fd79680f8089a1d28633dbdd26"), looks := true }, kinds := [], alts := [], laidByText := true, laidKinds := [.sentinel, .sentinel], laidTests := true, laidLooks := .later }
def HoldMakesCardSaid : Prop := Claim7.holds Tryd.pinned (.plain (OpenSpec.ofChange holdMakesSpec)) holdMakesCard

/-- THE TIED CARD OF 'slipwaylaw19.HoldPlays'. -/
def holdPlaysCard : Claim7 := { stood := { row := holdPlaysRow, standIns := [], harness := (true, "3b8e166f773e2ca03292c2ee791345c9038a76fd79680f8089a1d28633dbdd26"), looks := true }, kinds := [], alts := [], laidByText := true, laidKinds := [.sentinel, .sentinel], laidTests := true, laidLooks := .later }
def HoldPlaysCardSaid : Prop := Claim7.holds Tryd.pinned (.plain (OpenSpec.ofChange holdPlaysSpec)) holdPlaysCard

/-- THE TIED CARD OF 'slipwaylaw19.HoldNever'. -/
def holdNeverCard : Claim7 := { stood := { row := holdNeverRow, standIns := [], harness := (true, "3b8e166f773e2ca03292c2ee791345c9038a76fd79680f8089a1d28633dbdd26"), looks := true }, kinds := [], alts := [], laidByText := true, laidKinds := [.sentinel, .sentinel], laidTests := true, laidLooks := .later }
def HoldNeverCardSaid : Prop := Claim7.holds Tryd.pinned (.plain (OpenSpec.ofChange holdNeverSpec)) holdNeverCard

/-- THE SECOND FORM's CARD OF 'slipwaylaw19.HoldNumbers'. -/
def holdNumbersUptoCard : Claim7 := { stood := { row := holdNumbersUptoRow, standIns := [], harness := (true, "3b8e166f773e2ca03292c2ee791345c9038a76fd79680f8089a1d28633dbdd26"), looks := true }, kinds := [], alts := [], laidByText := true, laidKinds := [.sentinel, .sentinel], laidTests := true, laidLooks := .later }
def HoldNumbersUptoCardSaid : Prop := Claim7.holds Tryd.pinned (.plain (OpenSpec.upto holdNumbersSpec)) holdNumbersUptoCard

/-- THE SECOND FORM's CARD OF 'slipwaylaw19.HoldMakes'. -/
def holdMakesUptoCard : Claim7 := { stood := { row := holdMakesUptoRow, standIns := [], harness := (true, "3b8e166f773e2ca03292c2ee791345c9038a76fd79680f8089a1d28633dbdd26"), looks := true }, kinds := [], alts := [], laidByText := true, laidKinds := [.sentinel, .sentinel], laidTests := true, laidLooks := .later }
def HoldMakesUptoCardSaid : Prop := Claim7.holds Tryd.pinned (.plain (OpenSpec.upto holdMakesSpec)) holdMakesUptoCard

/-- THE SECOND FORM's CARD OF 'slipwaylaw19.HoldPlays'. -/
def holdPlaysUptoCard : Claim7 := { stood := { row := holdPlaysUptoRow, standIns := [], harness := (true, "3b8e166f773e2ca03292c2ee791345c9038a76fd79680f8089a1d28633dbdd26"), looks := true }, kinds := [], alts := [], laidByText := true, laidKinds := [.sentinel, .sentinel], laidTests := true, laidLooks := .later }
def HoldPlaysUptoCardSaid : Prop := Claim7.holds Tryd.pinned (.plain (OpenSpec.upto holdPlaysSpec)) holdPlaysUptoCard

/-- THE SECOND FORM's CARD OF 'slipwaylaw19.HoldNever'. -/
def holdNeverUptoCard : Claim7 := { stood := { row := holdNeverUptoRow, standIns := [], harness := (true, "3b8e166f773e2ca03292c2ee791345c9038a76fd79680f8089a1d28633dbdd26"), looks := true }, kinds := [], alts := [], laidByText := true, laidKinds := [.sentinel, .sentinel], laidTests := true, laidLooks := .later }
def HoldNeverUptoCardSaid : Prop := Claim7.holds Tryd.pinned (.plain (OpenSpec.upto holdNeverSpec)) holdNeverUptoCard
end Rows
end Go.Proofs.YthkongkbefpilaaDoor
