/-
  DERIVED. GIVEN WITH THE SEED: THE CARDS: each row of YtbcacaodfpgflaaGreatDoorRows.lean that lists a variable, with what it lists TIED to the program's text (the seventh form; the later family's looks); each row that meets fmt, with fmt's text TOLD by the authors' own Lean function (tested against real Go, not proved from fmt's source: count such statements apart). THE CARD IS WHAT COUNTS. Prove the row's statement (the work); the ties are given (YtbcacaodfpgflaaGreatDoorTie.lean); close each card by the builder's one call (the guide's Derived/Test/ToyasCard.lean, 'card_holds'). Laid BY PROGRAM, IN A SANDBOX (cutbox-door.mjs). By AI agents, Wed Nov 11 2026. No macro, syntax, notation, axiom, sorry.
-/
import Derived.Test.YtbcacaodfpgflaaGreatDoorRows
import GoSem.ClaimSeven
namespace Go.Proofs.YtbcacaodfpgflaaGreatDoor
namespace Rows

/-- THE TIED CARD OF 'timetablelaw34.ChangesDiffs'. -/
def changesDiffsCard : Claim7 := { stood := { row := changesDiffsRow, standIns := [], harness := (true, "54cc5e2dc4f6f53f2d2d829b342c11811104b3e3c3a13f9fbe145c11529fb6de"), looks := false }, kinds := [], alts := [], laidByText := true, laidKinds := [.data, .data], laidTests := true, laidLooks := .later }
def ChangesDiffsCardSaid : Prop := Claim7.holds Tryz.pinned (.plain (OpenSpec.ofChange changesDiffsSpec)) changesDiffsCard

/-- THE TIED CARD OF 'timetablelaw34.ChangesJoins'. -/
def changesJoinsCard : Claim7 := { stood := { row := changesJoinsRow, standIns := [], harness := (true, "54cc5e2dc4f6f53f2d2d829b342c11811104b3e3c3a13f9fbe145c11529fb6de"), looks := false }, kinds := [], alts := [], laidByText := true, laidKinds := [.data, .data], laidTests := true, laidLooks := .later }
def ChangesJoinsCardSaid : Prop := Claim7.holds Tryz.pinned (.plain (OpenSpec.ofChange changesJoinsSpec)) changesJoinsCard

/-- THE TIED CARD OF 'timetablelaw34.ChangesAlgebra'. -/
def changesAlgebraCard : Claim7 := { stood := { row := changesAlgebraRow, standIns := [], harness := (true, "54cc5e2dc4f6f53f2d2d829b342c11811104b3e3c3a13f9fbe145c11529fb6de"), looks := false }, kinds := [], alts := [], laidByText := true, laidKinds := [.data, .data], laidTests := true, laidLooks := .later }
def ChangesAlgebraCardSaid : Prop := Claim7.holds Tryz.pinned (.plain (OpenSpec.ofChange changesAlgebraSpec)) changesAlgebraCard

/-- THE SECOND FORM's CARD OF 'timetablelaw34.ChangesDiffs'. -/
def changesDiffsUptoCard : Claim7 := { stood := { row := changesDiffsUptoRow, standIns := [], harness := (true, "54cc5e2dc4f6f53f2d2d829b342c11811104b3e3c3a13f9fbe145c11529fb6de"), looks := false }, kinds := [], alts := [], laidByText := true, laidKinds := [.data, .data], laidTests := true, laidLooks := .later }
def ChangesDiffsUptoCardSaid : Prop := Claim7.holds Tryz.pinned (.plain (OpenSpec.upto changesDiffsSpec)) changesDiffsUptoCard

/-- THE SECOND FORM's CARD OF 'timetablelaw34.ChangesJoins'. -/
def changesJoinsUptoCard : Claim7 := { stood := { row := changesJoinsUptoRow, standIns := [], harness := (true, "54cc5e2dc4f6f53f2d2d829b342c11811104b3e3c3a13f9fbe145c11529fb6de"), looks := false }, kinds := [], alts := [], laidByText := true, laidKinds := [.data, .data], laidTests := true, laidLooks := .later }
def ChangesJoinsUptoCardSaid : Prop := Claim7.holds Tryz.pinned (.plain (OpenSpec.upto changesJoinsSpec)) changesJoinsUptoCard

/-- THE SECOND FORM's CARD OF 'timetablelaw34.ChangesAlgebra'. -/
def changesAlgebraUptoCard : Claim7 := { stood := { row := changesAlgebraUptoRow, standIns := [], harness := (true, "54cc5e2dc4f6f53f2d2d829b342c11811104b3e3c3a13f9fbe145c11529fb6de"), looks := false }, kinds := [], alts := [], laidByText := true, laidKinds := [.data, .data], laidTests := true, laidLooks := .later }
def ChangesAlgebraUptoCardSaid : Prop := Claim7.holds Tryz.pinned (.plain (OpenSpec.upto changesAlgebraSpec)) changesAlgebraUptoCard
end Rows
end Go.Proofs.YtbcacaodfpgflaaGreatDoor
