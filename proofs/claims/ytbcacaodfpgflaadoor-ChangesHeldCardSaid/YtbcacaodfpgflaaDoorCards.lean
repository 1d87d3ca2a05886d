/-
  DERIVED. GIVEN WITH THE SEED: THE CARDS: each row of YtbcacaodfpgflaaDoorRows.lean that lists a variable, with what it lists TIED to the program's text (the seventh form; the later family's looks); each row that meets fmt, with fmt's text TOLD by the authors' own Lean function (tested against real Go, not proved from fmt's source: count such statements apart). THE CARD IS WHAT COUNTS. Prove the row's statement (the work); the ties are given (YtbcacaodfpgflaaDoorTie.lean); close each card by the builder's one call (the guide's Derived/Test/ToyasCard.lean, 'card_holds'). Laid BY PROGRAM, IN A SANDBOX (cutbox-door.mjs). By AI agents, Wed Nov 11 2026. No macro, syntax, notation, axiom, sorry.
-/
import Derived.Test.YtbcacaodfpgflaaDoorRows
import GoSem.ClaimSeven
namespace Go.Proofs.YtbcacaodfpgflaaDoor
namespace Rows

/-- THE TIED CARD OF 'timetablelaw34.ChangesSplices'. -/
def changesSplicesCard : Claim7 := { stood := { row := changesSplicesRow, standIns := [], harness := (true, "73331bd0424a213e335bc6e14254896e1fb8653df1c2cfa8eb9d5d9327ec61f8"), looks := false }, kinds := [], alts := [], laidByText := true, laidKinds := [.data, .data], laidTests := true, laidLooks := .later }
def ChangesSplicesCardSaid : Prop := Claim7.holds Tryd.pinned (.plain (OpenSpec.ofChange changesSplicesSpec)) changesSplicesCard

/-- THE TIED CARD OF 'timetablelaw34.ChangesValid'. -/
def changesValidCard : Claim7 := { stood := { row := changesValidRow, standIns := [], harness := (true, "73331bd0424a213e335bc6e14254896e1fb8653df1c2cfa8eb9d5d9327ec61f8"), looks := false }, kinds := [], alts := [], laidByText := true, laidKinds := [.data, .data], laidTests := true, laidLooks := .later }
def ChangesValidCardSaid : Prop := Claim7.holds Tryd.pinned (.plain (OpenSpec.ofChange changesValidSpec)) changesValidCard

/-- THE TIED CARD OF 'timetablelaw34.ChangesHeld'. -/
def changesHeldCard : Claim7 := { stood := { row := changesHeldRow, standIns := [], harness := (true, "73331bd0424a213e335bc6e14254896e1fb8653df1c2cfa8eb9d5d9327ec61f8"), looks := false }, kinds := [], alts := [], laidByText := true, laidKinds := [.data, .data], laidTests := true, laidLooks := .later }
def ChangesHeldCardSaid : Prop := Claim7.holds Tryd.pinned (.plain (OpenSpec.ofChange changesHeldSpec)) changesHeldCard

/-- THE SECOND FORM's CARD OF 'timetablelaw34.ChangesSplices'. -/
def changesSplicesUptoCard : Claim7 := { stood := { row := changesSplicesUptoRow, standIns := [], harness := (true, "73331bd0424a213e335bc6e14254896e1fb8653df1c2cfa8eb9d5d9327ec61f8"), looks := false }, kinds := [], alts := [], laidByText := true, laidKinds := [.data, .data], laidTests := true, laidLooks := .later }
def ChangesSplicesUptoCardSaid : Prop := Claim7.holds Tryd.pinned (.plain (OpenSpec.upto changesSplicesSpec)) changesSplicesUptoCard

/-- THE SECOND FORM's CARD OF 'timetablelaw34.ChangesValid'. -/
def changesValidUptoCard : Claim7 := { stood := { row := changesValidUptoRow, standIns := [], harness := (true, "73331bd0424a213e335bc6e14254896e1fb8653df1c2cfa8eb9d5d9327ec61f8"), looks := false }, kinds := [], alts := [], laidByText := true, laidKinds := [.data, .data], laidTests := true, laidLooks := .later }
def ChangesValidUptoCardSaid : Prop := Claim7.holds Tryd.pinned (.plain (OpenSpec.upto changesValidSpec)) changesValidUptoCard

/-- THE SECOND FORM's CARD OF 'timetablelaw34.ChangesHeld'. -/
def changesHeldUptoCard : Claim7 := { stood := { row := changesHeldUptoRow, standIns := [], harness := (true, "73331bd0424a213e335bc6e14254896e1fb8653df1c2cfa8eb9d5d9327ec61f8"), looks := false }, kinds := [], alts := [], laidByText := true, laidKinds := [.data, .data], laidTests := true, laidLooks := .later }
def ChangesHeldUptoCardSaid : Prop := Claim7.holds Tryd.pinned (.plain (OpenSpec.upto changesHeldSpec)) changesHeldUptoCard
end Rows
end Go.Proofs.YtbcacaodfpgflaaDoor
