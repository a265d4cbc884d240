/-
  DERIVED. GIVEN WITH THE SEED: THE CARDS: each row of YtbcihiehcekheaaDoorRows.lean that lists a variable, with what it lists TIED to the program's text (the seventh form; the later family's looks); each row that meets fmt, with fmt's text TOLD by the authors' own Lean function (tested against real Go, not proved from fmt's source: count such statements apart). THE CARD IS WHAT COUNTS. Prove the row's statement (the work); the ties are given (YtbcihiehcekheaaDoorTie.lean); close each card by the builder's one call (the guide's Derived/Test/ToyasCard.lean, 'card_holds'). Laid BY PROGRAM, IN A SANDBOX (cutbox-door.mjs). By AI agents, Wed Nov 11 2026. No macro, syntax, notation, axiom, sorry.
-/
import Derived.Test.YtbcihiehcekheaaDoorRows
import GoSem.ClaimSeven
namespace Go.Proofs.YtbcihiehcekheaaDoor
namespace Rows

/-- THE TIED CARD OF 'hopmeshlaw37.BoundNeeds'. -/
def boundNeedsCard : Claim7 := { stood := { row := boundNeedsRow, standIns := [], harness := (true, "9d56c137c1e73e4bfd10a8369c2cccb0e68d681658bcdc69064494c468570924"), looks := false }, kinds := [], alts := [], laidByText := true, laidKinds := [.data, .data, .data], laidTests := true, laidLooks := .later }
def BoundNeedsCardSaid : Prop := Claim7.holds Tryd.pinned (.plain (OpenSpec.ofChange boundNeedsSpec)) boundNeedsCard

/-- THE TIED CARD OF 'hopmeshlaw37.BoundSlack'. -/
def boundSlackCard : Claim7 := { stood := { row := boundSlackRow, standIns := [], harness := (true, "9d56c137c1e73e4bfd10a8369c2cccb0e68d681658bcdc69064494c468570924"), looks := false }, kinds := [], alts := [], laidByText := true, laidKinds := [.data, .data, .data], laidTests := true, laidLooks := .later }
def BoundSlackCardSaid : Prop := Claim7.holds Tryd.pinned (.plain (OpenSpec.ofChange boundSlackSpec)) boundSlackCard

/-- THE TIED CARD OF 'hopmeshlaw37.BoundMore'. -/
def boundMoreCard : Claim7 := { stood := { row := boundMoreRow, standIns := [], harness := (true, "9d56c137c1e73e4bfd10a8369c2cccb0e68d681658bcdc69064494c468570924"), looks := false }, kinds := [], alts := [], laidByText := true, laidKinds := [.data, .data, .data], laidTests := true, laidLooks := .later }
def BoundMoreCardSaid : Prop := Claim7.holds Tryd.pinned (.plain (OpenSpec.ofChange boundMoreSpec)) boundMoreCard

/-- THE SECOND FORM's CARD OF 'hopmeshlaw37.BoundNeeds'. -/
def boundNeedsUptoCard : Claim7 := { stood := { row := boundNeedsUptoRow, standIns := [], harness := (true, "9d56c137c1e73e4bfd10a8369c2cccb0e68d681658bcdc69064494c468570924"), looks := false }, kinds := [], alts := [], laidByText := true, laidKinds := [.data, .data, .data], laidTests := true, laidLooks := .later }
def BoundNeedsUptoCardSaid : Prop := Claim7.holds Tryd.pinned (.plain (OpenSpec.upto boundNeedsSpec)) boundNeedsUptoCard

/-- THE SECOND FORM's CARD OF 'hopmeshlaw37.BoundSlack'. -/
def boundSlackUptoCard : Claim7 := { stood := { row := boundSlackUptoRow, standIns := [], harness := (true, "9d56c137c1e73e4bfd10a8369c2cccb0e68d681658bcdc69064494c468570924"), looks := false }, kinds := [], alts := [], laidByText := true, laidKinds := [.data, .data, .data], laidTests := true, laidLooks := .later }
def BoundSlackUptoCardSaid : Prop := Claim7.holds Tryd.pinned (.plain (OpenSpec.upto boundSlackSpec)) boundSlackUptoCard

/-- THE SECOND FORM's CARD OF 'hopmeshlaw37.BoundMore'. -/
def boundMoreUptoCard : Claim7 := { stood := { row := boundMoreUptoRow, standIns := [], harness := (true, "9d56c137c1e73e4bfd10a8369c2cccb0e68d681658bcdc69064494c468570924"), looks := false }, kinds := [], alts := [], laidByText := true, laidKinds := [.data, .data, .data], laidTests := true, laidLooks := .later }
def BoundMoreUptoCardSaid : Prop := Claim7.holds Tryd.pinned (.plain (OpenSpec.upto boundMoreSpec)) boundMoreUptoCard
end Rows
end Go.Proofs.YtbcihiehcekheaaDoor
