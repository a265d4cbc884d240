/-
  DERIVED. GIVEN WITH THE SEED: THE CARDS: each row of YtbcihiehcekheaaGreatDoorRows.lean that lists a variable, with what it lists TIED to the program's text (the seventh form; the later family's looks); each row that meets fmt, with fmt's text TOLD by the authors' own Lean function (tested against real Go, not proved from fmt's source: count such statements apart). THE CARD IS WHAT COUNTS. Prove the row's statement (the work); the ties are given (YtbcihiehcekheaaGreatDoorTie.lean); close each card by the builder's one call (the guide's Derived/Test/ToyasCard.lean, 'card_holds'). Laid BY PROGRAM, IN A SANDBOX (cutbox-door.mjs). By AI agents, Wed Nov 11 2026. No macro, syntax, notation, axiom, sorry.
-/
import Derived.Test.YtbcihiehcekheaaGreatDoorRows
import GoSem.ClaimSeven
namespace Go.Proofs.YtbcihiehcekheaaGreatDoor
namespace Rows

/-- THE TIED CARD OF 'hopmeshlaw37.BoundReleases'. -/
def boundReleasesCard : Claim7 := { stood := { row := boundReleasesRow, standIns := [], harness := (true, "ef9332d4b98fdfc2fedcdc9d1c0c9bc149b2a482bf659ec31fc044f700ec27a7"), looks := false }, kinds := [], alts := [], laidByText := true, laidKinds := [.data, .data, .data], laidTests := true, laidLooks := .later }
def BoundReleasesCardSaid : Prop := Claim7.holds Tryz.pinned (.plain (OpenSpec.ofChange boundReleasesSpec)) boundReleasesCard

/-- THE TIED CARD OF 'hopmeshlaw37.BoundLeast'. -/
def boundLeastCard : Claim7 := { stood := { row := boundLeastRow, standIns := [], harness := (true, "ef9332d4b98fdfc2fedcdc9d1c0c9bc149b2a482bf659ec31fc044f700ec27a7"), looks := false }, kinds := [], alts := [], laidByText := true, laidKinds := [.data, .data, .data], laidTests := true, laidLooks := .later }
def BoundLeastCardSaid : Prop := Claim7.holds Tryz.pinned (.plain (OpenSpec.ofChange boundLeastSpec)) boundLeastCard

/-- THE TIED CARD OF 'hopmeshlaw37.BoundWorst'. -/
def boundWorstCard : Claim7 := { stood := { row := boundWorstRow, standIns := [], harness := (true, "ef9332d4b98fdfc2fedcdc9d1c0c9bc149b2a482bf659ec31fc044f700ec27a7"), looks := false }, kinds := [], alts := [], laidByText := true, laidKinds := [.data, .data, .data], laidTests := true, laidLooks := .later }
def BoundWorstCardSaid : Prop := Claim7.holds Tryz.pinned (.plain (OpenSpec.ofChange boundWorstSpec)) boundWorstCard

/-- THE TIED CARD OF 'hopmeshlaw37.BoundHolds'. -/
def boundHoldsCard : Claim7 := { stood := { row := boundHoldsRow, standIns := [], harness := (true, "ef9332d4b98fdfc2fedcdc9d1c0c9bc149b2a482bf659ec31fc044f700ec27a7"), looks := false }, kinds := [], alts := [], laidByText := true, laidKinds := [.data, .data, .data], laidTests := true, laidLooks := .later }
def BoundHoldsCardSaid : Prop := Claim7.holds Tryz.pinned (.plain (OpenSpec.ofChange boundHoldsSpec)) boundHoldsCard

/-- THE TIED CARD OF 'hopmeshlaw37.BoundReached'. -/
def boundReachedCard : Claim7 := { stood := { row := boundReachedRow, standIns := [], harness := (true, "ef9332d4b98fdfc2fedcdc9d1c0c9bc149b2a482bf659ec31fc044f700ec27a7"), looks := false }, kinds := [], alts := [], laidByText := true, laidKinds := [.data, .data, .data], laidTests := true, laidLooks := .later }
def BoundReachedCardSaid : Prop := Claim7.holds Tryz.pinned (.plain (OpenSpec.ofChange boundReachedSpec)) boundReachedCard

/-- THE SECOND FORM's CARD OF 'hopmeshlaw37.BoundReleases'. -/
def boundReleasesUptoCard : Claim7 := { stood := { row := boundReleasesUptoRow, standIns := [], harness := (true, "ef9332d4b98fdfc2fedcdc9d1c0c9bc149b2a482bf659ec31fc044f700ec27a7"), looks := false }, kinds := [], alts := [], laidByText := true, laidKinds := [.data, .data, .data], laidTests := true, laidLooks := .later }
def BoundReleasesUptoCardSaid : Prop := Claim7.holds Tryz.pinned (.plain (OpenSpec.upto boundReleasesSpec)) boundReleasesUptoCard

/-- THE SECOND FORM's CARD OF 'hopmeshlaw37.BoundLeast'. -/
def boundLeastUptoCard : Claim7 := { stood := { row := boundLeastUptoRow, standIns := [], harness := (true, "ef9332d4b98fdfc2fedcdc9d1c0c9bc149b2a482bf659ec31fc044f700ec27a7"), looks := false }, kinds := [], alts := [], laidByText := true, laidKinds := [.data, .data, .data], laidTests := true, laidLooks := .later }
def BoundLeastUptoCardSaid : Prop := Claim7.holds Tryz.pinned (.plain (OpenSpec.upto boundLeastSpec)) boundLeastUptoCard

/-- THE SECOND FORM's CARD OF 'hopmeshlaw37.BoundWorst'. -/
def boundWorstUptoCard : Claim7 := { stood := { row := boundWorstUptoRow, standIns := [], harness := (true, "ef9332d4b98fdfc2fedcdc9d1c0c9bc149b2a482bf659ec31fc044f700ec27a7"), looks := false }, kinds := [], alts := [], laidByText := true, laidKinds := [.data, .data, .data], laidTests := true, laidLooks := .later }
def BoundWorstUptoCardSaid : Prop := Claim7.holds Tryz.pinned (.plain (OpenSpec.upto boundWorstSpec)) boundWorstUptoCard

/-- THE SECOND FORM's CARD OF 'hopmeshlaw37.BoundHolds'. -/
def boundHoldsUptoCard : Claim7 := { stood := { row := boundHoldsUptoRow, standIns := [], harness := (true, "ef9332d4b98fdfc2fedcdc9d1c0c9bc149b2a482bf659ec31fc044f700ec27a7"), looks := false }, kinds := [], alts := [], laidByText := true, laidKinds := [.data, .data, .data], laidTests := true, laidLooks := .later }
def BoundHoldsUptoCardSaid : Prop := Claim7.holds Tryz.pinned (.plain (OpenSpec.upto boundHoldsSpec)) boundHoldsUptoCard

/-- THE SECOND FORM's CARD OF 'hopmeshlaw37.BoundReached'. -/
def boundReachedUptoCard : Claim7 := { stood := { row := boundReachedUptoRow, standIns := [], harness := (true, "ef9332d4b98fdfc2fedcdc9d1c0c9bc149b2a482bf659ec31fc044f700ec27a7"), looks := false }, kinds := [], alts := [], laidByText := true, laidKinds := [.data, .data, .data], laidTests := true, laidLooks := .later }
def BoundReachedUptoCardSaid : Prop := Claim7.holds Tryz.pinned (.plain (OpenSpec.upto boundReachedSpec)) boundReachedUptoCard
end Rows
end Go.Proofs.YtbcihiehcekheaaGreatDoor
