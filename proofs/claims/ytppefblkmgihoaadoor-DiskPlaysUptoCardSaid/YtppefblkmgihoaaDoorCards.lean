/-
  DERIVED. GIVEN WITH THE SEED: THE CARDS: each row of YtppefblkmgihoaaDoorRows.lean that lists a variable, with what it lists TIED to the program's text (the seventh form; the later family's looks); each row that meets fmt, with fmt's text TOLD by the authors' own Lean function (tested against real Go, not proved from fmt's source: count such statements apart). THE CARD IS WHAT COUNTS. Prove the row's statement (the work); the ties are given (YtppefblkmgihoaaDoorTie.lean); close each card by the builder's one call (the guide's Derived/Test/ToyasCard.lean, 'card_holds'). Laid BY PROGRAM, IN A SANDBOX (cutbox-door.mjs). By AI agents, Wed Nov 11 2026. No macro, syntax, notation, axiom, sorry.
-/
import Derived.Test.YtppefblkmgihoaaDoorRows
import GoSem.ClaimSeven
namespace Go.Proofs.YtppefblkmgihoaaDoor
namespace Rows

/-- THE TIED CARD OF 'passbooklaw09.DiskPlays'. -/
def diskPlaysCard : Claim7 := { stood := { row := diskPlaysRow, standIns := [], harness := (true, "9701e69c2aa479b23e23fec8e6221c559e222f6f116322a268f48f4872eb58d8"), looks := false }, kinds := [], alts := [], laidByText := true, laidKinds := [.sentinel], laidTests := true, laidLooks := .later }
def DiskPlaysCardSaid : Prop := Claim7.holds Tryd.pinned (.plain (OpenSpec.ofChange diskPlaysSpec)) diskPlaysCard

/-- THE SECOND FORM's CARD OF 'passbooklaw09.DiskPlays'. -/
def diskPlaysUptoCard : Claim7 := { stood := { row := diskPlaysUptoRow, standIns := [], harness := (true, "9701e69c2aa479b23e23fec8e6221c559e222f6f116322a268f48f4872eb58d8"), looks := false }, kinds := [], alts := [], laidByText := true, laidKinds := [.sentinel], laidTests := true, laidLooks := .later }
def DiskPlaysUptoCardSaid : Prop := Claim7.holds Tryd.pinned (.plain (OpenSpec.upto diskPlaysSpec)) diskPlaysUptoCard
end Rows
end Go.Proofs.YtppefblkmgihoaaDoor
