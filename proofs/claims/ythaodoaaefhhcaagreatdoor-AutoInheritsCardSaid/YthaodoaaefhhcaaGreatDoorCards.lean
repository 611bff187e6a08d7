/-
  DERIVED. GIVEN WITH THE SEED: THE CARDS: each row of YthaodoaaefhhcaaGreatDoorRows.lean that lists a variable, with what it lists TIED to the program's text (the seventh form; the later family's looks); each row that meets fmt, with fmt's text TOLD by the authors' own Lean function (tested against real Go, not proved from fmt's source: count such statements apart). THE CARD IS WHAT COUNTS. Prove the row's statement (the work); the ties are given (YthaodoaaefhhcaaGreatDoorTie.lean); close each card by the builder's one call (the guide's Derived/Test/ToyasCard.lean, 'card_holds'). Laid BY PROGRAM, IN A SANDBOX (cutbox-door.mjs). By AI agents, Wed Nov 11 2026. No macro, syntax, notation, axiom, sorry.
-/
import Derived.Test.YthaodoaaefhhcaaGreatDoorRows
import GoSem.ClaimSeven
namespace Go.Proofs.YthaodoaaefhhcaaGreatDoor
namespace Rows

/-- THE TIED CARD OF 'anvillaw23.AutoInherits'. -/
def autoInheritsCard : Claim7 := { stood := { row := autoInheritsRow, standIns := [], harness := (true, "4b47aef8d22f5c0e6e0e526fa6b97572cce6ce18102892e0c30e4a5bd6bfe434"), looks := true }, kinds := [], alts := [], laidByText := true, laidKinds := [.data, .handle, .pinned], laidTests := true, laidLooks := .later }
def AutoInheritsCardSaid : Prop := Claim7.holds Tryz.pinned (.plain (OpenSpec.ofChange autoInheritsSpec)) autoInheritsCard

/-- THE SECOND FORM's CARD OF 'anvillaw23.AutoInherits'. -/
def autoInheritsUptoCard : Claim7 := { stood := { row := autoInheritsUptoRow, standIns := [], harness := (true, "4b47aef8d22f5c0e6e0e526fa6b97572cce6ce18102892e0c30e4a5bd6bfe434"), looks := true }, kinds := [], alts := [], laidByText := true, laidKinds := [.data, .handle, .pinned], laidTests := true, laidLooks := .later }
def AutoInheritsUptoCardSaid : Prop := Claim7.holds Tryz.pinned (.plain (OpenSpec.upto autoInheritsSpec)) autoInheritsUptoCard
end Rows
end Go.Proofs.YthaodoaaefhhcaaGreatDoor
