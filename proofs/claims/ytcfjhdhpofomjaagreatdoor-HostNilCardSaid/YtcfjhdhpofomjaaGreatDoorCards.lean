/-
  DERIVED. GIVEN WITH THE SEED: THE CARDS: each row of YtcfjhdhpofomjaaGreatDoorRows.lean that lists a variable, with what it lists TIED to the program's text (the seventh form; the later family's looks); each row that meets fmt, with fmt's text TOLD by the authors' own Lean function (tested against real Go, not proved from fmt's source: count such statements apart). THE CARD IS WHAT COUNTS. Prove the row's statement (the work); the ties are given (YtcfjhdhpofomjaaGreatDoorTie.lean); close each card by the builder's one call (the guide's Derived/Test/ToyasCard.lean, 'card_holds'). Laid BY PROGRAM, IN A SANDBOX (cutbox-door.mjs). By AI agents, Wed Nov 11 2026. No macro, syntax, notation, axiom, sorry.
-/
import Derived.Test.YtcfjhdhpofomjaaGreatDoorRows
import GoSem.ClaimSeven
namespace Go.Proofs.YtcfjhdhpofomjaaGreatDoor
namespace Rows

/-- THE TIED CARD OF 'farandolelaw55.HostNil'. -/
def hostNilCard : Claim7 := { stood := { row := hostNilRow, standIns := [], harness := (true, "5deab994b82d1cdd6d18804319f477938eaee220974a4423c7ded0be26c8a662"), looks := false }, kinds := [], alts := [], laidByText := true, laidKinds := [.data, .pinned], laidTests := true, laidLooks := .later }
def HostNilCardSaid : Prop := Claim7.holds Tryz.pinned (.plain (OpenSpec.ofChange hostNilSpec)) hostNilCard

/-- THE SECOND FORM's CARD OF 'farandolelaw55.HostNil'. -/
def hostNilUptoCard : Claim7 := { stood := { row := hostNilUptoRow, standIns := [], harness := (true, "5deab994b82d1cdd6d18804319f477938eaee220974a4423c7ded0be26c8a662"), looks := false }, kinds := [], alts := [], laidByText := true, laidKinds := [.data, .pinned], laidTests := true, laidLooks := .later }
def HostNilUptoCardSaid : Prop := Claim7.holds Tryz.pinned (.plain (OpenSpec.upto hostNilSpec)) hostNilUptoCard
end Rows
end Go.Proofs.YtcfjhdhpofomjaaGreatDoor
