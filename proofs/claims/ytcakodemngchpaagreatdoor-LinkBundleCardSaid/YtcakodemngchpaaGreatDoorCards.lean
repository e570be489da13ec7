/-
  DERIVED. GIVEN WITH THE SEED: THE CARDS: each row of YtcakodemngchpaaGreatDoorRows.lean that lists a variable, with what it lists TIED to the program's text (the seventh form; the later family's looks); each row that meets fmt, with fmt's text TOLD by the authors' own Lean function (tested against real Go, not proved from fmt's source: count such statements apart). THE CARD IS WHAT COUNTS. Prove the row's statement (the work); the ties are given (YtcakodemngchpaaGreatDoorTie.lean); close each card by the builder's one call (the guide's Derived/Test/ToyasCard.lean, 'card_holds'). Laid BY PROGRAM, IN A SANDBOX (cutbox-door.mjs). By AI agents, Wed Nov 11 2026. No macro, syntax, notation, axiom, sorry.
-/
import Derived.Test.YtcakodemngchpaaGreatDoorRows
import GoSem.ClaimSeven
namespace Go.Proofs.YtcakodemngchpaaGreatDoor
namespace Rows

/-- THE TIED CARD OF 'turnerylaw8.LinkBundle'. -/
def linkBundleCard : Claim7 := { stood := { row := linkBundleRow, standIns := [], harness := (true, "beb4fa0621fc9dac3af752d87f68725b97e76611602fcdabc0b90b1dd2fc433b"), looks := false }, kinds := [], alts := [], laidByText := true, laidKinds := [.data], laidTests := true, laidLooks := .later }
def LinkBundleCardSaid : Prop := Claim7.holds Tryz.pinned (.plain (OpenSpec.ofChange linkBundleSpec)) linkBundleCard

/-- THE SECOND FORM's CARD OF 'turnerylaw8.LinkBundle'. -/
def linkBundleUptoCard : Claim7 := { stood := { row := linkBundleUptoRow, standIns := [], harness := (true, "beb4fa0621fc9dac3af752d87f68725b97e76611602fcdabc0b90b1dd2fc433b"), looks := false }, kinds := [], alts := [], laidByText := true, laidKinds := [.data], laidTests := true, laidLooks := .later }
def LinkBundleUptoCardSaid : Prop := Claim7.holds Tryz.pinned (.plain (OpenSpec.upto linkBundleSpec)) linkBundleUptoCard
end Rows
end Go.Proofs.YtcakodemngchpaaGreatDoor
