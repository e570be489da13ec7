/-
  DERIVED. GIVEN WITH THE SEED: THE CARDS: each row of YtdanebboiekieaaGreatDoorRows.lean that lists a variable, with what it lists TIED to the program's text (the seventh form; the later family's looks); each row that meets fmt, with fmt's text TOLD by the authors' own Lean function (tested against real Go, not proved from fmt's source: count such statements apart). THE CARD IS WHAT COUNTS. Prove the row's statement (the work); the ties are given (YtdanebboiekieaaGreatDoorTie.lean); close each card by the builder's one call (the guide's Derived/Test/ToyasCard.lean, 'card_holds'). Laid BY PROGRAM, IN A SANDBOX (cutbox-door.mjs). By AI agents, Wed Nov 11 2026. No macro, syntax, notation, axiom, sorry.
-/
import Derived.Test.YtdanebboiekieaaGreatDoorRows
import GoSem.ClaimSeven
namespace Go.Proofs.YtdanebboiekieaaGreatDoor
namespace Rows

/-- THE TIED CARD OF 'turnerylaw8.FrameOfSays'. -/
def frameOfSaysCard : Claim7 := { stood := { row := frameOfSaysRow, standIns := [], harness := (true, "b2e6a5a9af20c70360f53055d4eef545cf46f92ce19845cea131af0bb60a3f91"), looks := false }, kinds := [], alts := [], laidByText := true, laidKinds := [.data], laidTests := true, laidLooks := .later }
def FrameOfSaysCardSaid : Prop := Claim7.holds Tryz.pinned (.plain (OpenSpec.ofChange frameOfSaysSpec)) frameOfSaysCard

/-- THE TIED CARD OF 'turnerylaw8.FrameFits'. -/
def frameFitsCard : Claim7 := { stood := { row := frameFitsRow, standIns := [], harness := (true, "b2e6a5a9af20c70360f53055d4eef545cf46f92ce19845cea131af0bb60a3f91"), looks := false }, kinds := [], alts := [], laidByText := true, laidKinds := [.data], laidTests := true, laidLooks := .later }
def FrameFitsCardSaid : Prop := Claim7.holds Tryz.pinned (.plain (OpenSpec.ofChange frameFitsSpec)) frameFitsCard

/-- THE TIED CARD OF 'turnerylaw8.PickDoSays'. -/
def pickDoSaysCard : Claim7 := { stood := { row := pickDoSaysRow, standIns := [], harness := (true, "b2e6a5a9af20c70360f53055d4eef545cf46f92ce19845cea131af0bb60a3f91"), looks := false }, kinds := [], alts := [], laidByText := true, laidKinds := [.data], laidTests := true, laidLooks := .later }
def PickDoSaysCardSaid : Prop := Claim7.holds Tryz.pinned (.plain (OpenSpec.ofChange pickDoSaysSpec)) pickDoSaysCard

/-- THE TIED CARD OF 'turnerylaw8.PickHomes'. -/
def pickHomesCard : Claim7 := { stood := { row := pickHomesRow, standIns := [], harness := (true, "b2e6a5a9af20c70360f53055d4eef545cf46f92ce19845cea131af0bb60a3f91"), looks := false }, kinds := [], alts := [], laidByText := true, laidKinds := [.data], laidTests := true, laidLooks := .later }
def PickHomesCardSaid : Prop := Claim7.holds Tryz.pinned (.plain (OpenSpec.ofChange pickHomesSpec)) pickHomesCard

/-- THE SECOND FORM's CARD OF 'turnerylaw8.FrameOfSays'. -/
def frameOfSaysUptoCard : Claim7 := { stood := { row := frameOfSaysUptoRow, standIns := [], harness := (true, "b2e6a5a9af20c70360f53055d4eef545cf46f92ce19845cea131af0bb60a3f91"), looks := false }, kinds := [], alts := [], laidByText := true, laidKinds := [.data], laidTests := true, laidLooks := .later }
def FrameOfSaysUptoCardSaid : Prop := Claim7.holds Tryz.pinned (.plain (OpenSpec.upto frameOfSaysSpec)) frameOfSaysUptoCard

/-- THE SECOND FORM's CARD OF 'turnerylaw8.FrameFits'. -/
def frameFitsUptoCard : Claim7 := { stood := { row := frameFitsUptoRow, standIns := [], harness := (true, "b2e6a5a9af20c70360f53055d4eef545cf46f92ce19845cea131af0bb60a3f91"), looks := false }, kinds := [], alts := [], laidByText := true, laidKinds := [.data], laidTests := true, laidLooks := .later }
def FrameFitsUptoCardSaid : Prop := Claim7.holds Tryz.pinned (.plain (OpenSpec.upto frameFitsSpec)) frameFitsUptoCard

/-- THE SECOND FORM's CARD OF 'turnerylaw8.PickDoSays'. -/
def pickDoSaysUptoCard : Claim7 := { stood := { row := pickDoSaysUptoRow, standIns := [], harness := (true, "b2e6a5a9af20c70360f53055d4eef545cf46f92ce19845cea131af0bb60a3f91"), looks := false }, kinds := [], alts := [], laidByText := true, laidKinds := [.data], laidTests := true, laidLooks := .later }
def PickDoSaysUptoCardSaid : Prop := Claim7.holds Tryz.pinned (.plain (OpenSpec.upto pickDoSaysSpec)) pickDoSaysUptoCard

/-- THE SECOND FORM's CARD OF 'turnerylaw8.PickHomes'. -/
def pickHomesUptoCard : Claim7 := { stood := { row := pickHomesUptoRow, standIns := [], harness := (true, "b2e6a5a9af20c70360f53055d4eef545cf46f92ce19845cea131af0bb60a3f91"), looks := false }, kinds := [], alts := [], laidByText := true, laidKinds := [.data], laidTests := true, laidLooks := .later }
def PickHomesUptoCardSaid : Prop := Claim7.holds Tryz.pinned (.plain (OpenSpec.upto pickHomesSpec)) pickHomesUptoCard
end Rows
end Go.Proofs.YtdanebboiekieaaGreatDoor
