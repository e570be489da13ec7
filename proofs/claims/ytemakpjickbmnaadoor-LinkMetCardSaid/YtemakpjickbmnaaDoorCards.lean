/-
  DERIVED. GIVEN WITH THE SEED: THE CARDS: each row of YtemakpjickbmnaaDoorRows.lean that lists a variable, with what it lists TIED to the program's text (the seventh form; the later family's looks); each row that meets fmt, with fmt's text TOLD by the authors' own Lean function (tested against real Go, not proved from fmt's source: count such statements apart). THE CARD IS WHAT COUNTS. Prove the row's statement (the work); the ties are given (YtemakpjickbmnaaDoorTie.lean); close each card by the builder's one call (the guide's Derived/Test/ToyasCard.lean, 'card_holds'). Laid BY PROGRAM, IN A SANDBOX (cutbox-door.mjs). By AI agents, Wed Nov 11 2026. No macro, syntax, notation, axiom, sorry.
-/
import Derived.Test.YtemakpjickbmnaaDoorRows
import GoSem.ClaimSeven
namespace Go.Proofs.YtemakpjickbmnaaDoor
namespace Rows

/-- THE TIED CARD OF 'turnerylaw8.PeepReach'. -/
def peepReachCard : Claim7 := { stood := { row := peepReachRow, standIns := [], harness := (true, "38b563fcbe18118eb6cdf68b32839a875de6f3e11bb7b5c5eb87970a7be73bbe"), looks := false }, kinds := [], alts := [], laidByText := true, laidKinds := [.data], laidTests := true, laidLooks := .later }
def PeepReachCardSaid : Prop := Claim7.holds Tryd.pinned (.plain (OpenSpec.ofChange peepReachSpec)) peepReachCard

/-- THE TIED CARD OF 'turnerylaw8.PeepDoSays'. -/
def peepDoSaysCard : Claim7 := { stood := { row := peepDoSaysRow, standIns := [], harness := (true, "38b563fcbe18118eb6cdf68b32839a875de6f3e11bb7b5c5eb87970a7be73bbe"), looks := false }, kinds := [], alts := [], laidByText := true, laidKinds := [.data], laidTests := true, laidLooks := .later }
def PeepDoSaysCardSaid : Prop := Claim7.holds Tryd.pinned (.plain (OpenSpec.ofChange peepDoSaysSpec)) peepDoSaysCard

/-- THE TIED CARD OF 'turnerylaw8.PeepMeans'. -/
def peepMeansCard : Claim7 := { stood := { row := peepMeansRow, standIns := [], harness := (true, "38b563fcbe18118eb6cdf68b32839a875de6f3e11bb7b5c5eb87970a7be73bbe"), looks := false }, kinds := [], alts := [], laidByText := true, laidKinds := [.data], laidTests := true, laidLooks := .later }
def PeepMeansCardSaid : Prop := Claim7.holds Tryd.pinned (.plain (OpenSpec.ofChange peepMeansSpec)) peepMeansCard

/-- THE TIED CARD OF 'turnerylaw8.LinkUndone'. -/
def linkUndoneCard : Claim7 := { stood := { row := linkUndoneRow, standIns := [], harness := (true, "38b563fcbe18118eb6cdf68b32839a875de6f3e11bb7b5c5eb87970a7be73bbe"), looks := false }, kinds := [], alts := [], laidByText := true, laidKinds := [.data], laidTests := true, laidLooks := .later }
def LinkUndoneCardSaid : Prop := Claim7.holds Tryd.pinned (.plain (OpenSpec.ofChange linkUndoneSpec)) linkUndoneCard

/-- THE TIED CARD OF 'turnerylaw8.LinkMet'. -/
def linkMetCard : Claim7 := { stood := { row := linkMetRow, standIns := [], harness := (true, "38b563fcbe18118eb6cdf68b32839a875de6f3e11bb7b5c5eb87970a7be73bbe"), looks := false }, kinds := [], alts := [], laidByText := true, laidKinds := [.data], laidTests := true, laidLooks := .later }
def LinkMetCardSaid : Prop := Claim7.holds Tryd.pinned (.plain (OpenSpec.ofChange linkMetSpec)) linkMetCard

/-- THE TIED CARD OF 'turnerylaw8.FrameBack'. -/
def frameBackCard : Claim7 := { stood := { row := frameBackRow, standIns := [], harness := (true, "38b563fcbe18118eb6cdf68b32839a875de6f3e11bb7b5c5eb87970a7be73bbe"), looks := false }, kinds := [], alts := [], laidByText := true, laidKinds := [.data], laidTests := true, laidLooks := .later }
def FrameBackCardSaid : Prop := Claim7.holds Tryd.pinned (.plain (OpenSpec.ofChange frameBackSpec)) frameBackCard

/-- THE SECOND FORM's CARD OF 'turnerylaw8.PeepReach'. -/
def peepReachUptoCard : Claim7 := { stood := { row := peepReachUptoRow, standIns := [], harness := (true, "38b563fcbe18118eb6cdf68b32839a875de6f3e11bb7b5c5eb87970a7be73bbe"), looks := false }, kinds := [], alts := [], laidByText := true, laidKinds := [.data], laidTests := true, laidLooks := .later }
def PeepReachUptoCardSaid : Prop := Claim7.holds Tryd.pinned (.plain (OpenSpec.upto peepReachSpec)) peepReachUptoCard

/-- THE SECOND FORM's CARD OF 'turnerylaw8.PeepDoSays'. -/
def peepDoSaysUptoCard : Claim7 := { stood := { row := peepDoSaysUptoRow, standIns := [], harness := (true, "38b563fcbe18118eb6cdf68b32839a875de6f3e11bb7b5c5eb87970a7be73bbe"), looks := false }, kinds := [], alts := [], laidByText := true, laidKinds := [.data], laidTests := true, laidLooks := .later }
def PeepDoSaysUptoCardSaid : Prop := Claim7.holds Tryd.pinned (.plain (OpenSpec.upto peepDoSaysSpec)) peepDoSaysUptoCard

/-- THE SECOND FORM's CARD OF 'turnerylaw8.PeepMeans'. -/
def peepMeansUptoCard : Claim7 := { stood := { row := peepMeansUptoRow, standIns := [], harness := (true, "38b563fcbe18118eb6cdf68b32839a875de6f3e11bb7b5c5eb87970a7be73bbe"), looks := false }, kinds := [], alts := [], laidByText := true, laidKinds := [.data], laidTests := true, laidLooks := .later }
def PeepMeansUptoCardSaid : Prop := Claim7.holds Tryd.pinned (.plain (OpenSpec.upto peepMeansSpec)) peepMeansUptoCard

/-- THE SECOND FORM's CARD OF 'turnerylaw8.LinkUndone'. -/
def linkUndoneUptoCard : Claim7 := { stood := { row := linkUndoneUptoRow, standIns := [], harness := (true, "38b563fcbe18118eb6cdf68b32839a875de6f3e11bb7b5c5eb87970a7be73bbe"), looks := false }, kinds := [], alts := [], laidByText := true, laidKinds := [.data], laidTests := true, laidLooks := .later }
def LinkUndoneUptoCardSaid : Prop := Claim7.holds Tryd.pinned (.plain (OpenSpec.upto linkUndoneSpec)) linkUndoneUptoCard

/-- THE SECOND FORM's CARD OF 'turnerylaw8.LinkMet'. -/
def linkMetUptoCard : Claim7 := { stood := { row := linkMetUptoRow, standIns := [], harness := (true, "38b563fcbe18118eb6cdf68b32839a875de6f3e11bb7b5c5eb87970a7be73bbe"), looks := false }, kinds := [], alts := [], laidByText := true, laidKinds := [.data], laidTests := true, laidLooks := .later }
def LinkMetUptoCardSaid : Prop := Claim7.holds Tryd.pinned (.plain (OpenSpec.upto linkMetSpec)) linkMetUptoCard

/-- THE SECOND FORM's CARD OF 'turnerylaw8.FrameBack'. -/
def frameBackUptoCard : Claim7 := { stood := { row := frameBackUptoRow, standIns := [], harness := (true, "38b563fcbe18118eb6cdf68b32839a875de6f3e11bb7b5c5eb87970a7be73bbe"), looks := false }, kinds := [], alts := [], laidByText := true, laidKinds := [.data], laidTests := true, laidLooks := .later }
def FrameBackUptoCardSaid : Prop := Claim7.holds Tryd.pinned (.plain (OpenSpec.upto frameBackSpec)) frameBackUptoCard
end Rows
end Go.Proofs.YtemakpjickbmnaaDoor
