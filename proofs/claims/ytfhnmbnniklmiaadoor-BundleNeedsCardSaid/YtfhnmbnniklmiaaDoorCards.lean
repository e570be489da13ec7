/-
  DERIVED. GIVEN WITH THE SEED: THE CARDS: each row of YtfhnmbnniklmiaaDoorRows.lean that lists a variable, with what it lists TIED to the program's text (the seventh form; the later family's looks); each row that meets fmt, with fmt's text TOLD by the authors' own Lean function (tested against real Go, not proved from fmt's source: count such statements apart). THE CARD IS WHAT COUNTS. Prove the row's statement (the work); the ties are given (YtfhnmbnniklmiaaDoorTie.lean); close each card by the builder's one call (the guide's Derived/Test/ToyasCard.lean, 'card_holds'). Laid BY PROGRAM, IN A SANDBOX (cutbox-door.mjs). By AI agents, Wed Nov 11 2026. No macro, syntax, notation, axiom, sorry.
-/
import Derived.Test.YtfhnmbnniklmiaaDoorRows
import GoSem.ClaimSeven
namespace Go.Proofs.YtfhnmbnniklmiaaDoor
namespace Rows

/-- THE TIED CARD OF 'turnerylaw8.LinkReachSays'. -/
def linkReachSaysCard : Claim7 := { stood := { row := linkReachSaysRow, standIns := [], harness := (true, "912374e9d30808764e8660ada8ffa6eea91452f169b83cd053b5c0feaeedf97b"), looks := false }, kinds := [], alts := [], laidByText := true, laidKinds := [.data], laidTests := true, laidLooks := .later }
def LinkReachSaysCardSaid : Prop := Claim7.holds Tryd.pinned (.plain (OpenSpec.ofChange linkReachSaysSpec)) linkReachSaysCard

/-- THE TIED CARD OF 'turnerylaw8.LinkUndoneSays'. -/
def linkUndoneSaysCard : Claim7 := { stood := { row := linkUndoneSaysRow, standIns := [], harness := (true, "912374e9d30808764e8660ada8ffa6eea91452f169b83cd053b5c0feaeedf97b"), looks := false }, kinds := [], alts := [], laidByText := true, laidKinds := [.data], laidTests := true, laidLooks := .later }
def LinkUndoneSaysCardSaid : Prop := Claim7.holds Tryd.pinned (.plain (OpenSpec.ofChange linkUndoneSaysSpec)) linkUndoneSaysCard

/-- THE TIED CARD OF 'turnerylaw8.LinkDoSays'. -/
def linkDoSaysCard : Claim7 := { stood := { row := linkDoSaysRow, standIns := [], harness := (true, "912374e9d30808764e8660ada8ffa6eea91452f169b83cd053b5c0feaeedf97b"), looks := false }, kinds := [], alts := [], laidByText := true, laidKinds := [.data], laidTests := true, laidLooks := .later }
def LinkDoSaysCardSaid : Prop := Claim7.holds Tryd.pinned (.plain (OpenSpec.ofChange linkDoSaysSpec)) linkDoSaysCard

/-- THE TIED CARD OF 'turnerylaw8.BundlePackSays'. -/
def bundlePackSaysCard : Claim7 := { stood := { row := bundlePackSaysRow, standIns := [], harness := (true, "912374e9d30808764e8660ada8ffa6eea91452f169b83cd053b5c0feaeedf97b"), looks := false }, kinds := [], alts := [], laidByText := true, laidKinds := [.data], laidTests := true, laidLooks := .later }
def BundlePackSaysCardSaid : Prop := Claim7.holds Tryd.pinned (.plain (OpenSpec.ofChange bundlePackSaysSpec)) bundlePackSaysCard

/-- THE TIED CARD OF 'turnerylaw8.BundleOpenSays'. -/
def bundleOpenSaysCard : Claim7 := { stood := { row := bundleOpenSaysRow, standIns := [], harness := (true, "912374e9d30808764e8660ada8ffa6eea91452f169b83cd053b5c0feaeedf97b"), looks := false }, kinds := [], alts := [], laidByText := true, laidKinds := [.data], laidTests := true, laidLooks := .later }
def BundleOpenSaysCardSaid : Prop := Claim7.holds Tryd.pinned (.plain (OpenSpec.ofChange bundleOpenSaysSpec)) bundleOpenSaysCard

/-- THE TIED CARD OF 'turnerylaw8.BundleFindSays'. -/
def bundleFindSaysCard : Claim7 := { stood := { row := bundleFindSaysRow, standIns := [], harness := (true, "912374e9d30808764e8660ada8ffa6eea91452f169b83cd053b5c0feaeedf97b"), looks := false }, kinds := [], alts := [], laidByText := true, laidKinds := [.data], laidTests := true, laidLooks := .later }
def BundleFindSaysCardSaid : Prop := Claim7.holds Tryd.pinned (.plain (OpenSpec.ofChange bundleFindSaysSpec)) bundleFindSaysCard

/-- THE TIED CARD OF 'turnerylaw8.BundleNeedSays'. -/
def bundleNeedSaysCard : Claim7 := { stood := { row := bundleNeedSaysRow, standIns := [], harness := (true, "912374e9d30808764e8660ada8ffa6eea91452f169b83cd053b5c0feaeedf97b"), looks := false }, kinds := [], alts := [], laidByText := true, laidKinds := [.data], laidTests := true, laidLooks := .later }
def BundleNeedSaysCardSaid : Prop := Claim7.holds Tryd.pinned (.plain (OpenSpec.ofChange bundleNeedSaysSpec)) bundleNeedSaysCard

/-- THE TIED CARD OF 'turnerylaw8.BundleBack'. -/
def bundleBackCard : Claim7 := { stood := { row := bundleBackRow, standIns := [], harness := (true, "912374e9d30808764e8660ada8ffa6eea91452f169b83cd053b5c0feaeedf97b"), looks := false }, kinds := [], alts := [], laidByText := true, laidKinds := [.data], laidTests := true, laidLooks := .later }
def BundleBackCardSaid : Prop := Claim7.holds Tryd.pinned (.plain (OpenSpec.ofChange bundleBackSpec)) bundleBackCard

/-- THE TIED CARD OF 'turnerylaw8.BundleFound'. -/
def bundleFoundCard : Claim7 := { stood := { row := bundleFoundRow, standIns := [], harness := (true, "912374e9d30808764e8660ada8ffa6eea91452f169b83cd053b5c0feaeedf97b"), looks := false }, kinds := [], alts := [], laidByText := true, laidKinds := [.data], laidTests := true, laidLooks := .later }
def BundleFoundCardSaid : Prop := Claim7.holds Tryd.pinned (.plain (OpenSpec.ofChange bundleFoundSpec)) bundleFoundCard

/-- THE TIED CARD OF 'turnerylaw8.BundleNeeds'. -/
def bundleNeedsCard : Claim7 := { stood := { row := bundleNeedsRow, standIns := [], harness := (true, "912374e9d30808764e8660ada8ffa6eea91452f169b83cd053b5c0feaeedf97b"), looks := false }, kinds := [], alts := [], laidByText := true, laidKinds := [.data], laidTests := true, laidLooks := .later }
def BundleNeedsCardSaid : Prop := Claim7.holds Tryd.pinned (.plain (OpenSpec.ofChange bundleNeedsSpec)) bundleNeedsCard

/-- THE SECOND FORM's CARD OF 'turnerylaw8.LinkReachSays'. -/
def linkReachSaysUptoCard : Claim7 := { stood := { row := linkReachSaysUptoRow, standIns := [], harness := (true, "912374e9d30808764e8660ada8ffa6eea91452f169b83cd053b5c0feaeedf97b"), looks := false }, kinds := [], alts := [], laidByText := true, laidKinds := [.data], laidTests := true, laidLooks := .later }
def LinkReachSaysUptoCardSaid : Prop := Claim7.holds Tryd.pinned (.plain (OpenSpec.upto linkReachSaysSpec)) linkReachSaysUptoCard

/-- THE SECOND FORM's CARD OF 'turnerylaw8.LinkUndoneSays'. -/
def linkUndoneSaysUptoCard : Claim7 := { stood := { row := linkUndoneSaysUptoRow, standIns := [], harness := (true, "912374e9d30808764e8660ada8ffa6eea91452f169b83cd053b5c0feaeedf97b"), looks := false }, kinds := [], alts := [], laidByText := true, laidKinds := [.data], laidTests := true, laidLooks := .later }
def LinkUndoneSaysUptoCardSaid : Prop := Claim7.holds Tryd.pinned (.plain (OpenSpec.upto linkUndoneSaysSpec)) linkUndoneSaysUptoCard

/-- THE SECOND FORM's CARD OF 'turnerylaw8.LinkDoSays'. -/
def linkDoSaysUptoCard : Claim7 := { stood := { row := linkDoSaysUptoRow, standIns := [], harness := (true, "912374e9d30808764e8660ada8ffa6eea91452f169b83cd053b5c0feaeedf97b"), looks := false }, kinds := [], alts := [], laidByText := true, laidKinds := [.data], laidTests := true, laidLooks := .later }
def LinkDoSaysUptoCardSaid : Prop := Claim7.holds Tryd.pinned (.plain (OpenSpec.upto linkDoSaysSpec)) linkDoSaysUptoCard

/-- THE SECOND FORM's CARD OF 'turnerylaw8.BundlePackSays'. -/
def bundlePackSaysUptoCard : Claim7 := { stood := { row := bundlePackSaysUptoRow, standIns := [], harness := (true, "912374e9d30808764e8660ada8ffa6eea91452f169b83cd053b5c0feaeedf97b"), looks := false }, kinds := [], alts := [], laidByText := true, laidKinds := [.data], laidTests := true, laidLooks := .later }
def BundlePackSaysUptoCardSaid : Prop := Claim7.holds Tryd.pinned (.plain (OpenSpec.upto bundlePackSaysSpec)) bundlePackSaysUptoCard

/-- THE SECOND FORM's CARD OF 'turnerylaw8.BundleOpenSays'. -/
def bundleOpenSaysUptoCard : Claim7 := { stood := { row := bundleOpenSaysUptoRow, standIns := [], harness := (true, "912374e9d30808764e8660ada8ffa6eea91452f169b83cd053b5c0feaeedf97b"), looks := false }, kinds := [], alts := [], laidByText := true, laidKinds := [.data], laidTests := true, laidLooks := .later }
def BundleOpenSaysUptoCardSaid : Prop := Claim7.holds Tryd.pinned (.plain (OpenSpec.upto bundleOpenSaysSpec)) bundleOpenSaysUptoCard

/-- THE SECOND FORM's CARD OF 'turnerylaw8.BundleFindSays'. -/
def bundleFindSaysUptoCard : Claim7 := { stood := { row := bundleFindSaysUptoRow, standIns := [], harness := (true, "912374e9d30808764e8660ada8ffa6eea91452f169b83cd053b5c0feaeedf97b"), looks := false }, kinds := [], alts := [], laidByText := true, laidKinds := [.data], laidTests := true, laidLooks := .later }
def BundleFindSaysUptoCardSaid : Prop := Claim7.holds Tryd.pinned (.plain (OpenSpec.upto bundleFindSaysSpec)) bundleFindSaysUptoCard

/-- THE SECOND FORM's CARD OF 'turnerylaw8.BundleNeedSays'. -/
def bundleNeedSaysUptoCard : Claim7 := { stood := { row := bundleNeedSaysUptoRow, standIns := [], harness := (true, "912374e9d30808764e8660ada8ffa6eea91452f169b83cd053b5c0feaeedf97b"), looks := false }, kinds := [], alts := [], laidByText := true, laidKinds := [.data], laidTests := true, laidLooks := .later }
def BundleNeedSaysUptoCardSaid : Prop := Claim7.holds Tryd.pinned (.plain (OpenSpec.upto bundleNeedSaysSpec)) bundleNeedSaysUptoCard

/-- THE SECOND FORM's CARD OF 'turnerylaw8.BundleBack'. -/
def bundleBackUptoCard : Claim7 := { stood := { row := bundleBackUptoRow, standIns := [], harness := (true, "912374e9d30808764e8660ada8ffa6eea91452f169b83cd053b5c0feaeedf97b"), looks := false }, kinds := [], alts := [], laidByText := true, laidKinds := [.data], laidTests := true, laidLooks := .later }
def BundleBackUptoCardSaid : Prop := Claim7.holds Tryd.pinned (.plain (OpenSpec.upto bundleBackSpec)) bundleBackUptoCard

/-- THE SECOND FORM's CARD OF 'turnerylaw8.BundleFound'. -/
def bundleFoundUptoCard : Claim7 := { stood := { row := bundleFoundUptoRow, standIns := [], harness := (true, "912374e9d30808764e8660ada8ffa6eea91452f169b83cd053b5c0feaeedf97b"), looks := false }, kinds := [], alts := [], laidByText := true, laidKinds := [.data], laidTests := true, laidLooks := .later }
def BundleFoundUptoCardSaid : Prop := Claim7.holds Tryd.pinned (.plain (OpenSpec.upto bundleFoundSpec)) bundleFoundUptoCard

/-- THE SECOND FORM's CARD OF 'turnerylaw8.BundleNeeds'. -/
def bundleNeedsUptoCard : Claim7 := { stood := { row := bundleNeedsUptoRow, standIns := [], harness := (true, "912374e9d30808764e8660ada8ffa6eea91452f169b83cd053b5c0feaeedf97b"), looks := false }, kinds := [], alts := [], laidByText := true, laidKinds := [.data], laidTests := true, laidLooks := .later }
def BundleNeedsUptoCardSaid : Prop := Claim7.holds Tryd.pinned (.plain (OpenSpec.upto bundleNeedsSpec)) bundleNeedsUptoCard
end Rows
end Go.Proofs.YtfhnmbnniklmiaaDoor
