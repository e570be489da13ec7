/-
  DERIVED. GIVEN WITH THE SEED: THE CARDS: each row of YtipcpemdpdhnfaaDoorRows.lean that lists a variable, with what it lists TIED to the program's text (the seventh form; the later family's looks); each row that meets fmt, with fmt's text TOLD by the authors' own Lean function (tested against real Go, not proved from fmt's source: count such statements apart). THE CARD IS WHAT COUNTS. Prove the row's statement (the work); the ties are given (YtipcpemdpdhnfaaDoorTie.lean); close each card by the builder's one call (the guide's Derived/Test/ToyasCard.lean, 'card_holds'). Laid BY PROGRAM, IN A SANDBOX (cutbox-door.mjs). By AI agents, Wed Nov 11 2026. No macro, syntax, notation, axiom, sorry.
-/
import Derived.Test.YtipcpemdpdhnfaaDoorRows
import GoSem.ClaimSeven
namespace Go.Proofs.YtipcpemdpdhnfaaDoor
namespace Rows

/-- THE TIED CARD OF 'turnerylaw8.ObjectCheckSays'. -/
def objectCheckSaysCard : Claim7 := { stood := { row := objectCheckSaysRow, standIns := [], harness := (true, "0958adbdf2ae4aff2aedacc01da22f1fc099ea605dda5aa081322c0fee378040"), looks := false }, kinds := [], alts := [], laidByText := true, laidKinds := [.data], laidTests := true, laidLooks := .later }
def ObjectCheckSaysCardSaid : Prop := Claim7.holds Tryd.pinned (.plain (OpenSpec.ofChange objectCheckSaysSpec)) objectCheckSaysCard

/-- THE TIED CARD OF 'turnerylaw8.ObjectPartSays'. -/
def objectPartSaysCard : Claim7 := { stood := { row := objectPartSaysRow, standIns := [], harness := (true, "0958adbdf2ae4aff2aedacc01da22f1fc099ea605dda5aa081322c0fee378040"), looks := false }, kinds := [], alts := [], laidByText := true, laidKinds := [.data], laidTests := true, laidLooks := .later }
def ObjectPartSaysCardSaid : Prop := Claim7.holds Tryd.pinned (.plain (OpenSpec.ofChange objectPartSaysSpec)) objectPartSaysCard

/-- THE TIED CARD OF 'turnerylaw8.ObjectSaveSays'. -/
def objectSaveSaysCard : Claim7 := { stood := { row := objectSaveSaysRow, standIns := [], harness := (true, "0958adbdf2ae4aff2aedacc01da22f1fc099ea605dda5aa081322c0fee378040"), looks := false }, kinds := [], alts := [], laidByText := true, laidKinds := [.data], laidTests := true, laidLooks := .later }
def ObjectSaveSaysCardSaid : Prop := Claim7.holds Tryd.pinned (.plain (OpenSpec.ofChange objectSaveSaysSpec)) objectSaveSaysCard

/-- THE TIED CARD OF 'turnerylaw8.ObjectLoadSays'. -/
def objectLoadSaysCard : Claim7 := { stood := { row := objectLoadSaysRow, standIns := [], harness := (true, "0958adbdf2ae4aff2aedacc01da22f1fc099ea605dda5aa081322c0fee378040"), looks := false }, kinds := [], alts := [], laidByText := true, laidKinds := [.data], laidTests := true, laidLooks := .later }
def ObjectLoadSaysCardSaid : Prop := Claim7.holds Tryd.pinned (.plain (OpenSpec.ofChange objectLoadSaysSpec)) objectLoadSaysCard

/-- THE TIED CARD OF 'turnerylaw8.ObjectJoinSays'. -/
def objectJoinSaysCard : Claim7 := { stood := { row := objectJoinSaysRow, standIns := [], harness := (true, "0958adbdf2ae4aff2aedacc01da22f1fc099ea605dda5aa081322c0fee378040"), looks := false }, kinds := [], alts := [], laidByText := true, laidKinds := [.data], laidTests := true, laidLooks := .later }
def ObjectJoinSaysCardSaid : Prop := Claim7.holds Tryd.pinned (.plain (OpenSpec.ofChange objectJoinSaysSpec)) objectJoinSaysCard

/-- THE SECOND FORM's CARD OF 'turnerylaw8.ObjectCheckSays'. -/
def objectCheckSaysUptoCard : Claim7 := { stood := { row := objectCheckSaysUptoRow, standIns := [], harness := (true, "0958adbdf2ae4aff2aedacc01da22f1fc099ea605dda5aa081322c0fee378040"), looks := false }, kinds := [], alts := [], laidByText := true, laidKinds := [.data], laidTests := true, laidLooks := .later }
def ObjectCheckSaysUptoCardSaid : Prop := Claim7.holds Tryd.pinned (.plain (OpenSpec.upto objectCheckSaysSpec)) objectCheckSaysUptoCard

/-- THE SECOND FORM's CARD OF 'turnerylaw8.ObjectPartSays'. -/
def objectPartSaysUptoCard : Claim7 := { stood := { row := objectPartSaysUptoRow, standIns := [], harness := (true, "0958adbdf2ae4aff2aedacc01da22f1fc099ea605dda5aa081322c0fee378040"), looks := false }, kinds := [], alts := [], laidByText := true, laidKinds := [.data], laidTests := true, laidLooks := .later }
def ObjectPartSaysUptoCardSaid : Prop := Claim7.holds Tryd.pinned (.plain (OpenSpec.upto objectPartSaysSpec)) objectPartSaysUptoCard

/-- THE SECOND FORM's CARD OF 'turnerylaw8.ObjectSaveSays'. -/
def objectSaveSaysUptoCard : Claim7 := { stood := { row := objectSaveSaysUptoRow, standIns := [], harness := (true, "0958adbdf2ae4aff2aedacc01da22f1fc099ea605dda5aa081322c0fee378040"), looks := false }, kinds := [], alts := [], laidByText := true, laidKinds := [.data], laidTests := true, laidLooks := .later }
def ObjectSaveSaysUptoCardSaid : Prop := Claim7.holds Tryd.pinned (.plain (OpenSpec.upto objectSaveSaysSpec)) objectSaveSaysUptoCard

/-- THE SECOND FORM's CARD OF 'turnerylaw8.ObjectLoadSays'. -/
def objectLoadSaysUptoCard : Claim7 := { stood := { row := objectLoadSaysUptoRow, standIns := [], harness := (true, "0958adbdf2ae4aff2aedacc01da22f1fc099ea605dda5aa081322c0fee378040"), looks := false }, kinds := [], alts := [], laidByText := true, laidKinds := [.data], laidTests := true, laidLooks := .later }
def ObjectLoadSaysUptoCardSaid : Prop := Claim7.holds Tryd.pinned (.plain (OpenSpec.upto objectLoadSaysSpec)) objectLoadSaysUptoCard

/-- THE SECOND FORM's CARD OF 'turnerylaw8.ObjectJoinSays'. -/
def objectJoinSaysUptoCard : Claim7 := { stood := { row := objectJoinSaysUptoRow, standIns := [], harness := (true, "0958adbdf2ae4aff2aedacc01da22f1fc099ea605dda5aa081322c0fee378040"), looks := false }, kinds := [], alts := [], laidByText := true, laidKinds := [.data], laidTests := true, laidLooks := .later }
def ObjectJoinSaysUptoCardSaid : Prop := Claim7.holds Tryd.pinned (.plain (OpenSpec.upto objectJoinSaysSpec)) objectJoinSaysUptoCard
end Rows
end Go.Proofs.YtipcpemdpdhnfaaDoor
