/-
  DERIVED. GIVEN WITH THE SEED: THE CARDS: each row of YtkodcoianakjoaaDoorRows.lean that lists a variable, with what it lists TIED to the program's text (the seventh form; the later family's looks); each row that meets fmt, with fmt's text TOLD by the authors' own Lean function (tested against real Go, not proved from fmt's source: count such statements apart). THE CARD IS WHAT COUNTS. Prove the row's statement (the work); the ties are given (YtkodcoianakjoaaDoorTie.lean); close each card by the builder's one call (the guide's Derived/Test/ToyasCard.lean, 'card_holds'). Laid BY PROGRAM, IN A SANDBOX (cutbox-door.mjs). By AI agents, Wed Nov 11 2026. No macro, syntax, notation, axiom, sorry.
-/
import Derived.Test.YtkodcoianakjoaaDoorRows
import GoSem.ClaimSeven
namespace Go.Proofs.YtkodcoianakjoaaDoor
namespace Rows

/-- THE TIED CARD OF 'turnerylaw8.ObjectPartSays'. -/
def objectPartSaysCard : Claim7 := { stood := { row := objectPartSaysRow, standIns := [], harness := (true, "3ae54058c645bea92189d27e073f71b75476a3f990227d7030fbdb02ffef9868"), looks := false }, kinds := [], alts := [], laidByText := true, laidKinds := [.data], laidTests := true, laidLooks := .later }
def ObjectPartSaysCardSaid : Prop := Claim7.holds Tryd.pinned (.plain (OpenSpec.ofChange objectPartSaysSpec)) objectPartSaysCard

/-- THE TIED CARD OF 'turnerylaw8.ObjectSaveSays'. -/
def objectSaveSaysCard : Claim7 := { stood := { row := objectSaveSaysRow, standIns := [], harness := (true, "3ae54058c645bea92189d27e073f71b75476a3f990227d7030fbdb02ffef9868"), looks := false }, kinds := [], alts := [], laidByText := true, laidKinds := [.data], laidTests := true, laidLooks := .later }
def ObjectSaveSaysCardSaid : Prop := Claim7.holds Tryd.pinned (.plain (OpenSpec.ofChange objectSaveSaysSpec)) objectSaveSaysCard

/-- THE TIED CARD OF 'turnerylaw8.ObjectLoadSays'. -/
def objectLoadSaysCard : Claim7 := { stood := { row := objectLoadSaysRow, standIns := [], harness := (true, "3ae54058c645bea92189d27e073f71b75476a3f990227d7030fbdb02ffef9868"), looks := false }, kinds := [], alts := [], laidByText := true, laidKinds := [.data], laidTests := true, laidLooks := .later }
def ObjectLoadSaysCardSaid : Prop := Claim7.holds Tryd.pinned (.plain (OpenSpec.ofChange objectLoadSaysSpec)) objectLoadSaysCard

/-- THE TIED CARD OF 'turnerylaw8.ObjectJoinSays'. -/
def objectJoinSaysCard : Claim7 := { stood := { row := objectJoinSaysRow, standIns := [], harness := (true, "3ae54058c645bea92189d27e073f71b75476a3f990227d7030fbdb02ffef9868"), looks := false }, kinds := [], alts := [], laidByText := true, laidKinds := [.data], laidTests := true, laidLooks := .later }
def ObjectJoinSaysCardSaid : Prop := Claim7.holds Tryd.pinned (.plain (OpenSpec.ofChange objectJoinSaysSpec)) objectJoinSaysCard

/-- THE TIED CARD OF 'turnerylaw8.ObjectBack'. -/
def objectBackCard : Claim7 := { stood := { row := objectBackRow, standIns := [], harness := (true, "3ae54058c645bea92189d27e073f71b75476a3f990227d7030fbdb02ffef9868"), looks := false }, kinds := [], alts := [], laidByText := true, laidKinds := [.data], laidTests := true, laidLooks := .later }
def ObjectBackCardSaid : Prop := Claim7.holds Tryd.pinned (.plain (OpenSpec.ofChange objectBackSpec)) objectBackCard

/-- THE TIED CARD OF 'turnerylaw8.ObjectFixed'. -/
def objectFixedCard : Claim7 := { stood := { row := objectFixedRow, standIns := [], harness := (true, "3ae54058c645bea92189d27e073f71b75476a3f990227d7030fbdb02ffef9868"), looks := false }, kinds := [], alts := [], laidByText := true, laidKinds := [.data], laidTests := true, laidLooks := .later }
def ObjectFixedCardSaid : Prop := Claim7.holds Tryd.pinned (.plain (OpenSpec.ofChange objectFixedSpec)) objectFixedCard

/-- THE TIED CARD OF 'turnerylaw8.ObjectSeen'. -/
def objectSeenCard : Claim7 := { stood := { row := objectSeenRow, standIns := [], harness := (true, "3ae54058c645bea92189d27e073f71b75476a3f990227d7030fbdb02ffef9868"), looks := false }, kinds := [], alts := [], laidByText := true, laidKinds := [.data], laidTests := true, laidLooks := .later }
def ObjectSeenCardSaid : Prop := Claim7.holds Tryd.pinned (.plain (OpenSpec.ofChange objectSeenSpec)) objectSeenCard

/-- THE TIED CARD OF 'turnerylaw8.ObjectParts'. -/
def objectPartsCard : Claim7 := { stood := { row := objectPartsRow, standIns := [], harness := (true, "3ae54058c645bea92189d27e073f71b75476a3f990227d7030fbdb02ffef9868"), looks := false }, kinds := [], alts := [], laidByText := true, laidKinds := [.data], laidTests := true, laidLooks := .later }
def ObjectPartsCardSaid : Prop := Claim7.holds Tryd.pinned (.plain (OpenSpec.ofChange objectPartsSpec)) objectPartsCard

/-- THE TIED CARD OF 'turnerylaw8.ObjectJoined'. -/
def objectJoinedCard : Claim7 := { stood := { row := objectJoinedRow, standIns := [], harness := (true, "3ae54058c645bea92189d27e073f71b75476a3f990227d7030fbdb02ffef9868"), looks := false }, kinds := [], alts := [], laidByText := true, laidKinds := [.data], laidTests := true, laidLooks := .later }
def ObjectJoinedCardSaid : Prop := Claim7.holds Tryd.pinned (.plain (OpenSpec.ofChange objectJoinedSpec)) objectJoinedCard

/-- THE SECOND FORM's CARD OF 'turnerylaw8.ObjectPartSays'. -/
def objectPartSaysUptoCard : Claim7 := { stood := { row := objectPartSaysUptoRow, standIns := [], harness := (true, "3ae54058c645bea92189d27e073f71b75476a3f990227d7030fbdb02ffef9868"), looks := false }, kinds := [], alts := [], laidByText := true, laidKinds := [.data], laidTests := true, laidLooks := .later }
def ObjectPartSaysUptoCardSaid : Prop := Claim7.holds Tryd.pinned (.plain (OpenSpec.upto objectPartSaysSpec)) objectPartSaysUptoCard

/-- THE SECOND FORM's CARD OF 'turnerylaw8.ObjectSaveSays'. -/
def objectSaveSaysUptoCard : Claim7 := { stood := { row := objectSaveSaysUptoRow, standIns := [], harness := (true, "3ae54058c645bea92189d27e073f71b75476a3f990227d7030fbdb02ffef9868"), looks := false }, kinds := [], alts := [], laidByText := true, laidKinds := [.data], laidTests := true, laidLooks := .later }
def ObjectSaveSaysUptoCardSaid : Prop := Claim7.holds Tryd.pinned (.plain (OpenSpec.upto objectSaveSaysSpec)) objectSaveSaysUptoCard

/-- THE SECOND FORM's CARD OF 'turnerylaw8.ObjectLoadSays'. -/
def objectLoadSaysUptoCard : Claim7 := { stood := { row := objectLoadSaysUptoRow, standIns := [], harness := (true, "3ae54058c645bea92189d27e073f71b75476a3f990227d7030fbdb02ffef9868"), looks := false }, kinds := [], alts := [], laidByText := true, laidKinds := [.data], laidTests := true, laidLooks := .later }
def ObjectLoadSaysUptoCardSaid : Prop := Claim7.holds Tryd.pinned (.plain (OpenSpec.upto objectLoadSaysSpec)) objectLoadSaysUptoCard

/-- THE SECOND FORM's CARD OF 'turnerylaw8.ObjectJoinSays'. -/
def objectJoinSaysUptoCard : Claim7 := { stood := { row := objectJoinSaysUptoRow, standIns := [], harness := (true, "3ae54058c645bea92189d27e073f71b75476a3f990227d7030fbdb02ffef9868"), looks := false }, kinds := [], alts := [], laidByText := true, laidKinds := [.data], laidTests := true, laidLooks := .later }
def ObjectJoinSaysUptoCardSaid : Prop := Claim7.holds Tryd.pinned (.plain (OpenSpec.upto objectJoinSaysSpec)) objectJoinSaysUptoCard

/-- THE SECOND FORM's CARD OF 'turnerylaw8.ObjectBack'. -/
def objectBackUptoCard : Claim7 := { stood := { row := objectBackUptoRow, standIns := [], harness := (true, "3ae54058c645bea92189d27e073f71b75476a3f990227d7030fbdb02ffef9868"), looks := false }, kinds := [], alts := [], laidByText := true, laidKinds := [.data], laidTests := true, laidLooks := .later }
def ObjectBackUptoCardSaid : Prop := Claim7.holds Tryd.pinned (.plain (OpenSpec.upto objectBackSpec)) objectBackUptoCard

/-- THE SECOND FORM's CARD OF 'turnerylaw8.ObjectFixed'. -/
def objectFixedUptoCard : Claim7 := { stood := { row := objectFixedUptoRow, standIns := [], harness := (true, "3ae54058c645bea92189d27e073f71b75476a3f990227d7030fbdb02ffef9868"), looks := false }, kinds := [], alts := [], laidByText := true, laidKinds := [.data], laidTests := true, laidLooks := .later }
def ObjectFixedUptoCardSaid : Prop := Claim7.holds Tryd.pinned (.plain (OpenSpec.upto objectFixedSpec)) objectFixedUptoCard

/-- THE SECOND FORM's CARD OF 'turnerylaw8.ObjectSeen'. -/
def objectSeenUptoCard : Claim7 := { stood := { row := objectSeenUptoRow, standIns := [], harness := (true, "3ae54058c645bea92189d27e073f71b75476a3f990227d7030fbdb02ffef9868"), looks := false }, kinds := [], alts := [], laidByText := true, laidKinds := [.data], laidTests := true, laidLooks := .later }
def ObjectSeenUptoCardSaid : Prop := Claim7.holds Tryd.pinned (.plain (OpenSpec.upto objectSeenSpec)) objectSeenUptoCard

/-- THE SECOND FORM's CARD OF 'turnerylaw8.ObjectParts'. -/
def objectPartsUptoCard : Claim7 := { stood := { row := objectPartsUptoRow, standIns := [], harness := (true, "3ae54058c645bea92189d27e073f71b75476a3f990227d7030fbdb02ffef9868"), looks := false }, kinds := [], alts := [], laidByText := true, laidKinds := [.data], laidTests := true, laidLooks := .later }
def ObjectPartsUptoCardSaid : Prop := Claim7.holds Tryd.pinned (.plain (OpenSpec.upto objectPartsSpec)) objectPartsUptoCard

/-- THE SECOND FORM's CARD OF 'turnerylaw8.ObjectJoined'. -/
def objectJoinedUptoCard : Claim7 := { stood := { row := objectJoinedUptoRow, standIns := [], harness := (true, "3ae54058c645bea92189d27e073f71b75476a3f990227d7030fbdb02ffef9868"), looks := false }, kinds := [], alts := [], laidByText := true, laidKinds := [.data], laidTests := true, laidLooks := .later }
def ObjectJoinedUptoCardSaid : Prop := Claim7.holds Tryd.pinned (.plain (OpenSpec.upto objectJoinedSpec)) objectJoinedUptoCard
end Rows
end Go.Proofs.YtkodcoianakjoaaDoor
