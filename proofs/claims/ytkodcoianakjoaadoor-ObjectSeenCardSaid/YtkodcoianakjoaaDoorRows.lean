/-
  NARROWER THAN 'FOR EVERY INPUT', by the rows' own cells (each row's printed sentence says how): ObjectPartSays: laid · ObjectSaveSays: laid · ObjectLoadSays: laid · ObjectJoinSays: laid · ObjectBack: laid · ObjectFixed: laid · ObjectSeen: laid · ObjectParts: laid · ObjectJoined: laid.
  DERIVED. THE GIVEN ROWS OF THIS SEAT. 9 by the template 'for every input the law returns true; each argument reads behind the call as it read before'; 0 by the template 'total and deterministic' (their statements: YtkodcoianakjoaaDoorTotals.lean).
  GIVEN WITH THE SEED: the statements are not yours to turn. If you find one false, say at which input.
  Laid BY PROGRAM, IN A SANDBOX (cutbox-rows.mjs): the forced cells as the released guide's own fill.sh prints them over the translation 55ac2e221a1f83a7… (all of the seat's roots in one cut). By AI agents, Wed Nov 11 2026. No macro, syntax, notation, axiom, sorry.
-/
import Derived.Test.YtkodcoianakjoaaDoorChecked
import GoSem.Claim
import GoSem.ClaimJoined
import GoSem.ClaimMapViews
import Derived.JoinedTies
import Derived.KernelRfl
namespace Go.Proofs.YtkodcoianakjoaaDoor
/- THE CELL 'sum', in the pinned program and in every row, IS THE sha256 OF THE DUMP (.gsa) THAT YtkodcoianakjoaaDoorProg.lean LOADS. Nothing in Lean hashes anything: it is a label: what it is worth is what the hold of that sum in a sandbox is worth. -/
noncomputable def Tryd.pinned : Pinned := { name := "ytkodcoianakjoaadoor", sum := "55ac2e221a1f83a7af402fd2b3defb75452448cfd19a24466938aa134c5a11e2", checked := Tryd.checked }
namespace Rows
def none {H : Type} : Left H := { results := [], args := [] }

/- WHAT THE LISTED PACKAGE-LEVEL VARIABLES READ AS WHEN THE CALL BEGINS. Each datum BY PROGRAM (the guide's laid-datum.mjs) off the statement by which the dump's own 'gosem.cut.vars' lays the variable. In a bare row this is a premise. The card (YtkodcoianakjoaaDoorCards.lean) ties it to the program's text. -/
def laid_turnery_mac_shapes {H : Type} : DataW H := .agg [.agg [.lit (.bool false), .lit (.bool false), .lit (.bool false), .lit (.int .i64 0)], .agg [.lit (.bool true), .lit (.bool false), .lit (.bool false), .lit (.int .i64 1)], .agg [.lit (.bool true), .lit (.bool true), .lit (.bool false), .lit (.int .i64 0)], .agg [.lit (.bool true), .lit (.bool true), .lit (.bool false), .lit (.int .i64 0)], .agg [.lit (.bool true), .lit (.bool true), .lit (.bool false), .lit (.int .i64 0)], .agg [.lit (.bool false), .lit (.bool false), .lit (.bool false), .lit (.int .i64 0)], .agg [.lit (.bool false), .lit (.bool false), .lit (.bool false), .lit (.int .i64 0)], .agg [.lit (.bool false), .lit (.bool false), .lit (.bool false), .lit (.int .i64 0)], .agg [.lit (.bool false), .lit (.bool false), .lit (.bool false), .lit (.int .i64 0)], .agg [.lit (.bool false), .lit (.bool false), .lit (.bool false), .lit (.int .i64 0)], .agg [.lit (.bool false), .lit (.bool false), .lit (.bool false), .lit (.int .i64 0)], .agg [.lit (.bool false), .lit (.bool false), .lit (.bool false), .lit (.int .i64 0)], .agg [.lit (.bool false), .lit (.bool false), .lit (.bool false), .lit (.int .i64 0)], .agg [.lit (.bool false), .lit (.bool false), .lit (.bool false), .lit (.int .i64 0)], .agg [.lit (.bool false), .lit (.bool false), .lit (.bool false), .lit (.int .i64 0)], .agg [.lit (.bool false), .lit (.bool false), .lit (.bool false), .lit (.int .i64 0)], .agg [.lit (.bool false), .lit (.bool false), .lit (.bool false), .lit (.int .i64 0)], .agg [.lit (.bool false), .lit (.bool false), .lit (.bool false), .lit (.int .i64 0)], .agg [.lit (.bool false), .lit (.bool false), .lit (.bool false), .lit (.int .i64 0)], .agg [.lit (.bool false), .lit (.bool false), .lit (.bool false), .lit (.int .i64 0)], .agg [.lit (.bool false), .lit (.bool false), .lit (.bool false), .lit (.int .i64 0)], .agg [.lit (.bool false), .lit (.bool false), .lit (.bool false), .lit (.int .i64 0)], .agg [.lit (.bool false), .lit (.bool false), .lit (.bool false), .lit (.int .i64 0)], .agg [.lit (.bool false), .lit (.bool false), .lit (.bool false), .lit (.int .i64 0)], .agg [.lit (.bool false), .lit (.bool false), .lit (.bool false), .lit (.int .i64 0)], .agg [.lit (.bool false), .lit (.bool false), .lit (.bool false), .lit (.int .i64 0)], .agg [.lit (.bool false), .lit (.bool false), .lit (.bool false), .lit (.int .i64 0)], .agg [.lit (.bool false), .lit (.bool false), .lit (.bool false), .lit (.int .i64 0)], .agg [.lit (.bool false), .lit (.bool false), .lit (.bool false), .lit (.int .i64 0)], .agg [.lit (.bool false), .lit (.bool false), .lit (.bool false), .lit (.int .i64 0)], .agg [.lit (.bool false), .lit (.bool false), .lit (.bool false), .lit (.int .i64 0)], .agg [.lit (.bool false), .lit (.bool false), .lit (.bool false), .lit (.int .i64 0)], .agg [.lit (.bool false), .lit (.bool false), .lit (.bool false), .lit (.int .i64 0)], .agg [.lit (.bool true), .lit (.bool true), .lit (.bool false), .lit (.int .i64 1)], .agg [.lit (.bool false), .lit (.bool true), .lit (.bool true), .lit (.int .i64 1)], .agg [.lit (.bool true), .lit (.bool false), .lit (.bool false), .lit (.int .i64 3)], .agg [.lit (.bool false), .lit (.bool true), .lit (.bool false), .lit (.int .i64 3)], .agg [.lit (.bool false), .lit (.bool false), .lit (.bool false), .lit (.int .i64 2)], .agg [.lit (.bool false), .lit (.bool true), .lit (.bool false), .lit (.int .i64 2)], .agg [.lit (.bool false), .lit (.bool true), .lit (.bool false), .lit (.int .i64 2)], .agg [.lit (.bool false), .lit (.bool false), .lit (.bool false), .lit (.int .i64 0)], .agg [.lit (.bool false), .lit (.bool false), .lit (.bool false), .lit (.int .i64 0)], .agg [.lit (.bool false), .lit (.bool false), .lit (.bool false), .lit (.int .i64 0)], .agg [.lit (.bool false), .lit (.bool false), .lit (.bool false), .lit (.int .i64 0)], .agg [.lit (.bool false), .lit (.bool false), .lit (.bool false), .lit (.int .i64 4)], .agg [.lit (.bool false), .lit (.bool false), .lit (.bool false), .lit (.int .i64 0)], .agg [.lit (.bool true), .lit (.bool false), .lit (.bool false), .lit (.int .i64 0)], .agg [.lit (.bool false), .lit (.bool true), .lit (.bool false), .lit (.int .i64 0)]]

/-- 'turnerylaw8.ObjectPartSays': WHATEVER THE INPUT: true; the input reads as it did. -/
def objectPartSaysSpec : ChangeSpec := { name := "objectPartSays", fn := fun _ => fun
  | [d1, d2] => { results := [.lit (.bool true)], args := [d1, d2] }
  | _ => none }
def objectPartSaysRow : OpenClaim := { program := "ytkodcoianakjoaadoor", sum := "55ac2e221a1f83a7af402fd2b3defb75452448cfd19a24466938aa134c5a11e2", func := "turnery/turnerylaw8.ObjectPartSays", spec := "objectPartSays", unfollowed := true, recurses := true, named := ["turnery/mac.shapes"], apart := false, laid := [("turnery/mac.shapes", laid_turnery_mac_shapes)] }
def ObjectPartSaysSaid : Prop := objectPartSaysRow.holds Tryd.pinned (OpenSpec.ofChange objectPartSaysSpec)

/-- ITS FALSE NEIGHBOUR: 'it returns false'. Refute it at one input. -/
def objectPartSaysWrong : ChangeSpec := { name := "objectPartSays", fn := fun _ => fun
  | [d1, d2] => { results := [.lit (.bool false)], args := [d1, d2] }
  | _ => none }
def ObjectPartSaysWrongFalsely : Prop := objectPartSaysRow.holds Tryd.pinned (OpenSpec.ofChange objectPartSaysWrong)

/-- 'turnerylaw8.ObjectSaveSays': WHATEVER THE INPUT: true; the input reads as it did. -/
def objectSaveSaysSpec : ChangeSpec := { name := "objectSaveSays", fn := fun _ => fun
  | [d] => { results := [.lit (.bool true)], args := [d] }
  | _ => none }
def objectSaveSaysRow : OpenClaim := { program := "ytkodcoianakjoaadoor", sum := "55ac2e221a1f83a7af402fd2b3defb75452448cfd19a24466938aa134c5a11e2", func := "turnery/turnerylaw8.ObjectSaveSays", spec := "objectSaveSays", unfollowed := true, recurses := true, named := ["turnery/mac.shapes"], apart := false, laid := [("turnery/mac.shapes", laid_turnery_mac_shapes)] }
def ObjectSaveSaysSaid : Prop := objectSaveSaysRow.holds Tryd.pinned (OpenSpec.ofChange objectSaveSaysSpec)

/-- ITS FALSE NEIGHBOUR: 'it returns false'. Refute it at one input. -/
def objectSaveSaysWrong : ChangeSpec := { name := "objectSaveSays", fn := fun _ => fun
  | [d] => { results := [.lit (.bool false)], args := [d] }
  | _ => none }
def ObjectSaveSaysWrongFalsely : Prop := objectSaveSaysRow.holds Tryd.pinned (OpenSpec.ofChange objectSaveSaysWrong)

/-- 'turnerylaw8.ObjectLoadSays': WHATEVER THE INPUT: true; the input reads as it did. -/
def objectLoadSaysSpec : ChangeSpec := { name := "objectLoadSays", fn := fun _ => fun
  | [d] => { results := [.lit (.bool true)], args := [d] }
  | _ => none }
def objectLoadSaysRow : OpenClaim := { program := "ytkodcoianakjoaadoor", sum := "55ac2e221a1f83a7af402fd2b3defb75452448cfd19a24466938aa134c5a11e2", func := "turnery/turnerylaw8.ObjectLoadSays", spec := "objectLoadSays", unfollowed := true, recurses := true, named := ["turnery/mac.shapes"], apart := false, laid := [("turnery/mac.shapes", laid_turnery_mac_shapes)] }
def ObjectLoadSaysSaid : Prop := objectLoadSaysRow.holds Tryd.pinned (OpenSpec.ofChange objectLoadSaysSpec)

/-- ITS FALSE NEIGHBOUR: 'it returns false'. Refute it at one input. -/
def objectLoadSaysWrong : ChangeSpec := { name := "objectLoadSays", fn := fun _ => fun
  | [d] => { results := [.lit (.bool false)], args := [d] }
  | _ => none }
def ObjectLoadSaysWrongFalsely : Prop := objectLoadSaysRow.holds Tryd.pinned (OpenSpec.ofChange objectLoadSaysWrong)

/-- 'turnerylaw8.ObjectJoinSays': WHATEVER THE INPUT: true; the input reads as it did. -/
def objectJoinSaysSpec : ChangeSpec := { name := "objectJoinSays", fn := fun _ => fun
  | [d1, d2] => { results := [.lit (.bool true)], args := [d1, d2] }
  | _ => none }
def objectJoinSaysRow : OpenClaim := { program := "ytkodcoianakjoaadoor", sum := "55ac2e221a1f83a7af402fd2b3defb75452448cfd19a24466938aa134c5a11e2", func := "turnery/turnerylaw8.ObjectJoinSays", spec := "objectJoinSays", unfollowed := true, recurses := true, named := ["turnery/mac.shapes"], apart := false, laid := [("turnery/mac.shapes", laid_turnery_mac_shapes)] }
def ObjectJoinSaysSaid : Prop := objectJoinSaysRow.holds Tryd.pinned (OpenSpec.ofChange objectJoinSaysSpec)

/-- ITS FALSE NEIGHBOUR: 'it returns false'. Refute it at one input. -/
def objectJoinSaysWrong : ChangeSpec := { name := "objectJoinSays", fn := fun _ => fun
  | [d1, d2] => { results := [.lit (.bool false)], args := [d1, d2] }
  | _ => none }
def ObjectJoinSaysWrongFalsely : Prop := objectJoinSaysRow.holds Tryd.pinned (OpenSpec.ofChange objectJoinSaysWrong)

/-- 'turnerylaw8.ObjectBack': WHATEVER THE INPUT: true; the input reads as it did. -/
def objectBackSpec : ChangeSpec := { name := "objectBack", fn := fun _ => fun
  | [d1, d2] => { results := [.lit (.bool true)], args := [d1, d2] }
  | _ => none }
def objectBackRow : OpenClaim := { program := "ytkodcoianakjoaadoor", sum := "55ac2e221a1f83a7af402fd2b3defb75452448cfd19a24466938aa134c5a11e2", func := "turnery/turnerylaw8.ObjectBack", spec := "objectBack", unfollowed := true, recurses := true, named := ["turnery/mac.shapes"], apart := false, laid := [("turnery/mac.shapes", laid_turnery_mac_shapes)] }
def ObjectBackSaid : Prop := objectBackRow.holds Tryd.pinned (OpenSpec.ofChange objectBackSpec)

/-- ITS FALSE NEIGHBOUR: 'it returns false'. Refute it at one input. -/
def objectBackWrong : ChangeSpec := { name := "objectBack", fn := fun _ => fun
  | [d1, d2] => { results := [.lit (.bool false)], args := [d1, d2] }
  | _ => none }
def ObjectBackWrongFalsely : Prop := objectBackRow.holds Tryd.pinned (OpenSpec.ofChange objectBackWrong)

/-- 'turnerylaw8.ObjectFixed': WHATEVER THE INPUT: true; the input reads as it did. -/
def objectFixedSpec : ChangeSpec := { name := "objectFixed", fn := fun _ => fun
  | [d] => { results := [.lit (.bool true)], args := [d] }
  | _ => none }
def objectFixedRow : OpenClaim := { program := "ytkodcoianakjoaadoor", sum := "55ac2e221a1f83a7af402fd2b3defb75452448cfd19a24466938aa134c5a11e2", func := "turnery/turnerylaw8.ObjectFixed", spec := "objectFixed", unfollowed := true, recurses := true, named := ["turnery/mac.shapes"], apart := false, laid := [("turnery/mac.shapes", laid_turnery_mac_shapes)] }
def ObjectFixedSaid : Prop := objectFixedRow.holds Tryd.pinned (OpenSpec.ofChange objectFixedSpec)

/-- ITS FALSE NEIGHBOUR: 'it returns false'. Refute it at one input. -/
def objectFixedWrong : ChangeSpec := { name := "objectFixed", fn := fun _ => fun
  | [d] => { results := [.lit (.bool false)], args := [d] }
  | _ => none }
def ObjectFixedWrongFalsely : Prop := objectFixedRow.holds Tryd.pinned (OpenSpec.ofChange objectFixedWrong)

/-- 'turnerylaw8.ObjectSeen': WHATEVER THE INPUT: true; the input reads as it did. -/
def objectSeenSpec : ChangeSpec := { name := "objectSeen", fn := fun _ => fun
  | [d1, d2, d3] => { results := [.lit (.bool true)], args := [d1, d2, d3] }
  | _ => none }
def objectSeenRow : OpenClaim := { program := "ytkodcoianakjoaadoor", sum := "55ac2e221a1f83a7af402fd2b3defb75452448cfd19a24466938aa134c5a11e2", func := "turnery/turnerylaw8.ObjectSeen", spec := "objectSeen", unfollowed := true, recurses := true, named := ["turnery/mac.shapes"], apart := false, laid := [("turnery/mac.shapes", laid_turnery_mac_shapes)] }
def ObjectSeenSaid : Prop := objectSeenRow.holds Tryd.pinned (OpenSpec.ofChange objectSeenSpec)

/-- ITS FALSE NEIGHBOUR: 'it returns false'. Refute it at one input. -/
def objectSeenWrong : ChangeSpec := { name := "objectSeen", fn := fun _ => fun
  | [d1, d2, d3] => { results := [.lit (.bool false)], args := [d1, d2, d3] }
  | _ => none }
def ObjectSeenWrongFalsely : Prop := objectSeenRow.holds Tryd.pinned (OpenSpec.ofChange objectSeenWrong)

/-- 'turnerylaw8.ObjectParts': WHATEVER THE INPUT: true; the input reads as it did. -/
def objectPartsSpec : ChangeSpec := { name := "objectParts", fn := fun _ => fun
  | [d1, d2] => { results := [.lit (.bool true)], args := [d1, d2] }
  | _ => none }
def objectPartsRow : OpenClaim := { program := "ytkodcoianakjoaadoor", sum := "55ac2e221a1f83a7af402fd2b3defb75452448cfd19a24466938aa134c5a11e2", func := "turnery/turnerylaw8.ObjectParts", spec := "objectParts", unfollowed := true, recurses := true, named := ["turnery/mac.shapes"], apart := false, laid := [("turnery/mac.shapes", laid_turnery_mac_shapes)] }
def ObjectPartsSaid : Prop := objectPartsRow.holds Tryd.pinned (OpenSpec.ofChange objectPartsSpec)

/-- ITS FALSE NEIGHBOUR: 'it returns false'. Refute it at one input. -/
def objectPartsWrong : ChangeSpec := { name := "objectParts", fn := fun _ => fun
  | [d1, d2] => { results := [.lit (.bool false)], args := [d1, d2] }
  | _ => none }
def ObjectPartsWrongFalsely : Prop := objectPartsRow.holds Tryd.pinned (OpenSpec.ofChange objectPartsWrong)

/-- 'turnerylaw8.ObjectJoined': WHATEVER THE INPUT: true; the input reads as it did. -/
def objectJoinedSpec : ChangeSpec := { name := "objectJoined", fn := fun _ => fun
  | [d] => { results := [.lit (.bool true)], args := [d] }
  | _ => none }
def objectJoinedRow : OpenClaim := { program := "ytkodcoianakjoaadoor", sum := "55ac2e221a1f83a7af402fd2b3defb75452448cfd19a24466938aa134c5a11e2", func := "turnery/turnerylaw8.ObjectJoined", spec := "objectJoined", unfollowed := true, recurses := true, named := ["turnery/mac.shapes"], apart := false, laid := [("turnery/mac.shapes", laid_turnery_mac_shapes)] }
def ObjectJoinedSaid : Prop := objectJoinedRow.holds Tryd.pinned (OpenSpec.ofChange objectJoinedSpec)

/-- ITS FALSE NEIGHBOUR: 'it returns false'. Refute it at one input. -/
def objectJoinedWrong : ChangeSpec := { name := "objectJoined", fn := fun _ => fun
  | [d] => { results := [.lit (.bool false)], args := [d] }
  | _ => none }
def ObjectJoinedWrongFalsely : Prop := objectJoinedRow.holds Tryd.pinned (OpenSpec.ofChange objectJoinedWrong)

/- THE SECOND FORM. 'bulk': how many values and letters a reading holds, each counted each time it is reached (what is shared counts as often as it is met; a slice's spare places count too). A statement '..UptoSaid' is the law's where the arguments, and the package variables that the reading takes, are together of bulk at most 1048576: NARROWER than '..Said'. Prove '..Said' where nothing that the law and all that it calls make is longer than what came in: it says more and counts as full. Else prove '..UptoSaid'. A law counts once. -/
mutual
def uptoBulk {H : Type} : DataW H → Nat
  | .lit (.string bytes) => bytes.length + 1
  | .lit _ => 1
  | .nil => 1
  | .ptr d => uptoBulk d + 1
  | .slice elems spare => uptoBulkAll elems + uptoBulkAll spare + 1
  | .agg parts => uptoBulkAll parts + 1
  | .iface _ d => uptoBulk d + 1
  | .map entries => uptoBulkEntries entries + 1
  | .held _ => 1
def uptoBulkAll {H : Type} : List (DataW H) → Nat
  | [] => 0
  | d :: r => uptoBulk d + uptoBulkAll r
def uptoBulkEntries {H : Type} : List (Lit × DataW H) → Nat
  | [] => 0
  | x :: r => uptoBulkEntry x + uptoBulkEntries r
def uptoBulkEntry {H : Type} : Lit × DataW H → Nat
  | (.string bytes, d) => bytes.length + uptoBulk d + 1
  | (_, d) => uptoBulk d + 1
 end
def uptoSmall : (H : Type) → List (DataW H) → Bool := fun _ ds => decide (uptoBulkAll ds ≤ 1048576)
def OpenSpec.upto (s : _root_.Go.ChangeSpec) : _root_.Go.OpenSpec := { _root_.Go.OpenSpec.ofChange s with cond := some uptoSmall }

/-- 'turnerylaw8.ObjectPartSays', WHERE WHAT IT READS IS OF BULK AT MOST 1048576: true; the input reads as it did. -/
def objectPartSaysUptoRow : OpenClaim := { program := "ytkodcoianakjoaadoor", sum := "55ac2e221a1f83a7af402fd2b3defb75452448cfd19a24466938aa134c5a11e2", func := "turnery/turnerylaw8.ObjectPartSays", spec := "objectPartSays", unfollowed := true, recurses := true, named := ["turnery/mac.shapes"], apart := false, laid := [("turnery/mac.shapes", laid_turnery_mac_shapes)], narrowed := true }
def ObjectPartSaysUptoSaid : Prop := objectPartSaysUptoRow.holds Tryd.pinned (OpenSpec.upto objectPartSaysSpec)

/-- 'turnerylaw8.ObjectSaveSays', WHERE WHAT IT READS IS OF BULK AT MOST 1048576: true; the input reads as it did. -/
def objectSaveSaysUptoRow : OpenClaim := { program := "ytkodcoianakjoaadoor", sum := "55ac2e221a1f83a7af402fd2b3defb75452448cfd19a24466938aa134c5a11e2", func := "turnery/turnerylaw8.ObjectSaveSays", spec := "objectSaveSays", unfollowed := true, recurses := true, named := ["turnery/mac.shapes"], apart := false, laid := [("turnery/mac.shapes", laid_turnery_mac_shapes)], narrowed := true }
def ObjectSaveSaysUptoSaid : Prop := objectSaveSaysUptoRow.holds Tryd.pinned (OpenSpec.upto objectSaveSaysSpec)

/-- 'turnerylaw8.ObjectLoadSays', WHERE WHAT IT READS IS OF BULK AT MOST 1048576: true; the input reads as it did. -/
def objectLoadSaysUptoRow : OpenClaim := { program := "ytkodcoianakjoaadoor", sum := "55ac2e221a1f83a7af402fd2b3defb75452448cfd19a24466938aa134c5a11e2", func := "turnery/turnerylaw8.ObjectLoadSays", spec := "objectLoadSays", unfollowed := true, recurses := true, named := ["turnery/mac.shapes"], apart := false, laid := [("turnery/mac.shapes", laid_turnery_mac_shapes)], narrowed := true }
def ObjectLoadSaysUptoSaid : Prop := objectLoadSaysUptoRow.holds Tryd.pinned (OpenSpec.upto objectLoadSaysSpec)

/-- 'turnerylaw8.ObjectJoinSays', WHERE WHAT IT READS IS OF BULK AT MOST 1048576: true; the input reads as it did. -/
def objectJoinSaysUptoRow : OpenClaim := { program := "ytkodcoianakjoaadoor", sum := "55ac2e221a1f83a7af402fd2b3defb75452448cfd19a24466938aa134c5a11e2", func := "turnery/turnerylaw8.ObjectJoinSays", spec := "objectJoinSays", unfollowed := true, recurses := true, named := ["turnery/mac.shapes"], apart := false, laid := [("turnery/mac.shapes", laid_turnery_mac_shapes)], narrowed := true }
def ObjectJoinSaysUptoSaid : Prop := objectJoinSaysUptoRow.holds Tryd.pinned (OpenSpec.upto objectJoinSaysSpec)

/-- 'turnerylaw8.ObjectBack', WHERE WHAT IT READS IS OF BULK AT MOST 1048576: true; the input reads as it did. -/
def objectBackUptoRow : OpenClaim := { program := "ytkodcoianakjoaadoor", sum := "55ac2e221a1f83a7af402fd2b3defb75452448cfd19a24466938aa134c5a11e2", func := "turnery/turnerylaw8.ObjectBack", spec := "objectBack", unfollowed := true, recurses := true, named := ["turnery/mac.shapes"], apart := false, laid := [("turnery/mac.shapes", laid_turnery_mac_shapes)], narrowed := true }
def ObjectBackUptoSaid : Prop := objectBackUptoRow.holds Tryd.pinned (OpenSpec.upto objectBackSpec)

/-- 'turnerylaw8.ObjectFixed', WHERE WHAT IT READS IS OF BULK AT MOST 1048576: true; the input reads as it did. -/
def objectFixedUptoRow : OpenClaim := { program := "ytkodcoianakjoaadoor", sum := "55ac2e221a1f83a7af402fd2b3defb75452448cfd19a24466938aa134c5a11e2", func := "turnery/turnerylaw8.ObjectFixed", spec := "objectFixed", unfollowed := true, recurses := true, named := ["turnery/mac.shapes"], apart := false, laid := [("turnery/mac.shapes", laid_turnery_mac_shapes)], narrowed := true }
def ObjectFixedUptoSaid : Prop := objectFixedUptoRow.holds Tryd.pinned (OpenSpec.upto objectFixedSpec)

/-- 'turnerylaw8.ObjectSeen', WHERE WHAT IT READS IS OF BULK AT MOST 1048576: true; the input reads as it did. -/
def objectSeenUptoRow : OpenClaim := { program := "ytkodcoianakjoaadoor", sum := "55ac2e221a1f83a7af402fd2b3defb75452448cfd19a24466938aa134c5a11e2", func := "turnery/turnerylaw8.ObjectSeen", spec := "objectSeen", unfollowed := true, recurses := true, named := ["turnery/mac.shapes"], apart := false, laid := [("turnery/mac.shapes", laid_turnery_mac_shapes)], narrowed := true }
def ObjectSeenUptoSaid : Prop := objectSeenUptoRow.holds Tryd.pinned (OpenSpec.upto objectSeenSpec)

/-- 'turnerylaw8.ObjectParts', WHERE WHAT IT READS IS OF BULK AT MOST 1048576: true; the input reads as it did. -/
def objectPartsUptoRow : OpenClaim := { program := "ytkodcoianakjoaadoor", sum := "55ac2e221a1f83a7af402fd2b3defb75452448cfd19a24466938aa134c5a11e2", func := "turnery/turnerylaw8.ObjectParts", spec := "objectParts", unfollowed := true, recurses := true, named := ["turnery/mac.shapes"], apart := false, laid := [("turnery/mac.shapes", laid_turnery_mac_shapes)], narrowed := true }
def ObjectPartsUptoSaid : Prop := objectPartsUptoRow.holds Tryd.pinned (OpenSpec.upto objectPartsSpec)

/-- 'turnerylaw8.ObjectJoined', WHERE WHAT IT READS IS OF BULK AT MOST 1048576: true; the input reads as it did. -/
def objectJoinedUptoRow : OpenClaim := { program := "ytkodcoianakjoaadoor", sum := "55ac2e221a1f83a7af402fd2b3defb75452448cfd19a24466938aa134c5a11e2", func := "turnery/turnerylaw8.ObjectJoined", spec := "objectJoined", unfollowed := true, recurses := true, named := ["turnery/mac.shapes"], apart := false, laid := [("turnery/mac.shapes", laid_turnery_mac_shapes)], narrowed := true }
def ObjectJoinedUptoSaid : Prop := objectJoinedUptoRow.holds Tryd.pinned (OpenSpec.upto objectJoinedSpec)

end Rows
end Go.Proofs.YtkodcoianakjoaaDoor
