/-
  NARROWER THAN 'FOR EVERY INPUT', by the rows' own cells (each row's printed sentence says how): FrameOfSays: laid · FrameFits: laid · PickDoSays: laid · PickHomes: laid.
  DERIVED. THE GIVEN ROWS OF THIS SEAT. 4 by the template 'for every input the law returns true; each argument reads behind the call as it read before'; 0 by the template 'total and deterministic' (their statements: YtdanebboiekieaaGreatDoorTotals.lean).
  GIVEN WITH THE SEED: the statements are not yours to turn. If you find one false, say at which input.
  Laid BY PROGRAM, IN A SANDBOX (cutbox-rows.mjs): the forced cells as the released guide's own fill.sh prints them over the translation dd5b58b76020624c… (all of the seat's roots in one cut). By AI agents, Wed Nov 11 2026. No macro, syntax, notation, axiom, sorry.
-/
import Derived.Test.YtdanebboiekieaaGreatDoorChecked
import GoSem.Claim
import GoSem.ClaimJoined
import GoSem.ClaimMapViews
import Derived.JoinedTies
import Derived.KernelRfl
namespace Go.Proofs.YtdanebboiekieaaGreatDoor
/- THE CELL 'sum', in the pinned program and in every row, IS THE sha256 OF THE DUMP (.gsa) THAT YtdanebboiekieaaGreatDoorProg.lean LOADS. Nothing in Lean hashes anything: it is a label: what it is worth is what the hold of that sum in a sandbox is worth. -/
noncomputable def Tryz.pinned : Pinned := { name := "ytdanebboiekieaagreatdoor", sum := "dd5b58b76020624c3376558e93ae6822d4039baf584a4d716a1f59f623669fdd", checked := Tryz.checked }
namespace Rows
def none {H : Type} : Left H := { results := [], args := [] }

/- WHAT THE LISTED PACKAGE-LEVEL VARIABLES READ AS WHEN THE CALL BEGINS. Each datum BY PROGRAM (the guide's laid-datum.mjs) off the statement by which the dump's own 'gosem.cut.vars' lays the variable. In a bare row this is a premise. The card (YtdanebboiekieaaGreatDoorCards.lean) ties it to the program's text. -/
def laid_turnery_code_ways {H : Type} : DataW H := .agg [.lit (.int .i64 0), .lit (.int .i64 0), .lit (.int .i64 1), .lit (.int .i64 2)]

/-- 'turnerylaw8.FrameOfSays': WHATEVER THE INPUT: true; the input reads as it did. -/
def frameOfSaysSpec : ChangeSpec := { name := "frameOfSays", fn := fun _ => fun
  | [d1, d2, d3] => { results := [.lit (.bool true)], args := [d1, d2, d3] }
  | _ => none }
def frameOfSaysRow : OpenClaim := { program := "ytdanebboiekieaagreatdoor", sum := "dd5b58b76020624c3376558e93ae6822d4039baf584a4d716a1f59f623669fdd", func := "turnery/turnerylaw8.FrameOfSays", spec := "frameOfSays", unfollowed := true, recurses := true, named := ["turnery/code.ways"], apart := false, laid := [("turnery/code.ways", laid_turnery_code_ways)] }
def FrameOfSaysSaid : Prop := frameOfSaysRow.holds Tryz.pinned (OpenSpec.ofChange frameOfSaysSpec)

/-- ITS FALSE NEIGHBOUR: 'it returns false'. Refute it at one input. -/
def frameOfSaysWrong : ChangeSpec := { name := "frameOfSays", fn := fun _ => fun
  | [d1, d2, d3] => { results := [.lit (.bool false)], args := [d1, d2, d3] }
  | _ => none }
def FrameOfSaysWrongFalsely : Prop := frameOfSaysRow.holds Tryz.pinned (OpenSpec.ofChange frameOfSaysWrong)

/-- 'turnerylaw8.FrameFits': WHATEVER THE INPUT: true; the input reads as it did. -/
def frameFitsSpec : ChangeSpec := { name := "frameFits", fn := fun _ => fun
  | [d1, d2, d3] => { results := [.lit (.bool true)], args := [d1, d2, d3] }
  | _ => none }
def frameFitsRow : OpenClaim := { program := "ytdanebboiekieaagreatdoor", sum := "dd5b58b76020624c3376558e93ae6822d4039baf584a4d716a1f59f623669fdd", func := "turnery/turnerylaw8.FrameFits", spec := "frameFits", unfollowed := true, recurses := true, named := ["turnery/code.ways"], apart := false, laid := [("turnery/code.ways", laid_turnery_code_ways)] }
def FrameFitsSaid : Prop := frameFitsRow.holds Tryz.pinned (OpenSpec.ofChange frameFitsSpec)

/-- ITS FALSE NEIGHBOUR: 'it returns false'. Refute it at one input. -/
def frameFitsWrong : ChangeSpec := { name := "frameFits", fn := fun _ => fun
  | [d1, d2, d3] => { results := [.lit (.bool false)], args := [d1, d2, d3] }
  | _ => none }
def FrameFitsWrongFalsely : Prop := frameFitsRow.holds Tryz.pinned (OpenSpec.ofChange frameFitsWrong)

/-- 'turnerylaw8.PickDoSays': WHATEVER THE INPUT: true; the input reads as it did. -/
def pickDoSaysSpec : ChangeSpec := { name := "pickDoSays", fn := fun _ => fun
  | [d1, d2, d3] => { results := [.lit (.bool true)], args := [d1, d2, d3] }
  | _ => none }
def pickDoSaysRow : OpenClaim := { program := "ytdanebboiekieaagreatdoor", sum := "dd5b58b76020624c3376558e93ae6822d4039baf584a4d716a1f59f623669fdd", func := "turnery/turnerylaw8.PickDoSays", spec := "pickDoSays", unfollowed := true, recurses := true, named := ["turnery/code.ways"], apart := false, laid := [("turnery/code.ways", laid_turnery_code_ways)] }
def PickDoSaysSaid : Prop := pickDoSaysRow.holds Tryz.pinned (OpenSpec.ofChange pickDoSaysSpec)

/-- ITS FALSE NEIGHBOUR: 'it returns false'. Refute it at one input. -/
def pickDoSaysWrong : ChangeSpec := { name := "pickDoSays", fn := fun _ => fun
  | [d1, d2, d3] => { results := [.lit (.bool false)], args := [d1, d2, d3] }
  | _ => none }
def PickDoSaysWrongFalsely : Prop := pickDoSaysRow.holds Tryz.pinned (OpenSpec.ofChange pickDoSaysWrong)

/-- 'turnerylaw8.PickHomes': WHATEVER THE INPUT: true; the input reads as it did. -/
def pickHomesSpec : ChangeSpec := { name := "pickHomes", fn := fun _ => fun
  | [d1, d2, d3] => { results := [.lit (.bool true)], args := [d1, d2, d3] }
  | _ => none }
def pickHomesRow : OpenClaim := { program := "ytdanebboiekieaagreatdoor", sum := "dd5b58b76020624c3376558e93ae6822d4039baf584a4d716a1f59f623669fdd", func := "turnery/turnerylaw8.PickHomes", spec := "pickHomes", unfollowed := true, recurses := true, named := ["turnery/code.ways"], apart := false, laid := [("turnery/code.ways", laid_turnery_code_ways)] }
def PickHomesSaid : Prop := pickHomesRow.holds Tryz.pinned (OpenSpec.ofChange pickHomesSpec)

/-- ITS FALSE NEIGHBOUR: 'it returns false'. Refute it at one input. -/
def pickHomesWrong : ChangeSpec := { name := "pickHomes", fn := fun _ => fun
  | [d1, d2, d3] => { results := [.lit (.bool false)], args := [d1, d2, d3] }
  | _ => none }
def PickHomesWrongFalsely : Prop := pickHomesRow.holds Tryz.pinned (OpenSpec.ofChange pickHomesWrong)

/- THE SECOND FORM. 'bulk': how many values and letters a reading holds, each counted each time it is reached (what is shared counts as often as it is met; a slice's spare places count too). A statement '..UptoSaid' is the law's where the arguments, and the package variables that the reading takes, are together of bulk at most 1048576: NARROWER than '..Said'. Prove '..Said' where nothing that the law and all that it calls make is longer than what came in: it says more and counts as full. Else prove '..UptoSaid'. A law counts once. -/
mutual
def uptoBulk {H : Type} : DataW H → Nat
  | .lit (.string bytes) => bytes.length + 1
  | .lit _ => 1
  | .nil => 1
  | .ptr d => uptoBulk d + 1
  | .slice elems spare => uptoBulkAll elems + uptoBulkAll spare + 1
  | .agg parts => uptoBulkAll parts + 1
  | .iface _ d => uptoBulk d + 1
  | .map entries => uptoBulkEntries entries + 1
  | .held _ => 1
def uptoBulkAll {H : Type} : List (DataW H) → Nat
  | [] => 0
  | d :: r => uptoBulk d + uptoBulkAll r
def uptoBulkEntries {H : Type} : List (Lit × DataW H) → Nat
  | [] => 0
  | x :: r => uptoBulkEntry x + uptoBulkEntries r
def uptoBulkEntry {H : Type} : Lit × DataW H → Nat
  | (.string bytes, d) => bytes.length + uptoBulk d + 1
  | (_, d) => uptoBulk d + 1
 end
def uptoSmall : (H : Type) → List (DataW H) → Bool := fun _ ds => decide (uptoBulkAll ds ≤ 1048576)
def OpenSpec.upto (s : _root_.Go.ChangeSpec) : _root_.Go.OpenSpec := { _root_.Go.OpenSpec.ofChange s with cond := some uptoSmall }

/-- 'turnerylaw8.FrameOfSays', WHERE WHAT IT READS IS OF BULK AT MOST 1048576: true; the input reads as it did. -/
def frameOfSaysUptoRow : OpenClaim := { program := "ytdanebboiekieaagreatdoor", sum := "dd5b58b76020624c3376558e93ae6822d4039baf584a4d716a1f59f623669fdd", func := "turnery/turnerylaw8.FrameOfSays", spec := "frameOfSays", unfollowed := true, recurses := true, named := ["turnery/code.ways"], apart := false, laid := [("turnery/code.ways", laid_turnery_code_ways)], narrowed := true }
def FrameOfSaysUptoSaid : Prop := frameOfSaysUptoRow.holds Tryz.pinned (OpenSpec.upto frameOfSaysSpec)

/-- 'turnerylaw8.FrameFits', WHERE WHAT IT READS IS OF BULK AT MOST 1048576: true; the input reads as it did. -/
def frameFitsUptoRow : OpenClaim := { program := "ytdanebboiekieaagreatdoor", sum := "dd5b58b76020624c3376558e93ae6822d4039baf584a4d716a1f59f623669fdd", func := "turnery/turnerylaw8.FrameFits", spec := "frameFits", unfollowed := true, recurses := true, named := ["turnery/code.ways"], apart := false, laid := [("turnery/code.ways", laid_turnery_code_ways)], narrowed := true }
def FrameFitsUptoSaid : Prop := frameFitsUptoRow.holds Tryz.pinned (OpenSpec.upto frameFitsSpec)

/-- 'turnerylaw8.PickDoSays', WHERE WHAT IT READS IS OF BULK AT MOST 1048576: true; the input reads as it did. -/
def pickDoSaysUptoRow : OpenClaim := { program := "ytdanebboiekieaagreatdoor", sum := "dd5b58b76020624c3376558e93ae6822d4039baf584a4d716a1f59f623669fdd", func := "turnery/turnerylaw8.PickDoSays", spec := "pickDoSays", unfollowed := true, recurses := true, named := ["turnery/code.ways"], apart := false, laid := [("turnery/code.ways", laid_turnery_code_ways)], narrowed := true }
def PickDoSaysUptoSaid : Prop := pickDoSaysUptoRow.holds Tryz.pinned (OpenSpec.upto pickDoSaysSpec)

/-- 'turnerylaw8.PickHomes', WHERE WHAT IT READS IS OF BULK AT MOST 1048576: true; the input reads as it did. -/
def pickHomesUptoRow : OpenClaim := { program := "ytdanebboiekieaagreatdoor", sum := "dd5b58b76020624c3376558e93ae6822d4039baf584a4d716a1f59f623669fdd", func := "turnery/turnerylaw8.PickHomes", spec := "pickHomes", unfollowed := true, recurses := true, named := ["turnery/code.ways"], apart := false, laid := [("turnery/code.ways", laid_turnery_code_ways)], narrowed := true }
def PickHomesUptoSaid : Prop := pickHomesUptoRow.holds Tryz.pinned (OpenSpec.upto pickHomesSpec)

end Rows
end Go.Proofs.YtdanebboiekieaaGreatDoor
