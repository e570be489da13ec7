/-
  NARROWER THAN 'FOR EVERY INPUT', by the rows' own cells (each row's printed sentence says how): LinkReachSays: laid · LinkUndoneSays: laid · LinkDoSays: laid · BundlePackSays: laid · BundleOpenSays: laid · BundleFindSays: laid · BundleNeedSays: laid · BundleBack: laid · BundleFound: laid · BundleNeeds: laid.
  DERIVED. THE GIVEN ROWS OF THIS SEAT. 10 by the template 'for every input the law returns true; each argument reads behind the call as it read before'; 0 by the template 'total and deterministic' (their statements: YtfhnmbnniklmiaaDoorTotals.lean).
  GIVEN WITH THE SEED: the statements are not yours to turn. If you find one false, say at which input.
  Laid BY PROGRAM, IN A SANDBOX (cutbox-rows.mjs): the forced cells as the released guide's own fill.sh prints them over the translation 5cbaf5f648192534… (all of the seat's roots in one cut). By AI agents, Wed Nov 11 2026. No macro, syntax, notation, axiom, sorry.
-/
import Derived.Test.YtfhnmbnniklmiaaDoorChecked
import GoSem.Claim
import GoSem.ClaimJoined
import GoSem.ClaimMapViews
import Derived.JoinedTies
import Derived.KernelRfl
namespace Go.Proofs.YtfhnmbnniklmiaaDoor
/- THE CELL 'sum', in the pinned program and in every row, IS THE sha256 OF THE DUMP (.gsa) THAT YtfhnmbnniklmiaaDoorProg.lean LOADS. Nothing in Lean hashes anything: it is a label: what it is worth is what the hold of that sum in a sandbox is worth. -/
noncomputable def Tryd.pinned : Pinned := { name := "ytfhnmbnniklmiaadoor", sum := "5cbaf5f648192534e6264029763b5f47d5b516de66dfaf64cd7ed30925e3a787", checked := Tryd.checked }
namespace Rows
def none {H : Type} : Left H := { results := [], args := [] }

/- WHAT THE LISTED PACKAGE-LEVEL VARIABLES READ AS WHEN THE CALL BEGINS. Each datum BY PROGRAM (the guide's laid-datum.mjs) off the statement by which the dump's own 'gosem.cut.vars' lays the variable. In a bare row this is a premise. The card (YtfhnmbnniklmiaaDoorCards.lean) ties it to the program's text. -/
def laid_turnery_mac_shapes {H : Type} : DataW H := .agg [.agg [.lit (.bool false), .lit (.bool false), .lit (.bool false), .lit (.int .i64 0)], .agg [.lit (.bool true), .lit (.bool false), .lit (.bool false), .lit (.int .i64 1)], .agg [.lit (.bool true), .lit (.bool true), .lit (.bool false), .lit (.int .i64 0)], .agg [.lit (.bool true), .lit (.bool true), .lit (.bool false), .lit (.int .i64 0)], .agg [.lit (.bool true), .lit (.bool true), .lit (.bool false), .lit (.int .i64 0)], .agg [.lit (.bool false), .lit (.bool false), .lit (.bool false), .lit (.int .i64 0)], .agg [.lit (.bool false), .lit (.bool false), .lit (.bool false), .lit (.int .i64 0)], .agg [.lit (.bool false), .lit (.bool false), .lit (.bool false), .lit (.int .i64 0)], .agg [.lit (.bool false), .lit (.bool false), .lit (.bool false), .lit (.int .i64 0)], .agg [.lit (.bool false), .lit (.bool false), .lit (.bool false), .lit (.int .i64 0)], .agg [.lit (.bool false), .lit (.bool false), .lit (.bool false), .lit (.int .i64 0)], .agg [.lit (.bool false), .lit (.bool false), .lit (.bool false), .lit (.int .i64 0)], .agg [.lit (.bool false), .lit (.bool false), .lit (.bool false), .lit (.int .i64 0)], .agg [.lit (.bool false), .lit (.bool false), .lit (.bool false), .lit (.int .i64 0)], .agg [.lit (.bool false), .lit (.bool false), .lit (.bool false), .lit (.int .i64 0)], .agg [.lit (.bool false), .lit (.bool false), .lit (.bool false), .lit (.int .i64 0)], .agg [.lit (.bool false), .lit (.bool false), .lit (.bool false), .lit (.int .i64 0)], .agg [.lit (.bool false), .lit (.bool false), .lit (.bool false), .lit (.int .i64 0)], .agg [.lit (.bool false), .lit (.bool false), .lit (.bool false), .lit (.int .i64 0)], .agg [.lit (.bool false), .lit (.bool false), .lit (.bool false), .lit (.int .i64 0)], .agg [.lit (.bool false), .lit (.bool false), .lit (.bool false), .lit (.int .i64 0)], .agg [.lit (.bool false), .lit (.bool false), .lit (.bool false), .lit (.int .i64 0)], .agg [.lit (.bool false), .lit (.bool false), .lit (.bool false), .lit (.int .i64 0)], .agg [.lit (.bool false), .lit (.bool false), .lit (.bool false), .lit (.int .i64 0)], .agg [.lit (.bool false), .lit (.bool false), .lit (.bool false), .lit (.int .i64 0)], .agg [.lit (.bool false), .lit (.bool false), .lit (.bool false), .lit (.int .i64 0)], .agg [.lit (.bool false), .lit (.bool false), .lit (.bool false), .lit (.int .i64 0)], .agg [.lit (.bool false), .lit (.bool false), .lit (.bool false), .lit (.int .i64 0)], .agg [.lit (.bool false), .lit (.bool false), .lit (.bool false), .lit (.int .i64 0)], .agg [.lit (.bool false), .lit (.bool false), .lit (.bool false), .lit (.int .i64 0)], .agg [.lit (.bool false), .lit (.bool false), .lit (.bool false), .lit (.int .i64 0)], .agg [.lit (.bool false), .lit (.bool false), .lit (.bool false), .lit (.int .i64 0)], .agg [.lit (.bool false), .lit (.bool false), .lit (.bool false), .lit (.int .i64 0)], .agg [.lit (.bool true), .lit (.bool true), .lit (.bool false), .lit (.int .i64 1)], .agg [.lit (.bool false), .lit (.bool true), .lit (.bool true), .lit (.int .i64 1)], .agg [.lit (.bool true), .lit (.bool false), .lit (.bool false), .lit (.int .i64 3)], .agg [.lit (.bool false), .lit (.bool true), .lit (.bool false), .lit (.int .i64 3)], .agg [.lit (.bool false), .lit (.bool false), .lit (.bool false), .lit (.int .i64 2)], .agg [.lit (.bool false), .lit (.bool true), .lit (.bool false), .lit (.int .i64 2)], .agg [.lit (.bool false), .lit (.bool true), .lit (.bool false), .lit (.int .i64 2)], .agg [.lit (.bool false), .lit (.bool false), .lit (.bool false), .lit (.int .i64 0)], .agg [.lit (.bool false), .lit (.bool false), .lit (.bool false), .lit (.int .i64 0)], .agg [.lit (.bool false), .lit (.bool false), .lit (.bool false), .lit (.int .i64 0)], .agg [.lit (.bool false), .lit (.bool false), .lit (.bool false), .lit (.int .i64 0)], .agg [.lit (.bool false), .lit (.bool false), .lit (.bool false), .lit (.int .i64 4)], .agg [.lit (.bool false), .lit (.bool false), .lit (.bool false), .lit (.int .i64 0)], .agg [.lit (.bool true), .lit (.bool false), .lit (.bool false), .lit (.int .i64 0)], .agg [.lit (.bool false), .lit (.bool true), .lit (.bool false), .lit (.int .i64 0)]]

/-- 'turnerylaw8.LinkReachSays': WHATEVER THE INPUT: true; the input reads as it did. -/
def linkReachSaysSpec : ChangeSpec := { name := "linkReachSays", fn := fun _ => fun
  | [d] => { results := [.lit (.bool true)], args := [d] }
  | _ => none }
def linkReachSaysRow : OpenClaim := { program := "ytfhnmbnniklmiaadoor", sum := "5cbaf5f648192534e6264029763b5f47d5b516de66dfaf64cd7ed30925e3a787", func := "turnery/turnerylaw8.LinkReachSays", spec := "linkReachSays", unfollowed := true, recurses := true, named := ["turnery/mac.shapes"], apart := false, laid := [("turnery/mac.shapes", laid_turnery_mac_shapes)] }
def LinkReachSaysSaid : Prop := linkReachSaysRow.holds Tryd.pinned (OpenSpec.ofChange linkReachSaysSpec)

/-- ITS FALSE NEIGHBOUR: 'it returns false'. Refute it at one input. -/
def linkReachSaysWrong : ChangeSpec := { name := "linkReachSays", fn := fun _ => fun
  | [d] => { results := [.lit (.bool false)], args := [d] }
  | _ => none }
def LinkReachSaysWrongFalsely : Prop := linkReachSaysRow.holds Tryd.pinned (OpenSpec.ofChange linkReachSaysWrong)

/-- 'turnerylaw8.LinkUndoneSays': WHATEVER THE INPUT: true; the input reads as it did. -/
def linkUndoneSaysSpec : ChangeSpec := { name := "linkUndoneSays", fn := fun _ => fun
  | [d] => { results := [.lit (.bool true)], args := [d] }
  | _ => none }
def linkUndoneSaysRow : OpenClaim := { program := "ytfhnmbnniklmiaadoor", sum := "5cbaf5f648192534e6264029763b5f47d5b516de66dfaf64cd7ed30925e3a787", func := "turnery/turnerylaw8.LinkUndoneSays", spec := "linkUndoneSays", unfollowed := true, recurses := true, named := ["turnery/mac.shapes"], apart := false, laid := [("turnery/mac.shapes", laid_turnery_mac_shapes)] }
def LinkUndoneSaysSaid : Prop := linkUndoneSaysRow.holds Tryd.pinned (OpenSpec.ofChange linkUndoneSaysSpec)

/-- ITS FALSE NEIGHBOUR: 'it returns false'. Refute it at one input. -/
def linkUndoneSaysWrong : ChangeSpec := { name := "linkUndoneSays", fn := fun _ => fun
  | [d] => { results := [.lit (.bool false)], args := [d] }
  | _ => none }
def LinkUndoneSaysWrongFalsely : Prop := linkUndoneSaysRow.holds Tryd.pinned (OpenSpec.ofChange linkUndoneSaysWrong)

/-- 'turnerylaw8.LinkDoSays': WHATEVER THE INPUT: true; the input reads as it did. -/
def linkDoSaysSpec : ChangeSpec := { name := "linkDoSays", fn := fun _ => fun
  | [d] => { results := [.lit (.bool true)], args := [d] }
  | _ => none }
def linkDoSaysRow : OpenClaim := { program := "ytfhnmbnniklmiaadoor", sum := "5cbaf5f648192534e6264029763b5f47d5b516de66dfaf64cd7ed30925e3a787", func := "turnery/turnerylaw8.LinkDoSays", spec := "linkDoSays", unfollowed := true, recurses := true, named := ["turnery/mac.shapes"], apart := false, laid := [("turnery/mac.shapes", laid_turnery_mac_shapes)] }
def LinkDoSaysSaid : Prop := linkDoSaysRow.holds Tryd.pinned (OpenSpec.ofChange linkDoSaysSpec)

/-- ITS FALSE NEIGHBOUR: 'it returns false'. Refute it at one input. -/
def linkDoSaysWrong : ChangeSpec := { name := "linkDoSays", fn := fun _ => fun
  | [d] => { results := [.lit (.bool false)], args := [d] }
  | _ => none }
def LinkDoSaysWrongFalsely : Prop := linkDoSaysRow.holds Tryd.pinned (OpenSpec.ofChange linkDoSaysWrong)

/-- 'turnerylaw8.BundlePackSays': WHATEVER THE INPUT: true; the input reads as it did. -/
def bundlePackSaysSpec : ChangeSpec := { name := "bundlePackSays", fn := fun _ => fun
  | [d] => { results := [.lit (.bool true)], args := [d] }
  | _ => none }
def bundlePackSaysRow : OpenClaim := { program := "ytfhnmbnniklmiaadoor", sum := "5cbaf5f648192534e6264029763b5f47d5b516de66dfaf64cd7ed30925e3a787", func := "turnery/turnerylaw8.BundlePackSays", spec := "bundlePackSays", inPlace := ["slices.overlaps[turnery/bundle.entry]"], unfollowed := true, recurses := true, named := ["turnery/mac.shapes"], apart := false, laid := [("turnery/mac.shapes", laid_turnery_mac_shapes)] }
def BundlePackSaysSaid : Prop := bundlePackSaysRow.holds Tryd.pinned (OpenSpec.ofChange bundlePackSaysSpec)

/-- ITS FALSE NEIGHBOUR: 'it returns false'. Refute it at one input. -/
def bundlePackSaysWrong : ChangeSpec := { name := "bundlePackSays", fn := fun _ => fun
  | [d] => { results := [.lit (.bool false)], args := [d] }
  | _ => none }
def BundlePackSaysWrongFalsely : Prop := bundlePackSaysRow.holds Tryd.pinned (OpenSpec.ofChange bundlePackSaysWrong)

/-- 'turnerylaw8.BundleOpenSays': WHATEVER THE INPUT: true; the input reads as it did. -/
def bundleOpenSaysSpec : ChangeSpec := { name := "bundleOpenSays", fn := fun _ => fun
  | [d] => { results := [.lit (.bool true)], args := [d] }
  | _ => none }
def bundleOpenSaysRow : OpenClaim := { program := "ytfhnmbnniklmiaadoor", sum := "5cbaf5f648192534e6264029763b5f47d5b516de66dfaf64cd7ed30925e3a787", func := "turnery/turnerylaw8.BundleOpenSays", spec := "bundleOpenSays", inPlace := ["slices.overlaps[turnery/bundle.entry]"], unfollowed := true, recurses := true, named := ["turnery/mac.shapes"], apart := false, laid := [("turnery/mac.shapes", laid_turnery_mac_shapes)] }
def BundleOpenSaysSaid : Prop := bundleOpenSaysRow.holds Tryd.pinned (OpenSpec.ofChange bundleOpenSaysSpec)

/-- ITS FALSE NEIGHBOUR: 'it returns false'. Refute it at one input. -/
def bundleOpenSaysWrong : ChangeSpec := { name := "bundleOpenSays", fn := fun _ => fun
  | [d] => { results := [.lit (.bool false)], args := [d] }
  | _ => none }
def BundleOpenSaysWrongFalsely : Prop := bundleOpenSaysRow.holds Tryd.pinned (OpenSpec.ofChange bundleOpenSaysWrong)

/-- 'turnerylaw8.BundleFindSays': WHATEVER THE INPUT: true; the input reads as it did. -/
def bundleFindSaysSpec : ChangeSpec := { name := "bundleFindSays", fn := fun _ => fun
  | [d1, d2] => { results := [.lit (.bool true)], args := [d1, d2] }
  | _ => none }
def bundleFindSaysRow : OpenClaim := { program := "ytfhnmbnniklmiaadoor", sum := "5cbaf5f648192534e6264029763b5f47d5b516de66dfaf64cd7ed30925e3a787", func := "turnery/turnerylaw8.BundleFindSays", spec := "bundleFindSays", inPlace := ["slices.overlaps[turnery/bundle.entry]"], unfollowed := true, recurses := true, named := ["turnery/mac.shapes"], apart := false, laid := [("turnery/mac.shapes", laid_turnery_mac_shapes)] }
def BundleFindSaysSaid : Prop := bundleFindSaysRow.holds Tryd.pinned (OpenSpec.ofChange bundleFindSaysSpec)

/-- ITS FALSE NEIGHBOUR: 'it returns false'. Refute it at one input. -/
def bundleFindSaysWrong : ChangeSpec := { name := "bundleFindSays", fn := fun _ => fun
  | [d1, d2] => { results := [.lit (.bool false)], args := [d1, d2] }
  | _ => none }
def BundleFindSaysWrongFalsely : Prop := bundleFindSaysRow.holds Tryd.pinned (OpenSpec.ofChange bundleFindSaysWrong)

/-- 'turnerylaw8.BundleNeedSays': WHATEVER THE INPUT: true; the input reads as it did. -/
def bundleNeedSaysSpec : ChangeSpec := { name := "bundleNeedSays", fn := fun _ => fun
  | [d1, d2] => { results := [.lit (.bool true)], args := [d1, d2] }
  | _ => none }
def bundleNeedSaysRow : OpenClaim := { program := "ytfhnmbnniklmiaadoor", sum := "5cbaf5f648192534e6264029763b5f47d5b516de66dfaf64cd7ed30925e3a787", func := "turnery/turnerylaw8.BundleNeedSays", spec := "bundleNeedSays", inPlace := ["slices.overlaps[turnery/bundle.entry]"], unfollowed := true, recurses := true, named := ["turnery/mac.shapes"], apart := false, laid := [("turnery/mac.shapes", laid_turnery_mac_shapes)] }
def BundleNeedSaysSaid : Prop := bundleNeedSaysRow.holds Tryd.pinned (OpenSpec.ofChange bundleNeedSaysSpec)

/-- ITS FALSE NEIGHBOUR: 'it returns false'. Refute it at one input. -/
def bundleNeedSaysWrong : ChangeSpec := { name := "bundleNeedSays", fn := fun _ => fun
  | [d1, d2] => { results := [.lit (.bool false)], args := [d1, d2] }
  | _ => none }
def BundleNeedSaysWrongFalsely : Prop := bundleNeedSaysRow.holds Tryd.pinned (OpenSpec.ofChange bundleNeedSaysWrong)

/-- 'turnerylaw8.BundleBack': WHATEVER THE INPUT: true; the input reads as it did. -/
def bundleBackSpec : ChangeSpec := { name := "bundleBack", fn := fun _ => fun
  | [d1, d2, d3] => { results := [.lit (.bool true)], args := [d1, d2, d3] }
  | _ => none }
def bundleBackRow : OpenClaim := { program := "ytfhnmbnniklmiaadoor", sum := "5cbaf5f648192534e6264029763b5f47d5b516de66dfaf64cd7ed30925e3a787", func := "turnery/turnerylaw8.BundleBack", spec := "bundleBack", inPlace := ["slices.overlaps[turnery/bundle.entry]"], unfollowed := true, recurses := true, named := ["turnery/mac.shapes"], apart := false, laid := [("turnery/mac.shapes", laid_turnery_mac_shapes)] }
def BundleBackSaid : Prop := bundleBackRow.holds Tryd.pinned (OpenSpec.ofChange bundleBackSpec)

/-- ITS FALSE NEIGHBOUR: 'it returns false'. Refute it at one input. -/
def bundleBackWrong : ChangeSpec := { name := "bundleBack", fn := fun _ => fun
  | [d1, d2, d3] => { results := [.lit (.bool false)], args := [d1, d2, d3] }
  | _ => none }
def BundleBackWrongFalsely : Prop := bundleBackRow.holds Tryd.pinned (OpenSpec.ofChange bundleBackWrong)

/-- 'turnerylaw8.BundleFound': WHATEVER THE INPUT: true; the input reads as it did. -/
def bundleFoundSpec : ChangeSpec := { name := "bundleFound", fn := fun _ => fun
  | [d1, d2] => { results := [.lit (.bool true)], args := [d1, d2] }
  | _ => none }
def bundleFoundRow : OpenClaim := { program := "ytfhnmbnniklmiaadoor", sum := "5cbaf5f648192534e6264029763b5f47d5b516de66dfaf64cd7ed30925e3a787", func := "turnery/turnerylaw8.BundleFound", spec := "bundleFound", inPlace := ["slices.overlaps[turnery/bundle.entry]"], unfollowed := true, recurses := true, named := ["turnery/mac.shapes"], apart := false, laid := [("turnery/mac.shapes", laid_turnery_mac_shapes)] }
def BundleFoundSaid : Prop := bundleFoundRow.holds Tryd.pinned (OpenSpec.ofChange bundleFoundSpec)

/-- ITS FALSE NEIGHBOUR: 'it returns false'. Refute it at one input. -/
def bundleFoundWrong : ChangeSpec := { name := "bundleFound", fn := fun _ => fun
  | [d1, d2] => { results := [.lit (.bool false)], args := [d1, d2] }
  | _ => none }
def BundleFoundWrongFalsely : Prop := bundleFoundRow.holds Tryd.pinned (OpenSpec.ofChange bundleFoundWrong)

/-- 'turnerylaw8.BundleNeeds': WHATEVER THE INPUT: true; the input reads as it did. -/
def bundleNeedsSpec : ChangeSpec := { name := "bundleNeeds", fn := fun _ => fun
  | [d1, d2, d3] => { results := [.lit (.bool true)], args := [d1, d2, d3] }
  | _ => none }
def bundleNeedsRow : OpenClaim := { program := "ytfhnmbnniklmiaadoor", sum := "5cbaf5f648192534e6264029763b5f47d5b516de66dfaf64cd7ed30925e3a787", func := "turnery/turnerylaw8.BundleNeeds", spec := "bundleNeeds", inPlace := ["slices.overlaps[turnery/bundle.entry]"], unfollowed := true, recurses := true, named := ["turnery/mac.shapes"], apart := false, laid := [("turnery/mac.shapes", laid_turnery_mac_shapes)] }
def BundleNeedsSaid : Prop := bundleNeedsRow.holds Tryd.pinned (OpenSpec.ofChange bundleNeedsSpec)

/-- ITS FALSE NEIGHBOUR: 'it returns false'. Refute it at one input. -/
def bundleNeedsWrong : ChangeSpec := { name := "bundleNeeds", fn := fun _ => fun
  | [d1, d2, d3] => { results := [.lit (.bool false)], args := [d1, d2, d3] }
  | _ => none }
def BundleNeedsWrongFalsely : Prop := bundleNeedsRow.holds Tryd.pinned (OpenSpec.ofChange bundleNeedsWrong)

/- THE SECOND FORM. 'bulk': how many values and letters a reading holds, each counted each time it is reached (what is shared counts as often as it is met; a slice's spare places count too). A statement '..UptoSaid' is the law's where the arguments, and the package variables that the reading takes, are together of bulk at most 1048576: NARROWER than '..Said'. Prove '..Said' where nothing that the law and all that it calls make is longer than what came in: it says more and counts as full. Else prove '..UptoSaid'. A law counts once. -/
mutual
def uptoBulk {H : Type} : DataW H → Nat
  | .lit (.string bytes) => bytes.length + 1
  | .lit _ => 1
  | .nil => 1
  | .ptr d => uptoBulk d + 1
  | .slice elems spare => uptoBulkAll elems + uptoBulkAll spare + 1
  | .agg parts => uptoBulkAll parts + 1
  | .iface _ d => uptoBulk d + 1
  | .map entries => uptoBulkEntries entries + 1
  | .held _ => 1
def uptoBulkAll {H : Type} : List (DataW H) → Nat
  | [] => 0
  | d :: r => uptoBulk d + uptoBulkAll r
def uptoBulkEntries {H : Type} : List (Lit × DataW H) → Nat
  | [] => 0
  | x :: r => uptoBulkEntry x + uptoBulkEntries r
def uptoBulkEntry {H : Type} : Lit × DataW H → Nat
  | (.string bytes, d) => bytes.length + uptoBulk d + 1
  | (_, d) => uptoBulk d + 1
 end
def uptoSmall : (H : Type) → List (DataW H) → Bool := fun _ ds => decide (uptoBulkAll ds ≤ 1048576)
def OpenSpec.upto (s : _root_.Go.ChangeSpec) : _root_.Go.OpenSpec := { _root_.Go.OpenSpec.ofChange s with cond := some uptoSmall }

/-- 'turnerylaw8.LinkReachSays', WHERE WHAT IT READS IS OF BULK AT MOST 1048576: true; the input reads as it did. -/
def linkReachSaysUptoRow : OpenClaim := { program := "ytfhnmbnniklmiaadoor", sum := "5cbaf5f648192534e6264029763b5f47d5b516de66dfaf64cd7ed30925e3a787", func := "turnery/turnerylaw8.LinkReachSays", spec := "linkReachSays", unfollowed := true, recurses := true, named := ["turnery/mac.shapes"], apart := false, laid := [("turnery/mac.shapes", laid_turnery_mac_shapes)], narrowed := true }
def LinkReachSaysUptoSaid : Prop := linkReachSaysUptoRow.holds Tryd.pinned (OpenSpec.upto linkReachSaysSpec)

/-- 'turnerylaw8.LinkUndoneSays', WHERE WHAT IT READS IS OF BULK AT MOST 1048576: true; the input reads as it did. -/
def linkUndoneSaysUptoRow : OpenClaim := { program := "ytfhnmbnniklmiaadoor", sum := "5cbaf5f648192534e6264029763b5f47d5b516de66dfaf64cd7ed30925e3a787", func := "turnery/turnerylaw8.LinkUndoneSays", spec := "linkUndoneSays", unfollowed := true, recurses := true, named := ["turnery/mac.shapes"], apart := false, laid := [("turnery/mac.shapes", laid_turnery_mac_shapes)], narrowed := true }
def LinkUndoneSaysUptoSaid : Prop := linkUndoneSaysUptoRow.holds Tryd.pinned (OpenSpec.upto linkUndoneSaysSpec)

/-- 'turnerylaw8.LinkDoSays', WHERE WHAT IT READS IS OF BULK AT MOST 1048576: true; the input reads as it did. -/
def linkDoSaysUptoRow : OpenClaim := { program := "ytfhnmbnniklmiaadoor", sum := "5cbaf5f648192534e6264029763b5f47d5b516de66dfaf64cd7ed30925e3a787", func := "turnery/turnerylaw8.LinkDoSays", spec := "linkDoSays", unfollowed := true, recurses := true, named := ["turnery/mac.shapes"], apart := false, laid := [("turnery/mac.shapes", laid_turnery_mac_shapes)], narrowed := true }
def LinkDoSaysUptoSaid : Prop := linkDoSaysUptoRow.holds Tryd.pinned (OpenSpec.upto linkDoSaysSpec)

/-- 'turnerylaw8.BundlePackSays', WHERE WHAT IT READS IS OF BULK AT MOST 1048576: true; the input reads as it did. -/
def bundlePackSaysUptoRow : OpenClaim := { program := "ytfhnmbnniklmiaadoor", sum := "5cbaf5f648192534e6264029763b5f47d5b516de66dfaf64cd7ed30925e3a787", func := "turnery/turnerylaw8.BundlePackSays", spec := "bundlePackSays", inPlace := ["slices.overlaps[turnery/bundle.entry]"], unfollowed := true, recurses := true, named := ["turnery/mac.shapes"], apart := false, laid := [("turnery/mac.shapes", laid_turnery_mac_shapes)], narrowed := true }
def BundlePackSaysUptoSaid : Prop := bundlePackSaysUptoRow.holds Tryd.pinned (OpenSpec.upto bundlePackSaysSpec)

/-- 'turnerylaw8.BundleOpenSays', WHERE WHAT IT READS IS OF BULK AT MOST 1048576: true; the input reads as it did. -/
def bundleOpenSaysUptoRow : OpenClaim := { program := "ytfhnmbnniklmiaadoor", sum := "5cbaf5f648192534e6264029763b5f47d5b516de66dfaf64cd7ed30925e3a787", func := "turnery/turnerylaw8.BundleOpenSays", spec := "bundleOpenSays", inPlace := ["slices.overlaps[turnery/bundle.entry]"], unfollowed := true, recurses := true, named := ["turnery/mac.shapes"], apart := false, laid := [("turnery/mac.shapes", laid_turnery_mac_shapes)], narrowed := true }
def BundleOpenSaysUptoSaid : Prop := bundleOpenSaysUptoRow.holds Tryd.pinned (OpenSpec.upto bundleOpenSaysSpec)

/-- 'turnerylaw8.BundleFindSays', WHERE WHAT IT READS IS OF BULK AT MOST 1048576: true; the input reads as it did. -/
def bundleFindSaysUptoRow : OpenClaim := { program := "ytfhnmbnniklmiaadoor", sum := "5cbaf5f648192534e6264029763b5f47d5b516de66dfaf64cd7ed30925e3a787", func := "turnery/turnerylaw8.BundleFindSays", spec := "bundleFindSays", inPlace := ["slices.overlaps[turnery/bundle.entry]"], unfollowed := true, recurses := true, named := ["turnery/mac.shapes"], apart := false, laid := [("turnery/mac.shapes", laid_turnery_mac_shapes)], narrowed := true }
def BundleFindSaysUptoSaid : Prop := bundleFindSaysUptoRow.holds Tryd.pinned (OpenSpec.upto bundleFindSaysSpec)

/-- 'turnerylaw8.BundleNeedSays', WHERE WHAT IT READS IS OF BULK AT MOST 1048576: true; the input reads as it did. -/
def bundleNeedSaysUptoRow : OpenClaim := { program := "ytfhnmbnniklmiaadoor", sum := "5cbaf5f648192534e6264029763b5f47d5b516de66dfaf64cd7ed30925e3a787", func := "turnery/turnerylaw8.BundleNeedSays", spec := "bundleNeedSays", inPlace := ["slices.overlaps[turnery/bundle.entry]"], unfollowed := true, recurses := true, named := ["turnery/mac.shapes"], apart := false, laid := [("turnery/mac.shapes", laid_turnery_mac_shapes)], narrowed := true }
def BundleNeedSaysUptoSaid : Prop := bundleNeedSaysUptoRow.holds Tryd.pinned (OpenSpec.upto bundleNeedSaysSpec)

/-- 'turnerylaw8.BundleBack', WHERE WHAT IT READS IS OF BULK AT MOST 1048576: true; the input reads as it did. -/
def bundleBackUptoRow : OpenClaim := { program := "ytfhnmbnniklmiaadoor", sum := "5cbaf5f648192534e6264029763b5f47d5b516de66dfaf64cd7ed30925e3a787", func := "turnery/turnerylaw8.BundleBack", spec := "bundleBack", inPlace := ["slices.overlaps[turnery/bundle.entry]"], unfollowed := true, recurses := true, named := ["turnery/mac.shapes"], apart := false, laid := [("turnery/mac.shapes", laid_turnery_mac_shapes)], narrowed := true }
def BundleBackUptoSaid : Prop := bundleBackUptoRow.holds Tryd.pinned (OpenSpec.upto bundleBackSpec)

/-- 'turnerylaw8.BundleFound', WHERE WHAT IT READS IS OF BULK AT MOST 1048576: true; the input reads as it did. -/
def bundleFoundUptoRow : OpenClaim := { program := "ytfhnmbnniklmiaadoor", sum := "5cbaf5f648192534e6264029763b5f47d5b516de66dfaf64cd7ed30925e3a787", func := "turnery/turnerylaw8.BundleFound", spec := "bundleFound", inPlace := ["slices.overlaps[turnery/bundle.entry]"], unfollowed := true, recurses := true, named := ["turnery/mac.shapes"], apart := false, laid := [("turnery/mac.shapes", laid_turnery_mac_shapes)], narrowed := true }
def BundleFoundUptoSaid : Prop := bundleFoundUptoRow.holds Tryd.pinned (OpenSpec.upto bundleFoundSpec)

/-- 'turnerylaw8.BundleNeeds', WHERE WHAT IT READS IS OF BULK AT MOST 1048576: true; the input reads as it did. -/
def bundleNeedsUptoRow : OpenClaim := { program := "ytfhnmbnniklmiaadoor", sum := "5cbaf5f648192534e6264029763b5f47d5b516de66dfaf64cd7ed30925e3a787", func := "turnery/turnerylaw8.BundleNeeds", spec := "bundleNeeds", inPlace := ["slices.overlaps[turnery/bundle.entry]"], unfollowed := true, recurses := true, named := ["turnery/mac.shapes"], apart := false, laid := [("turnery/mac.shapes", laid_turnery_mac_shapes)], narrowed := true }
def BundleNeedsUptoSaid : Prop := bundleNeedsUptoRow.holds Tryd.pinned (OpenSpec.upto bundleNeedsSpec)

end Rows
end Go.Proofs.YtfhnmbnniklmiaaDoor
