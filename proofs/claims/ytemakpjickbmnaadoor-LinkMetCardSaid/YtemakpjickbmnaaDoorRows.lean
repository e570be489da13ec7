/-
  NARROWER THAN 'FOR EVERY INPUT', by the rows' own cells (each row's printed sentence says how): PeepReach: laid · PeepDoSays: laid · PeepMeans: laid · LinkUndone: laid · LinkMet: laid · FrameBack: laid.
  DERIVED. THE GIVEN ROWS OF THIS SEAT. 6 by the template 'for every input the law returns true; each argument reads behind the call as it read before'; 0 by the template 'total and deterministic' (their statements: YtemakpjickbmnaaDoorTotals.lean).
  GIVEN WITH THE SEED: the statements are not yours to turn. If you find one false, say at which input.
  Laid BY PROGRAM, IN A SANDBOX (cutbox-rows.mjs): the forced cells as the released guide's own fill.sh prints them over the translation 92d894706ac4cac8… (all of the seat's roots in one cut). By AI agents, Wed Nov 11 2026. No macro, syntax, notation, axiom, sorry.
-/
import Derived.Test.YtemakpjickbmnaaDoorChecked
import GoSem.Claim
import GoSem.ClaimJoined
import GoSem.ClaimMapViews
import Derived.JoinedTies
import Derived.KernelRfl
namespace Go.Proofs.YtemakpjickbmnaaDoor
/- THE CELL 'sum', in the pinned program and in every row, IS THE sha256 OF THE DUMP (.gsa) THAT YtemakpjickbmnaaDoorProg.lean LOADS. Nothing in Lean hashes anything: it is a label: what it is worth is what the hold of that sum in a sandbox is worth. -/
noncomputable def Tryd.pinned : Pinned := { name := "ytemakpjickbmnaadoor", sum := "92d894706ac4cac8f197d7ff68da797c61023c89c081ece33a1f94500a2ae585", checked := Tryd.checked }
namespace Rows
def none {H : Type} : Left H := { results := [], args := [] }

/- WHAT THE LISTED PACKAGE-LEVEL VARIABLES READ AS WHEN THE CALL BEGINS. Each datum BY PROGRAM (the guide's laid-datum.mjs) off the statement by which the dump's own 'gosem.cut.vars' lays the variable. In a bare row this is a premise. The card (YtemakpjickbmnaaDoorCards.lean) ties it to the program's text. -/
def laid_turnery_mac_shapes {H : Type} : DataW H := .agg [.agg [.lit (.bool false), .lit (.bool false), .lit (.bool false), .lit (.int .i64 0)], .agg [.lit (.bool true), .lit (.bool false), .lit (.bool false), .lit (.int .i64 1)], .agg [.lit (.bool true), .lit (.bool true), .lit (.bool false), .lit (.int .i64 0)], .agg [.lit (.bool true), .lit (.bool true), .lit (.bool false), .lit (.int .i64 0)], .agg [.lit (.bool true), .lit (.bool true), .lit (.bool false), .lit (.int .i64 0)], .agg [.lit (.bool false), .lit (.bool false), .lit (.bool false), .lit (.int .i64 0)], .agg [.lit (.bool false), .lit (.bool false), .lit (.bool false), .lit (.int .i64 0)], .agg [.lit (.bool false), .lit (.bool false), .lit (.bool false), .lit (.int .i64 0)], .agg [.lit (.bool false), .lit (.bool false), .lit (.bool false), .lit (.int .i64 0)], .agg [.lit (.bool false), .lit (.bool false), .lit (.bool false), .lit (.int .i64 0)], .agg [.lit (.bool false), .lit (.bool false), .lit (.bool false), .lit (.int .i64 0)], .agg [.lit (.bool false), .lit (.bool false), .lit (.bool false), .lit (.int .i64 0)], .agg [.lit (.bool false), .lit (.bool false), .lit (.bool false), .lit (.int .i64 0)], .agg [.lit (.bool false), .lit (.bool false), .lit (.bool false), .lit (.int .i64 0)], .agg [.lit (.bool false), .lit (.bool false), .lit (.bool false), .lit (.int .i64 0)], .agg [.lit (.bool false), .lit (.bool false), .lit (.bool false), .lit (.int .i64 0)], .agg [.lit (.bool false), .lit (.bool false), .lit (.bool false), .lit (.int .i64 0)], .agg [.lit (.bool false), .lit (.bool false), .lit (.bool false), .lit (.int .i64 0)], .agg [.lit (.bool false), .lit (.bool false), .lit (.bool false), .lit (.int .i64 0)], .agg [.lit (.bool false), .lit (.bool false), .lit (.bool false), .lit (.int .i64 0)], .agg [.lit (.bool false), .lit (.bool false), .lit (.bool false), .lit (.int .i64 0)], .agg [.lit (.bool false), .lit (.bool false), .lit (.bool false), .lit (.int .i64 0)], .agg [.lit (.bool false), .lit (.bool false), .lit (.bool false), .lit (.int .i64 0)], .agg [.lit (.bool false), .lit (.bool false), .lit (.bool false), .lit (.int .i64 0)], .agg [.lit (.bool false), .lit (.bool false), .lit (.bool false), .lit (.int .i64 0)], .agg [.lit (.bool false), .lit (.bool false), .lit (.bool false), .lit (.int .i64 0)], .agg [.lit (.bool false), .lit (.bool false), .lit (.bool false), .lit (.int .i64 0)], .agg [.lit (.bool false), .lit (.bool false), .lit (.bool false), .lit (.int .i64 0)], .agg [.lit (.bool false), .lit (.bool false), .lit (.bool false), .lit (.int .i64 0)], .agg [.lit (.bool false), .lit (.bool false), .lit (.bool false), .lit (.int .i64 0)], .agg [.lit (.bool false), .lit (.bool false), .lit (.bool false), .lit (.int .i64 0)], .agg [.lit (.bool false), .lit (.bool false), .lit (.bool false), .lit (.int .i64 0)], .agg [.lit (.bool false), .lit (.bool false), .lit (.bool false), .lit (.int .i64 0)], .agg [.lit (.bool true), .lit (.bool true), .lit (.bool false), .lit (.int .i64 1)], .agg [.lit (.bool false), .lit (.bool true), .lit (.bool true), .lit (.int .i64 1)], .agg [.lit (.bool true), .lit (.bool false), .lit (.bool false), .lit (.int .i64 3)], .agg [.lit (.bool false), .lit (.bool true), .lit (.bool false), .lit (.int .i64 3)], .agg [.lit (.bool false), .lit (.bool false), .lit (.bool false), .lit (.int .i64 2)], .agg [.lit (.bool false), .lit (.bool true), .lit (.bool false), .lit (.int .i64 2)], .agg [.lit (.bool false), .lit (.bool true), .lit (.bool false), .lit (.int .i64 2)], .agg [.lit (.bool false), .lit (.bool false), .lit (.bool false), .lit (.int .i64 0)], .agg [.lit (.bool false), .lit (.bool false), .lit (.bool false), .lit (.int .i64 0)], .agg [.lit (.bool false), .lit (.bool false), .lit (.bool false), .lit (.int .i64 0)], .agg [.lit (.bool false), .lit (.bool false), .lit (.bool false), .lit (.int .i64 0)], .agg [.lit (.bool false), .lit (.bool false), .lit (.bool false), .lit (.int .i64 4)], .agg [.lit (.bool false), .lit (.bool false), .lit (.bool false), .lit (.int .i64 0)], .agg [.lit (.bool true), .lit (.bool false), .lit (.bool false), .lit (.int .i64 0)], .agg [.lit (.bool false), .lit (.bool true), .lit (.bool false), .lit (.int .i64 0)]]

/-- 'turnerylaw8.PeepReach': WHATEVER THE INPUT: true; the input reads as it did. -/
def peepReachSpec : ChangeSpec := { name := "peepReach", fn := fun _ => fun
  | [d] => { results := [.lit (.bool true)], args := [d] }
  | _ => none }
def peepReachRow : OpenClaim := { program := "ytemakpjickbmnaadoor", sum := "92d894706ac4cac8f197d7ff68da797c61023c89c081ece33a1f94500a2ae585", func := "turnery/turnerylaw8.PeepReach", spec := "peepReach", unfollowed := true, recurses := true, named := ["turnery/mac.shapes"], plainKeys := false, apart := false, laid := [("turnery/mac.shapes", laid_turnery_mac_shapes)] }
def PeepReachSaid : Prop := peepReachRow.holds Tryd.pinned (OpenSpec.ofChange peepReachSpec)

/-- ITS FALSE NEIGHBOUR: 'it returns false'. Refute it at one input. -/
def peepReachWrong : ChangeSpec := { name := "peepReach", fn := fun _ => fun
  | [d] => { results := [.lit (.bool false)], args := [d] }
  | _ => none }
def PeepReachWrongFalsely : Prop := peepReachRow.holds Tryd.pinned (OpenSpec.ofChange peepReachWrong)

/-- 'turnerylaw8.PeepDoSays': WHATEVER THE INPUT: true; the input reads as it did. -/
def peepDoSaysSpec : ChangeSpec := { name := "peepDoSays", fn := fun _ => fun
  | [d] => { results := [.lit (.bool true)], args := [d] }
  | _ => none }
def peepDoSaysRow : OpenClaim := { program := "ytemakpjickbmnaadoor", sum := "92d894706ac4cac8f197d7ff68da797c61023c89c081ece33a1f94500a2ae585", func := "turnery/turnerylaw8.PeepDoSays", spec := "peepDoSays", unfollowed := true, recurses := true, named := ["turnery/mac.shapes"], plainKeys := false, apart := false, laid := [("turnery/mac.shapes", laid_turnery_mac_shapes)] }
def PeepDoSaysSaid : Prop := peepDoSaysRow.holds Tryd.pinned (OpenSpec.ofChange peepDoSaysSpec)

/-- ITS FALSE NEIGHBOUR: 'it returns false'. Refute it at one input. -/
def peepDoSaysWrong : ChangeSpec := { name := "peepDoSays", fn := fun _ => fun
  | [d] => { results := [.lit (.bool false)], args := [d] }
  | _ => none }
def PeepDoSaysWrongFalsely : Prop := peepDoSaysRow.holds Tryd.pinned (OpenSpec.ofChange peepDoSaysWrong)

/-- 'turnerylaw8.PeepMeans': WHATEVER THE INPUT: true; the input reads as it did. -/
def peepMeansSpec : ChangeSpec := { name := "peepMeans", fn := fun _ => fun
  | [d1, d2, d3] => { results := [.lit (.bool true)], args := [d1, d2, d3] }
  | _ => none }
def peepMeansRow : OpenClaim := { program := "ytemakpjickbmnaadoor", sum := "92d894706ac4cac8f197d7ff68da797c61023c89c081ece33a1f94500a2ae585", func := "turnery/turnerylaw8.PeepMeans", spec := "peepMeans", unfollowed := true, recurses := true, named := ["turnery/mac.shapes"], plainKeys := false, apart := false, laid := [("turnery/mac.shapes", laid_turnery_mac_shapes)] }
def PeepMeansSaid : Prop := peepMeansRow.holds Tryd.pinned (OpenSpec.ofChange peepMeansSpec)

/-- ITS FALSE NEIGHBOUR: 'it returns false'. Refute it at one input. -/
def peepMeansWrong : ChangeSpec := { name := "peepMeans", fn := fun _ => fun
  | [d1, d2, d3] => { results := [.lit (.bool false)], args := [d1, d2, d3] }
  | _ => none }
def PeepMeansWrongFalsely : Prop := peepMeansRow.holds Tryd.pinned (OpenSpec.ofChange peepMeansWrong)

/-- 'turnerylaw8.LinkUndone': WHATEVER THE INPUT: true; the input reads as it did. -/
def linkUndoneSpec : ChangeSpec := { name := "linkUndone", fn := fun _ => fun
  | [d] => { results := [.lit (.bool true)], args := [d] }
  | _ => none }
def linkUndoneRow : OpenClaim := { program := "ytemakpjickbmnaadoor", sum := "92d894706ac4cac8f197d7ff68da797c61023c89c081ece33a1f94500a2ae585", func := "turnery/turnerylaw8.LinkUndone", spec := "linkUndone", unfollowed := true, recurses := true, named := ["turnery/mac.shapes"], plainKeys := false, apart := false, laid := [("turnery/mac.shapes", laid_turnery_mac_shapes)] }
def LinkUndoneSaid : Prop := linkUndoneRow.holds Tryd.pinned (OpenSpec.ofChange linkUndoneSpec)

/-- ITS FALSE NEIGHBOUR: 'it returns false'. Refute it at one input. -/
def linkUndoneWrong : ChangeSpec := { name := "linkUndone", fn := fun _ => fun
  | [d] => { results := [.lit (.bool false)], args := [d] }
  | _ => none }
def LinkUndoneWrongFalsely : Prop := linkUndoneRow.holds Tryd.pinned (OpenSpec.ofChange linkUndoneWrong)

/-- 'turnerylaw8.LinkMet': WHATEVER THE INPUT: true; the input reads as it did. -/
def linkMetSpec : ChangeSpec := { name := "linkMet", fn := fun _ => fun
  | [d1, d2, d3] => { results := [.lit (.bool true)], args := [d1, d2, d3] }
  | _ => none }
def linkMetRow : OpenClaim := { program := "ytemakpjickbmnaadoor", sum := "92d894706ac4cac8f197d7ff68da797c61023c89c081ece33a1f94500a2ae585", func := "turnery/turnerylaw8.LinkMet", spec := "linkMet", unfollowed := true, recurses := true, named := ["turnery/mac.shapes"], plainKeys := false, apart := false, laid := [("turnery/mac.shapes", laid_turnery_mac_shapes)] }
def LinkMetSaid : Prop := linkMetRow.holds Tryd.pinned (OpenSpec.ofChange linkMetSpec)

/-- ITS FALSE NEIGHBOUR: 'it returns false'. Refute it at one input. -/
def linkMetWrong : ChangeSpec := { name := "linkMet", fn := fun _ => fun
  | [d1, d2, d3] => { results := [.lit (.bool false)], args := [d1, d2, d3] }
  | _ => none }
def LinkMetWrongFalsely : Prop := linkMetRow.holds Tryd.pinned (OpenSpec.ofChange linkMetWrong)

/-- 'turnerylaw8.FrameBack': WHATEVER THE INPUT: true; the input reads as it did. -/
def frameBackSpec : ChangeSpec := { name := "frameBack", fn := fun _ => fun
  | [d1, d2, d3, d4] => { results := [.lit (.bool true)], args := [d1, d2, d3, d4] }
  | _ => none }
def frameBackRow : OpenClaim := { program := "ytemakpjickbmnaadoor", sum := "92d894706ac4cac8f197d7ff68da797c61023c89c081ece33a1f94500a2ae585", func := "turnery/turnerylaw8.FrameBack", spec := "frameBack", unfollowed := true, recurses := true, named := ["turnery/mac.shapes"], plainKeys := false, apart := false, laid := [("turnery/mac.shapes", laid_turnery_mac_shapes)] }
def FrameBackSaid : Prop := frameBackRow.holds Tryd.pinned (OpenSpec.ofChange frameBackSpec)

/-- ITS FALSE NEIGHBOUR: 'it returns false'. Refute it at one input. -/
def frameBackWrong : ChangeSpec := { name := "frameBack", fn := fun _ => fun
  | [d1, d2, d3, d4] => { results := [.lit (.bool false)], args := [d1, d2, d3, d4] }
  | _ => none }
def FrameBackWrongFalsely : Prop := frameBackRow.holds Tryd.pinned (OpenSpec.ofChange frameBackWrong)

/- THE SECOND FORM. 'bulk': how many values and letters a reading holds, each counted each time it is reached (what is shared counts as often as it is met; a slice's spare places count too). A statement '..UptoSaid' is the law's where the arguments, and the package variables that the reading takes, are together of bulk at most 1048576: NARROWER than '..Said'. Prove '..Said' where nothing that the law and all that it calls make is longer than what came in: it says more and counts as full. Else prove '..UptoSaid'. A law counts once. -/
mutual
def uptoBulk {H : Type} : DataW H → Nat
  | .lit (.string bytes) => bytes.length + 1
  | .lit _ => 1
  | .nil => 1
  | .ptr d => uptoBulk d + 1
  | .slice elems spare => uptoBulkAll elems + uptoBulkAll spare + 1
  | .agg parts => uptoBulkAll parts + 1
  | .iface _ d => uptoBulk d + 1
  | .map entries => uptoBulkEntries entries + 1
  | .held _ => 1
def uptoBulkAll {H : Type} : List (DataW H) → Nat
  | [] => 0
  | d :: r => uptoBulk d + uptoBulkAll r
def uptoBulkEntries {H : Type} : List (Lit × DataW H) → Nat
  | [] => 0
  | x :: r => uptoBulkEntry x + uptoBulkEntries r
def uptoBulkEntry {H : Type} : Lit × DataW H → Nat
  | (.string bytes, d) => bytes.length + uptoBulk d + 1
  | (_, d) => uptoBulk d + 1
 end
def uptoSmall : (H : Type) → List (DataW H) → Bool := fun _ ds => decide (uptoBulkAll ds ≤ 1048576)
def OpenSpec.upto (s : _root_.Go.ChangeSpec) : _root_.Go.OpenSpec := { _root_.Go.OpenSpec.ofChange s with cond := some uptoSmall }

/-- 'turnerylaw8.PeepReach', WHERE WHAT IT READS IS OF BULK AT MOST 1048576: true; the input reads as it did. -/
def peepReachUptoRow : OpenClaim := { program := "ytemakpjickbmnaadoor", sum := "92d894706ac4cac8f197d7ff68da797c61023c89c081ece33a1f94500a2ae585", func := "turnery/turnerylaw8.PeepReach", spec := "peepReach", unfollowed := true, recurses := true, named := ["turnery/mac.shapes"], plainKeys := false, apart := false, laid := [("turnery/mac.shapes", laid_turnery_mac_shapes)], narrowed := true }
def PeepReachUptoSaid : Prop := peepReachUptoRow.holds Tryd.pinned (OpenSpec.upto peepReachSpec)

/-- 'turnerylaw8.PeepDoSays', WHERE WHAT IT READS IS OF BULK AT MOST 1048576: true; the input reads as it did. -/
def peepDoSaysUptoRow : OpenClaim := { program := "ytemakpjickbmnaadoor", sum := "92d894706ac4cac8f197d7ff68da797c61023c89c081ece33a1f94500a2ae585", func := "turnery/turnerylaw8.PeepDoSays", spec := "peepDoSays", unfollowed := true, recurses := true, named := ["turnery/mac.shapes"], plainKeys := false, apart := false, laid := [("turnery/mac.shapes", laid_turnery_mac_shapes)], narrowed := true }
def PeepDoSaysUptoSaid : Prop := peepDoSaysUptoRow.holds Tryd.pinned (OpenSpec.upto peepDoSaysSpec)

/-- 'turnerylaw8.PeepMeans', WHERE WHAT IT READS IS OF BULK AT MOST 1048576: true; the input reads as it did. -/
def peepMeansUptoRow : OpenClaim := { program := "ytemakpjickbmnaadoor", sum := "92d894706ac4cac8f197d7ff68da797c61023c89c081ece33a1f94500a2ae585", func := "turnery/turnerylaw8.PeepMeans", spec := "peepMeans", unfollowed := true, recurses := true, named := ["turnery/mac.shapes"], plainKeys := false, apart := false, laid := [("turnery/mac.shapes", laid_turnery_mac_shapes)], narrowed := true }
def PeepMeansUptoSaid : Prop := peepMeansUptoRow.holds Tryd.pinned (OpenSpec.upto peepMeansSpec)

/-- 'turnerylaw8.LinkUndone', WHERE WHAT IT READS IS OF BULK AT MOST 1048576: true; the input reads as it did. -/
def linkUndoneUptoRow : OpenClaim := { program := "ytemakpjickbmnaadoor", sum := "92d894706ac4cac8f197d7ff68da797c61023c89c081ece33a1f94500a2ae585", func := "turnery/turnerylaw8.LinkUndone", spec := "linkUndone", unfollowed := true, recurses := true, named := ["turnery/mac.shapes"], plainKeys := false, apart := false, laid := [("turnery/mac.shapes", laid_turnery_mac_shapes)], narrowed := true }
def LinkUndoneUptoSaid : Prop := linkUndoneUptoRow.holds Tryd.pinned (OpenSpec.upto linkUndoneSpec)

/-- 'turnerylaw8.LinkMet', WHERE WHAT IT READS IS OF BULK AT MOST 1048576: true; the input reads as it did. -/
def linkMetUptoRow : OpenClaim := { program := "ytemakpjickbmnaadoor", sum := "92d894706ac4cac8f197d7ff68da797c61023c89c081ece33a1f94500a2ae585", func := "turnery/turnerylaw8.LinkMet", spec := "linkMet", unfollowed := true, recurses := true, named := ["turnery/mac.shapes"], plainKeys := false, apart := false, laid := [("turnery/mac.shapes", laid_turnery_mac_shapes)], narrowed := true }
def LinkMetUptoSaid : Prop := linkMetUptoRow.holds Tryd.pinned (OpenSpec.upto linkMetSpec)

/-- 'turnerylaw8.FrameBack', WHERE WHAT IT READS IS OF BULK AT MOST 1048576: true; the input reads as it did. -/
def frameBackUptoRow : OpenClaim := { program := "ytemakpjickbmnaadoor", sum := "92d894706ac4cac8f197d7ff68da797c61023c89c081ece33a1f94500a2ae585", func := "turnery/turnerylaw8.FrameBack", spec := "frameBack", unfollowed := true, recurses := true, named := ["turnery/mac.shapes"], plainKeys := false, apart := false, laid := [("turnery/mac.shapes", laid_turnery_mac_shapes)], narrowed := true }
def FrameBackUptoSaid : Prop := frameBackUptoRow.holds Tryd.pinned (OpenSpec.upto frameBackSpec)

end Rows
end Go.Proofs.YtemakpjickbmnaaDoor
