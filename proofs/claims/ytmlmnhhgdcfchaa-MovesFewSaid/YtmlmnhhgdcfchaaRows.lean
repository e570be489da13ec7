/-
  No cell of these rows narrows 'for every input' (looked for: loops, veiled, ifaces, maps, wideKeys, modest, calm, conditions, laid).
  DERIVED. THE GIVEN ROWS OF THIS SEAT. 6 by the template 'for every input the law returns true; each argument reads behind the call as it read before'; 0 by the template 'total and deterministic' (their statements: YtmlmnhhgdcfchaaTotals.lean).
  GIVEN WITH THE SEED: the statements are not yours to turn. If you find one false, say at which input.
  Laid BY PROGRAM, IN A SANDBOX (cutbox-rows.mjs): the forced cells as the released guide's own fill.sh prints them over the translation ff00fdc97e52ce88… (all of the seat's roots in one cut). By AI agents, Wed Nov 11 2026. No macro, syntax, notation, axiom, sorry.
-/
import Derived.Test.YtmlmnhhgdcfchaaChecked
import GoSem.Claim
import GoSem.ClaimJoined
import GoSem.ClaimMapViews
import Derived.JoinedTies
import Derived.KernelRfl
namespace Go.Proofs.Ytmlmnhhgdcfchaa
/- THE CELL 'sum', in the pinned program and in every row, IS THE sha256 OF THE DUMP (.gsa) THAT YtmlmnhhgdcfchaaProg.lean LOADS. Nothing in Lean hashes anything: it is a label: what it is worth is what the hold of that sum in a sandbox is worth. -/
noncomputable def Try.pinned : Pinned := { name := "ytmlmnhhgdcfchaa", sum := "ff00fdc97e52ce88ee209ee65b86fc769c6b6d061a9a789338c61f1f46c59122", checked := Try.checked }
namespace Rows
def none {H : Type} : Left H := { results := [], args := [] }

/-- 'turnerylaw8.FrameEnterSays': WHATEVER THE INPUT: true; the input reads as it did. -/
def frameEnterSaysSpec : ChangeSpec := { name := "frameEnterSays", fn := fun _ => fun
  | [d] => { results := [.lit (.bool true)], args := [d] }
  | _ => none }
def frameEnterSaysRow : OpenClaim := { program := "ytmlmnhhgdcfchaa", sum := "ff00fdc97e52ce88ee209ee65b86fc769c6b6d061a9a789338c61f1f46c59122", func := "turnery/turnerylaw8.FrameEnterSays", spec := "frameEnterSays", apart := false }
def FrameEnterSaysSaid : Prop := frameEnterSaysRow.holds Try.pinned (OpenSpec.ofChange frameEnterSaysSpec)

/-- ITS FALSE NEIGHBOUR: 'it returns false'. Refute it at one input. -/
def frameEnterSaysWrong : ChangeSpec := { name := "frameEnterSays", fn := fun _ => fun
  | [d] => { results := [.lit (.bool false)], args := [d] }
  | _ => none }
def FrameEnterSaysWrongFalsely : Prop := frameEnterSaysRow.holds Try.pinned (OpenSpec.ofChange frameEnterSaysWrong)

/-- 'turnerylaw8.FrameLeaveSays': WHATEVER THE INPUT: true; the input reads as it did. -/
def frameLeaveSaysSpec : ChangeSpec := { name := "frameLeaveSays", fn := fun _ => fun
  | [d] => { results := [.lit (.bool true)], args := [d] }
  | _ => none }
def frameLeaveSaysRow : OpenClaim := { program := "ytmlmnhhgdcfchaa", sum := "ff00fdc97e52ce88ee209ee65b86fc769c6b6d061a9a789338c61f1f46c59122", func := "turnery/turnerylaw8.FrameLeaveSays", spec := "frameLeaveSays", apart := false }
def FrameLeaveSaysSaid : Prop := frameLeaveSaysRow.holds Try.pinned (OpenSpec.ofChange frameLeaveSaysSpec)

/-- ITS FALSE NEIGHBOUR: 'it returns false'. Refute it at one input. -/
def frameLeaveSaysWrong : ChangeSpec := { name := "frameLeaveSays", fn := fun _ => fun
  | [d] => { results := [.lit (.bool false)], args := [d] }
  | _ => none }
def FrameLeaveSaysWrongFalsely : Prop := frameLeaveSaysRow.holds Try.pinned (OpenSpec.ofChange frameLeaveSaysWrong)

/-- 'turnerylaw8.MovesRowSays': WHATEVER THE INPUT: true; the input reads as it did. -/
def movesRowSaysSpec : ChangeSpec := { name := "movesRowSays", fn := fun _ => fun
  | [d1, d2] => { results := [.lit (.bool true)], args := [d1, d2] }
  | _ => none }
def movesRowSaysRow : OpenClaim := { program := "ytmlmnhhgdcfchaa", sum := "ff00fdc97e52ce88ee209ee65b86fc769c6b6d061a9a789338c61f1f46c59122", func := "turnery/turnerylaw8.MovesRowSays", spec := "movesRowSays", unfollowed := true, recurses := true, apart := false }
def MovesRowSaysSaid : Prop := movesRowSaysRow.holds Try.pinned (OpenSpec.ofChange movesRowSaysSpec)

/-- ITS FALSE NEIGHBOUR: 'it returns false'. Refute it at one input. -/
def movesRowSaysWrong : ChangeSpec := { name := "movesRowSays", fn := fun _ => fun
  | [d1, d2] => { results := [.lit (.bool false)], args := [d1, d2] }
  | _ => none }
def MovesRowSaysWrongFalsely : Prop := movesRowSaysRow.holds Try.pinned (OpenSpec.ofChange movesRowSaysWrong)

/-- 'turnerylaw8.MovesDone': WHATEVER THE INPUT: true; the input reads as it did. -/
def movesDoneSpec : ChangeSpec := { name := "movesDone", fn := fun _ => fun
  | [d] => { results := [.lit (.bool true)], args := [d] }
  | _ => none }
def movesDoneRow : OpenClaim := { program := "ytmlmnhhgdcfchaa", sum := "ff00fdc97e52ce88ee209ee65b86fc769c6b6d061a9a789338c61f1f46c59122", func := "turnery/turnerylaw8.MovesDone", spec := "movesDone", unfollowed := true, recurses := true, apart := false }
def MovesDoneSaid : Prop := movesDoneRow.holds Try.pinned (OpenSpec.ofChange movesDoneSpec)

/-- ITS FALSE NEIGHBOUR: 'it returns false'. Refute it at one input. -/
def movesDoneWrong : ChangeSpec := { name := "movesDone", fn := fun _ => fun
  | [d] => { results := [.lit (.bool false)], args := [d] }
  | _ => none }
def MovesDoneWrongFalsely : Prop := movesDoneRow.holds Try.pinned (OpenSpec.ofChange movesDoneWrong)

/-- 'turnerylaw8.MovesFew': WHATEVER THE INPUT: true; the input reads as it did. -/
def movesFewSpec : ChangeSpec := { name := "movesFew", fn := fun _ => fun
  | [d] => { results := [.lit (.bool true)], args := [d] }
  | _ => none }
def movesFewRow : OpenClaim := { program := "ytmlmnhhgdcfchaa", sum := "ff00fdc97e52ce88ee209ee65b86fc769c6b6d061a9a789338c61f1f46c59122", func := "turnery/turnerylaw8.MovesFew", spec := "movesFew", unfollowed := true, recurses := true, apart := false }
def MovesFewSaid : Prop := movesFewRow.holds Try.pinned (OpenSpec.ofChange movesFewSpec)

/-- ITS FALSE NEIGHBOUR: 'it returns false'. Refute it at one input. -/
def movesFewWrong : ChangeSpec := { name := "movesFew", fn := fun _ => fun
  | [d] => { results := [.lit (.bool false)], args := [d] }
  | _ => none }
def MovesFewWrongFalsely : Prop := movesFewRow.holds Try.pinned (OpenSpec.ofChange movesFewWrong)

/-- 'turnerylaw8.MovesFree': WHATEVER THE INPUT: true; the input reads as it did. -/
def movesFreeSpec : ChangeSpec := { name := "movesFree", fn := fun _ => fun
  | [d] => { results := [.lit (.bool true)], args := [d] }
  | _ => none }
def movesFreeRow : OpenClaim := { program := "ytmlmnhhgdcfchaa", sum := "ff00fdc97e52ce88ee209ee65b86fc769c6b6d061a9a789338c61f1f46c59122", func := "turnery/turnerylaw8.MovesFree", spec := "movesFree", unfollowed := true, recurses := true, apart := false }
def MovesFreeSaid : Prop := movesFreeRow.holds Try.pinned (OpenSpec.ofChange movesFreeSpec)

/-- ITS FALSE NEIGHBOUR: 'it returns false'. Refute it at one input. -/
def movesFreeWrong : ChangeSpec := { name := "movesFree", fn := fun _ => fun
  | [d] => { results := [.lit (.bool false)], args := [d] }
  | _ => none }
def MovesFreeWrongFalsely : Prop := movesFreeRow.holds Try.pinned (OpenSpec.ofChange movesFreeWrong)

/- THE SECOND FORM. 'bulk': how many values and letters a reading holds, each counted each time it is reached (what is shared counts as often as it is met; a slice's spare places count too). A statement '..UptoSaid' is the law's where the arguments, and the package variables that the reading takes, are together of bulk at most 1048576: NARROWER than '..Said'. Prove '..Said' where nothing that the law and all that it calls make is longer than what came in: it says more and counts as full. Else prove '..UptoSaid'. A law counts once. -/
mutual
def uptoBulk {H : Type} : DataW H → Nat
  | .lit (.string bytes) => bytes.length + 1
  | .lit _ => 1
  | .nil => 1
  | .ptr d => uptoBulk d + 1
  | .slice elems spare => uptoBulkAll elems + uptoBulkAll spare + 1
  | .agg parts => uptoBulkAll parts + 1
  | .iface _ d => uptoBulk d + 1
  | .map entries => uptoBulkEntries entries + 1
  | .held _ => 1
def uptoBulkAll {H : Type} : List (DataW H) → Nat
  | [] => 0
  | d :: r => uptoBulk d + uptoBulkAll r
def uptoBulkEntries {H : Type} : List (Lit × DataW H) → Nat
  | [] => 0
  | x :: r => uptoBulkEntry x + uptoBulkEntries r
def uptoBulkEntry {H : Type} : Lit × DataW H → Nat
  | (.string bytes, d) => bytes.length + uptoBulk d + 1
  | (_, d) => uptoBulk d + 1
 end
def uptoSmall : (H : Type) → List (DataW H) → Bool := fun _ ds => decide (uptoBulkAll ds ≤ 1048576)
def OpenSpec.upto (s : _root_.Go.ChangeSpec) : _root_.Go.OpenSpec := { _root_.Go.OpenSpec.ofChange s with cond := some uptoSmall }

/-- 'turnerylaw8.FrameEnterSays', WHERE WHAT IT READS IS OF BULK AT MOST 1048576: true; the input reads as it did. -/
def frameEnterSaysUptoRow : OpenClaim := { program := "ytmlmnhhgdcfchaa", sum := "ff00fdc97e52ce88ee209ee65b86fc769c6b6d061a9a789338c61f1f46c59122", func := "turnery/turnerylaw8.FrameEnterSays", spec := "frameEnterSays", apart := false, narrowed := true }
def FrameEnterSaysUptoSaid : Prop := frameEnterSaysUptoRow.holds Try.pinned (OpenSpec.upto frameEnterSaysSpec)

/-- 'turnerylaw8.FrameLeaveSays', WHERE WHAT IT READS IS OF BULK AT MOST 1048576: true; the input reads as it did. -/
def frameLeaveSaysUptoRow : OpenClaim := { program := "ytmlmnhhgdcfchaa", sum := "ff00fdc97e52ce88ee209ee65b86fc769c6b6d061a9a789338c61f1f46c59122", func := "turnery/turnerylaw8.FrameLeaveSays", spec := "frameLeaveSays", apart := false, narrowed := true }
def FrameLeaveSaysUptoSaid : Prop := frameLeaveSaysUptoRow.holds Try.pinned (OpenSpec.upto frameLeaveSaysSpec)

/-- 'turnerylaw8.MovesRowSays', WHERE WHAT IT READS IS OF BULK AT MOST 1048576: true; the input reads as it did. -/
def movesRowSaysUptoRow : OpenClaim := { program := "ytmlmnhhgdcfchaa", sum := "ff00fdc97e52ce88ee209ee65b86fc769c6b6d061a9a789338c61f1f46c59122", func := "turnery/turnerylaw8.MovesRowSays", spec := "movesRowSays", unfollowed := true, recurses := true, apart := false, narrowed := true }
def MovesRowSaysUptoSaid : Prop := movesRowSaysUptoRow.holds Try.pinned (OpenSpec.upto movesRowSaysSpec)

/-- 'turnerylaw8.MovesDone', WHERE WHAT IT READS IS OF BULK AT MOST 1048576: true; the input reads as it did. -/
def movesDoneUptoRow : OpenClaim := { program := "ytmlmnhhgdcfchaa", sum := "ff00fdc97e52ce88ee209ee65b86fc769c6b6d061a9a789338c61f1f46c59122", func := "turnery/turnerylaw8.MovesDone", spec := "movesDone", unfollowed := true, recurses := true, apart := false, narrowed := true }
def MovesDoneUptoSaid : Prop := movesDoneUptoRow.holds Try.pinned (OpenSpec.upto movesDoneSpec)

/-- 'turnerylaw8.MovesFew', WHERE WHAT IT READS IS OF BULK AT MOST 1048576: true; the input reads as it did. -/
def movesFewUptoRow : OpenClaim := { program := "ytmlmnhhgdcfchaa", sum := "ff00fdc97e52ce88ee209ee65b86fc769c6b6d061a9a789338c61f1f46c59122", func := "turnery/turnerylaw8.MovesFew", spec := "movesFew", unfollowed := true, recurses := true, apart := false, narrowed := true }
def MovesFewUptoSaid : Prop := movesFewUptoRow.holds Try.pinned (OpenSpec.upto movesFewSpec)

/-- 'turnerylaw8.MovesFree', WHERE WHAT IT READS IS OF BULK AT MOST 1048576: true; the input reads as it did. -/
def movesFreeUptoRow : OpenClaim := { program := "ytmlmnhhgdcfchaa", sum := "ff00fdc97e52ce88ee209ee65b86fc769c6b6d061a9a789338c61f1f46c59122", func := "turnery/turnerylaw8.MovesFree", spec := "movesFree", unfollowed := true, recurses := true, apart := false, narrowed := true }
def MovesFreeUptoSaid : Prop := movesFreeUptoRow.holds Try.pinned (OpenSpec.upto movesFreeSpec)

end Rows
end Go.Proofs.Ytmlmnhhgdcfchaa
