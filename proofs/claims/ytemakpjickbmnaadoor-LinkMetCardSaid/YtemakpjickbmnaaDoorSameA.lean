/- Are two lists of globals the same: the document's SameGlobals. Are two objects the same: the document's SameObject, of two readings of one. -/
import Derived.Test.YtemakpjickbmnaaDoorBase
import Derived.Test.YtemakpjickbmnaaDoorRows
import Derived.IntWalk
import Derived.Deep.LoopGhost
import Derived.Deep.CutBlock
import Derived.Deep.DeepCutAuto
import Derived.Outline
import Derived.Test.YtemakpjickbmnaaDoorPlainA
import Derived.Test.YtemakpjickbmnaaDoorGlobA
import Derived.Test.YtemakpjickbmnaaDoorCopyA
/- Are two lists of globals the same: the document's SameGlobals. -/
namespace Go.Proofs.YtemakpjickbmnaaDoor
open Go.RowKit
set_option linter.unusedSimpArgs false
set_option linter.unusedVariables false

theorem Global.ext_ {x y : Global} (h1 : x.name = y.name) (h2 : x.size = y.size) (h3 : x.init = y.init) : x = y := by
  cases x
  cases y
  simp_all
instance : DecidableEq Global := fun x y => if h : x.name = y.name ∧ x.size = y.size ∧ x.init = y.init then isTrue (Global.ext_ h.1 h.2.1 h.2.2) else isFalse (fun e => h (by rw [e]; exact ⟨rfl, rfl, rfl⟩))
def sameG (a b : List Global) : Bool := decide (a = b)
theorem sameG_no {a b : List Global} (h : a ≠ b) : sameG a b = false := decide_eq_false h
theorem sameG_yes (a : List Global) : sameG a a = true := decide_eq_true rfl
theorem ne_of_at {α : Type} {a b : List α} {k : Nat} {x y : α} (hx : a[k]? = some x) (hy : b[k]? = some y) (h : x ≠ y) : a ≠ b := by
  rintro rfl
  rw [hx] at hy
  exact h (Option.some.inj hy)
theorem take_eq_step {α : Type} {a b : List α} {k : Nat} {x : α} (hx : a[k]? = some x) (hy : b[k]? = some x) (h : a.take k = b.take k) : a.take (k + 1) = b.take (k + 1) := by
  obtain ⟨h1, e1⟩ := List.getElem?_eq_some_iff.1 hx
  obtain ⟨h2, e2⟩ := List.getElem?_eq_some_iff.1 hy
  rw [List.take_succ_eq_append_getElem h1, List.take_succ_eq_append_getElem h2, h, e1, e2]

end Go.Proofs.YtemakpjickbmnaaDoor

/- Are two objects the same: the document's SameObject, of two readings of one. -/
namespace Go.Proofs.YtemakpjickbmnaaDoor
open Go.RowKit
set_option linter.unusedSimpArgs false
set_option linter.unusedVariables false

theorem neq_Mend (n : Int) (s : ByteArray) (w : World) : (binOp .neq 135 (.agg #[.int .i64 n, .string s]) (.agg #[.int .i64 n, .string s])).run Tryd.prog w = .ok (.bool false) w := by
  have hp : Tryd.prog.stoodInHeld 135 = false := by kernel_rfl
  have ht : Tryd.prog.underlying 135 = some (.struct (Tryd.prog.fieldsOf 135)) := by kernel_rfl
  rw [run_neq_struct, run_equalIn_agg _ _ _ _ _ ht hp]
  have h3 := Tryd.underlying3
  have h9 := Tryd.underlying9
  simp [Tryd.underlying135, go_sem, h3, h9]

end Go.Proofs.YtemakpjickbmnaaDoor
