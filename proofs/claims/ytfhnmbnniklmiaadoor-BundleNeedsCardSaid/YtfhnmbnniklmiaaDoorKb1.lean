/- bundleSure. -/
import Derived.Test.YtfhnmbnniklmiaaDoorBase
import Derived.Test.YtfhnmbnniklmiaaDoorRows
import Derived.IntWalk
import Derived.Outline
import Derived.Deep.LoopGhost
import Derived.Deep.CutBlock
import Derived.Deep.DeepCutAuto
import Derived.Deep.RegionHeld3
import Derived.Test.YtfhnmbnniklmiaaDoorKbP
import Derived.Test.YtfhnmbnniklmiaaDoorKb0
namespace Go.Proofs.YtfhnmbnniklmiaaDoor
open Go.RowKit
set_option linter.unusedSimpArgs false
set_option linter.unusedVariables false

set_option maxHeartbeats 1000000 in
theorem sure_pack : packF [] = (0, 0) ∧ (packO []).length = 7 := by
  constructor
  · decide +kernel
  · decide +kernel
set_option maxHeartbeats 1000000 in
theorem bundleSure_calls (w : World) (hS : Shapes w) (R : Ending → World → Prop)
    (hR : ∀ w', Below w.heap.size w w' → R (.returned (.bool true)) w') : Calls Tryd.prog 31 #[] w R := by
  have HR := Lib.hid hR
  have HSh := Lib.hid hS
  clear hR hS
  go_enter Tryd.func31, Tryd.ntmps31
  go_wp2_with fail
  refine Pack_calls [] _ _ (Rp.SL.nil _ _ _) (fun o h => by cases h) HSh.out _ (fun w1 v1 hb1 hbuf => ?_)
  rw [sure_pack.1]
  obtain ⟨A1, c1, rfl⟩ := hbuf.slice
  rw [sure_pack.2]
  have Hb1 := Lib.hid hb1
  clear hb1 hbuf
  go_wp2
  exact HR.out _ (Hb1.out.alloc Hb1.out.size _)
end Go.Proofs.YtfhnmbnniklmiaaDoor
