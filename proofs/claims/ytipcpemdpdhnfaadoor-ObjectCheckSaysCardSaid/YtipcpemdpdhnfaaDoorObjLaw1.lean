/- object.Check and the document's answer, compared. -/
import Derived.Test.YtipcpemdpdhnfaaDoorLib
import Derived.Test.YtipcpemdpdhnfaaDoorRows
import Derived.IntWalk
import Derived.Test.YtipcpemdpdhnfaaDoorObj3
namespace Go.Proofs.YtipcpemdpdhnfaaDoor
open Go.RowKit
set_option linter.unusedSimpArgs false
set_option linter.unusedVariables false

set_option maxRecDepth 100000 in
set_option maxHeartbeats 4000000 in
theorem CheckSays_calls (o : Object) (v1 v2 : Value) (w : World) (h1 : rpGlobal.SL w w.heap.size o.globals v1) (h2 : rpSection.SL w w.heap.size o.sections v2) (hS : Shapes w) (R : Ending → World → Prop)
    (hR : ∀ w', Below w.heap.size w w' → R (.returned (.bool true)) w') :
    Calls Tryd.prog 3 #[.agg #[v1, v2]] w R := by
  have h0 := hS.1
  obtain ⟨A1, n1, rfl, hm1, hcap1, h1⟩ := h1.cases_
  obtain ⟨A2, n2, rfl, hm2, hcap2, h2⟩ := h2.cases_
  have HS := Lib.hid hS
  have HR := Lib.hid hR
  have H1 := Lib.hid h1
  have H2 := Lib.hid h2
  have hE := eql_Fault (objFault o).1 (objFault o).2 (objFault o).1 (objFault o).2
  have hq : ∀ w, (binOp .eql 27 (.agg #[.int .i64 (objFault o).1, .int .i64 (objFault o).2]) (.agg #[.int .i64 (objFault o).1, .int .i64 (objFault o).2])).run Tryd.prog w = .ok (.bool true) w := fun w => by rw [eql_Fault]; simp
  have HK : Hid (∀ w', Hid (Below w.heap.size w w') → rpGlobal.SL w' w'.heap.size o.globals (.slice A1 o.globals.length n1) ∧ rpSection.SL w' w'.heap.size o.sections (.slice A2 o.sections.length n2) ∧ Shapes w') := Lib.hid fun w' h => ⟨H1.out.up h.out h.out.size, H2.out.up h.out h.out.size, HS.out.up h.out h0⟩
  clear hS hR h1 h2 hE
  go_enter Tryd.func3, Tryd.ntmps3
  go_wp2_with fail
  have hb0 : Hid (Below w.heap.size w (w.alloc (Obj.cells #[.slice A1 o.globals.length n1, .slice A2 o.sections.length n2] 25))) := Lib.hid ((Below.refl _ _).alloc (Nat.le_refl _) _)
  have hc0 : (w.alloc (Obj.cells #[.slice A1 o.globals.length n1, .slice A2 o.sections.length n2] 25)).cell? ⟨w.heap.size, 0, none⟩ = some (.slice A1 o.globals.length n1) := by simp
  have hc1 : (w.alloc (Obj.cells #[.slice A1 o.globals.length n1, .slice A2 o.sections.length n2] 25)).cell? ⟨w.heap.size, 1, none⟩ = some (.slice A2 o.sections.length n2) := by simp
  have hz0 : w.heap.size < (w.alloc (Obj.cells #[.slice A1 o.globals.length n1, .slice A2 o.sections.length n2] 25)).heap.size := by simp
  generalize w.alloc (Obj.cells #[.slice A1 o.globals.length n1, .slice A2 o.sections.length n2] 25) = wa at *
  go_region_held3 (fun w' => w'.cell? ⟨w.heap.size, 0, none⟩ = some (.slice A1 o.globals.length n1) ∧ w'.cell? ⟨w.heap.size, 1, none⟩ = some (.slice A2 o.sections.length n2) ∧ w.heap.size < w'.heap.size ∧ Hid (Below w.heap.size w w')) (first | exact ⟨hc0, hc1, hz0, Lib.hid (Below.drew hb0.out)⟩ | exact ⟨(hb5.cell (p := ⟨w.heap.size, 0, none⟩) e3).trans e1, (hb5.cell (p := ⟨w.heap.size, 1, none⟩) e3).trans e2, Nat.lt_of_lt_of_le e3 hb5.size, Lib.hid (e4.out.trans (hb5.mono (Nat.le_of_lt e3)))⟩ | go_keep) (first | (go_at_call 8; obtain ⟨e1, e2, e3, e4⟩ := ‹_ ∧ _ ∧ _ ∧ Hid (Below w.heap.size w _)›; refine objCheck_calls o _ _ _ (HK.out _ e4).1 (HK.out _ e4).2.1 (HK.out _ e4).2.2 _ ?_; intro w5 hb5) | (go_at_call 9; obtain ⟨e1, e2, e3, e4⟩ := ‹_ ∧ _ ∧ _ ∧ Hid (Below w.heap.size w _)›; refine ObjectCheck_calls o _ _ _ (HK.out _ e4).1 (HK.out _ e4).2.1 _ ?_; intro w5 hb5))
  all_goals
    obtain ⟨_, _, _, e5⟩ := ‹_ ∧ _ ∧ _ ∧ Hid (Below w.heap.size w _)›
    have E5 := e5.out
    go_wp2
    exact HR.out _ E5
end Go.Proofs.YtipcpemdpdhnfaaDoor
