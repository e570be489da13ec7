/- object.Load and the document's answer, compared. -/
import Derived.Test.YtkodcoianakjoaaDoorBase
import Derived.Test.YtkodcoianakjoaaDoorRows
import Derived.IntWalk
import Derived.Outline
import Derived.Test.YtkodcoianakjoaaDoorLoad
import Derived.Test.YtkodcoianakjoaaDoorLoadR
import Derived.Test.YtkodcoianakjoaaDoorSameA
namespace Go.Proofs.YtkodcoianakjoaaDoor
open Go.RowKit
set_option linter.unusedSimpArgs false
set_option linter.unusedVariables false

set_option maxRecDepth 100000 in
set_option maxHeartbeats 4000000 in
theorem LoadSays_calls (bs : List UInt8) (v : Value) (w : World) (h : rpByte.SL w w.heap.size bs v) (hS : Shapes w) (R : Ending → World → Prop)
    (hR : ∀ w', Below w.heap.size w w' → R (.returned (.bool true)) w') :
    Calls Tryd.prog 5 #[v] w R := by
  have h0 := hS.1
  obtain ⟨A1, n1, rfl, hm1, hcap1, h⟩ := h.cases_
  have HS := Lib.hid hS
  have HR := Lib.hid hR
  have H := Lib.hid h
  clear hS hR h
  obtain ⟨F, hF⟩ : ∃ F, F = loadF bs := ⟨_, rfl⟩
  obtain ⟨X, hX⟩ : ∃ X, X = loadO bs := ⟨_, rfl⟩
  have HF := Lib.hid hF
  have HXo := Lib.hid hX
  clear hF hX
  go_enter Tryd.func5, Tryd.ntmps5
  go_wp2_with fail
  refine Load_calls _ bs _ H.out HS.out _ (fun w1 u1 u2 hb1 hu1 hu2 => ?_)
  rw [← HF.out]
  rw [← HXo.out] at hu1 hu2
  obtain ⟨B1, m1, rfl, _, _, hu1⟩ := hu1.SL.cases_
  obtain ⟨B2, m2, rfl, _, _, hu2⟩ := hu2.SL.cases_
  have HX := Lib.hid hu1
  have HY := Lib.hid hu2
  have Hb1 := Lib.hid hb1
  have hz1 := hb1.size
  clear hu1 hu2 hb1
  go_wp2_with fail
  obtain ⟨W1, hW1⟩ : ∃ W1, W1 = (w1.alloc (Obj.cells #[.slice B1 X.globals.length m1, .slice B2 X.sections.length m2] 25)).alloc (Obj.cells #[.int .i64 F.1, .int .i64 F.2] 27) := ⟨_, rfl⟩
  rw [← hW1]
  have hz2 : W1.heap.size = w1.heap.size + 2 := by subst hW1; simp
  have hV1 : W1.heap[w1.heap.size]? = some (.cells #[.slice B1 X.globals.length m1, .slice B2 X.sections.length m2] 25 (0, 0)) := by
    subst hW1
    exact blk_alloc (heap_alloc_new _ _) _
  have hV2 : W1.heap[w1.heap.size + 1]? = some (.cells #[.int .i64 F.1, .int .i64 F.2] 27 (0, 0)) := by
    subst hW1
    have := heap_alloc_new (w1.alloc (Obj.cells #[.slice B1 X.globals.length m1, .slice B2 X.sections.length m2] 25)) (Obj.cells #[.int .i64 F.1, .int .i64 F.2] 27)
    simpa using this
  have hbw : Below w1.heap.size w1 W1 := by subst hW1; exact (by repeat (first | exact Below.refl _ _ | assumption | refine below_drewN ?_ _ | refine Below.drew ?_ | refine Below.setCell ?_ (by first | omega | (simp; done) | (simp; omega)) _ | refine Below.alloc ?_ (by first | omega | (simp; done) | (simp; omega)) _ | refine below_step (by assumption) ?_ (by first | omega | (simp; done) | (simp; omega))))
  have hbW : Below w.heap.size w W1 := Hb1.out.trans (hbw.mono Hb1.out.size)
  have HV1 := Lib.hid hV1
  have HV2 := Lib.hid hV2
  have Hz2 := Lib.hid hz2
  have Hbw := Lib.hid hbw
  have HbW := Lib.hid hbW
  clear hW1 hV1 hV2 hz2 hbw hbW
  refine ObjectLoad_calls _ bs _ (H.out.up HbW.out HbW.out.size) _ (fun w2 u3 u4 hb2 hu3 hu4 => ?_)
  rw [← HF.out]
  rw [← HXo.out] at hu3 hu4
  obtain ⟨B3, m3, rfl, _, _, hu3⟩ := hu3.SL.cases_
  obtain ⟨B4, m4, rfl, _, _, hu4⟩ := hu4.SL.cases_
  have hz3 := hb2.size
  rw [Hz2.out] at hz3 hb2
  have hbA : Below w1.heap.size w1 w2 := Hbw.out.trans (hb2.mono (by omega))
  have hb3 : Below w.heap.size w w2 := Hb1.out.trans (hbA.mono Hb1.out.size)
  obtain ⟨c0, c1⟩ := cells_blk ((hb2.block _ (by omega)).trans HV1.out)
  obtain ⟨d0, d1⟩ := cells_blk ((hb2.block _ (by omega)).trans HV2.out)
  have hz4 : w1.heap.size < w2.heap.size := by omega
  have hz5 : w1.heap.size + 1 < w2.heap.size := by omega
  have HX2 := Lib.hid hu3
  have HY2 := Lib.hid hu4
  have HbA := Lib.hid hbA
  have Hb3 := Lib.hid hb3
  clear hb2 hu3 hu4 hbA hb3
  go_wp2_with fail
  obtain ⟨W2, hW2⟩ : ∃ W2, W2 = (w2.alloc (Obj.cells #[.slice B3 X.globals.length m3, .slice B4 X.sections.length m4] 25)).alloc (Obj.cells #[.int .i64 F.1, .int .i64 F.2] 27) := ⟨_, rfl⟩
  rw [← hW2]
  have hz6 : W2.heap.size = w2.heap.size + 2 := by subst hW2; simp
  have hbB : Below w2.heap.size w2 W2 := by subst hW2; exact (by repeat (first | exact Below.refl _ _ | assumption | refine below_drewN ?_ _ | refine Below.drew ?_ | refine Below.setCell ?_ (by first | omega | (simp; done) | (simp; omega)) _ | refine Below.alloc ?_ (by first | omega | (simp; done) | (simp; omega)) _ | refine below_step (by assumption) ?_ (by first | omega | (simp; done) | (simp; omega))))
  have hV2 : W2.heap[w2.heap.size + 1]? = some (.cells #[.int .i64 F.1, .int .i64 F.2] 27 (0, 0)) := by
    subst hW2
    have := heap_alloc_new (w2.alloc (Obj.cells #[.slice B3 X.globals.length m3, .slice B4 X.sections.length m4] 25)) (Obj.cells #[.int .i64 F.1, .int .i64 F.2] 27)
    simpa using this
  have hX1 := HX.out.up (HbA.out.trans (hbB.mono (by omega))) (B' := W2.heap.size) (by omega)
  have hX2 := HY.out.up (HbA.out.trans (hbB.mono (by omega))) (B' := W2.heap.size) (by omega)
  have hX3 := HX2.out.up hbB (B' := W2.heap.size) (by omega)
  have hX4 := HY2.out.up hbB (B' := W2.heap.size) (by omega)
  refine SameObject_calls X _ _ _ _ _ hX1 hX2 hX3 hX4 _ (fun w3 hb4 => ?_)
  have hz7 := hb4.size
  have e0 : w3.cell? ⟨w1.heap.size + 1, 0, none⟩ = some (.int .i64 F.1) := by rw [hb4.cell (by simp; omega), hbB.cell (by simp; omega)]; exact d0
  have e1 : w3.cell? ⟨w1.heap.size + 1, 1, none⟩ = some (.int .i64 F.2) := by rw [hb4.cell (by simp; omega), hbB.cell (by simp; omega)]; exact d1
  obtain ⟨g0, g1⟩ := cells_blk ((hb4.block _ (by omega)).trans hV2)
  have hq : ∀ w, (binOp .eql 27 (.agg #[.int .i64 F.1, .int .i64 F.2]) (.agg #[.int .i64 F.1, .int .i64 F.2])).run Tryd.prog w = .ok (.bool true) w := fun w => by rw [eql_Fault]; simp
  have hend : Hid (Below w.heap.size w w3) := Lib.hid (Hb3.out.trans ((hbB.trans (hb4.mono (by omega))).mono Hb3.out.size))
  clear hX1 hX2 hX3 hX4 hV2 hbB hb4 hz6 hz7 hW2 c0 c1 d0 d1
  go_wp2
  exact HR.out _ hend.out
end Go.Proofs.YtkodcoianakjoaaDoor
