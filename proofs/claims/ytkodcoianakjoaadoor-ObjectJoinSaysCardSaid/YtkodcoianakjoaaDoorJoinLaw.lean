/- object.Join and the document's answer, compared. -/
import Derived.Test.YtkodcoianakjoaaDoorBase
import Derived.Test.YtkodcoianakjoaaDoorRows
import Derived.IntWalk
import Derived.Outline
import Derived.Test.YtkodcoianakjoaaDoorJoin
import Derived.Test.YtkodcoianakjoaaDoorJoinR
import Derived.Test.YtkodcoianakjoaaDoorSameA
namespace Go.Proofs.YtkodcoianakjoaaDoor
open Go.RowKit
set_option linter.unusedSimpArgs false
set_option linter.unusedVariables false

set_option maxRecDepth 100000 in
set_option maxHeartbeats 4000000 in
theorem JoinSays_calls (a b : Object) (v1 v2 v3 v4 : Value) (w : World) (h1 : rpGlobal.SL w w.heap.size a.globals v1) (h2 : rpSection.SL w w.heap.size a.sections v2) (h3 : rpGlobal.SL w w.heap.size b.globals v3) (h4 : rpSection.SL w w.heap.size b.sections v4) (hS : Shapes w) (R : Ending → World → Prop)
    (hR : ∀ w', Below w.heap.size w w' → R (.returned (.bool true)) w') :
    Calls Tryd.prog 6 #[.agg #[v1, v2], .agg #[v3, v4]] w R := by
  have h0 := hS.1
  obtain ⟨A1, n1, rfl, hm1, hcap1, h1⟩ := h1.cases_
  obtain ⟨A2, n2, rfl, hm2, hcap2, h2⟩ := h2.cases_
  obtain ⟨A3, n3, rfl, hm3, hcap3, h3⟩ := h3.cases_
  obtain ⟨A4, n4, rfl, hm4, hcap4, h4⟩ := h4.cases_
  have HS := Lib.hid hS
  have HR := Lib.hid hR
  have H1 := Lib.hid h1
  have H2 := Lib.hid h2
  have H3 := Lib.hid h3
  have H4 := Lib.hid h4
  obtain ⟨W0, hW0⟩ : ∃ W0, W0 = (w.alloc (Obj.cells #[.slice A1 a.globals.length n1, .slice A2 a.sections.length n2] 25)).alloc (Obj.cells #[.slice A3 b.globals.length n3, .slice A4 b.sections.length n4] 25) := ⟨_, rfl⟩
  have hb0 : Below w.heap.size w W0 := by subst hW0; exact (by repeat (first | exact Below.refl _ _ | assumption | refine below_drewN ?_ _ | refine Below.drew ?_ | refine Below.setCell ?_ (by first | omega | (simp; done) | (simp; omega)) _ | refine Below.alloc ?_ (by first | omega | (simp; done) | (simp; omega)) _ | refine below_step (by assumption) ?_ (by first | omega | (simp; done) | (simp; omega))))
  have hz0 : W0.heap.size = w.heap.size + 2 := by subst hW0; simp
  have hP : W0.heap[w.heap.size]? = some (.cells #[.slice A1 a.globals.length n1, .slice A2 a.sections.length n2] 25 (0, 0)) := by
    subst hW0
    exact blk_alloc (heap_alloc_new _ _) _
  have hP2 : W0.heap[w.heap.size + 1]? = some (.cells #[.slice A3 b.globals.length n3, .slice A4 b.sections.length n4] 25 (0, 0)) := by
    subst hW0
    have := heap_alloc_new (w.alloc (Obj.cells #[.slice A1 a.globals.length n1, .slice A2 a.sections.length n2] 25)) (Obj.cells #[.slice A3 b.globals.length n3, .slice A4 b.sections.length n4] 25)
    simpa using this
  have HP := Lib.hid hP
  have HP2 := Lib.hid hP2
  have HW := Lib.hid hW0.symm
  have Hb0 := Lib.hid hb0
  have Hz0 := Lib.hid hz0
  have HK : Hid (∀ W, Below W0.heap.size W0 W → rpGlobal.SL W W.heap.size a.globals (.slice A1 a.globals.length n1) ∧ rpSection.SL W W.heap.size a.sections (.slice A2 a.sections.length n2) ∧ rpGlobal.SL W W.heap.size b.globals (.slice A3 b.globals.length n3) ∧ rpSection.SL W W.heap.size b.sections (.slice A4 b.sections.length n4) ∧ Below w.heap.size w W) := Lib.hid fun W h => by
    have hb : Below w.heap.size w W := Hb0.out.trans (h.mono (by rw [Hz0.out]; omega))
    exact ⟨H1.out.up hb hb.size, H2.out.up hb hb.size, H3.out.up hb hb.size, H4.out.up hb hb.size, hb⟩
  clear hS hR h1 h2 h3 h4 hP hP2 hW0 hb0 hz0
  obtain ⟨F, hF⟩ : ∃ F, F = joinF a b := ⟨_, rfl⟩
  obtain ⟨X, hX⟩ : ∃ X, X = joinO a b := ⟨_, rfl⟩
  have HF := Lib.hid hF
  have HXo := Lib.hid hX
  clear hF hX
  go_enter Tryd.func6, Tryd.ntmps6
  go_wp2_with fail
  rw [HW.out]
  refine Join_calls a b _ _ _ _ _ (HK.out _ (Below.refl _ _)).1 (HK.out _ (Below.refl _ _)).2.1 (HK.out _ (Below.refl _ _)).2.2.1 (HK.out _ (Below.refl _ _)).2.2.2.1 (HS.out.up Hb0.out h0) _ (fun w1 u1 u2 hb1 hu1 hu2 => ?_)
  rw [← HF.out]
  rw [← HXo.out] at hu1 hu2
  obtain ⟨B1, m1, rfl, _, _, hu1⟩ := hu1.SL.cases_
  obtain ⟨B2, m2, rfl, _, _, hu2⟩ := hu2.SL.cases_
  have HX := Lib.hid hu1
  have HY := Lib.hid hu2
  have Hb1 := Lib.hid hb1
  obtain ⟨p0, p1⟩ := cells_blk ((hb1.block _ (by rw [Hz0.out]; omega)).trans HP.out)
  obtain ⟨p2, p3⟩ := cells_blk ((hb1.block _ (by rw [Hz0.out]; omega)).trans HP2.out)
  have hz11 : w.heap.size + 1 < w1.heap.size := by have := hb1.size; rw [Hz0.out] at this; omega
  have hz1 : w.heap.size < w1.heap.size := by have := hb1.size; rw [Hz0.out] at this; omega
  clear hu1 hu2 hb1 HW
  go_wp2_with fail
  obtain ⟨W1, hW1⟩ : ∃ W1, W1 = (w1.alloc (Obj.cells #[.slice B1 X.globals.length m1, .slice B2 X.sections.length m2] 25)).alloc (Obj.cells #[.int .i64 F.1, .int .i64 F.2] 27) := ⟨_, rfl⟩
  rw [← hW1]
  have hz2 : W1.heap.size = w1.heap.size + 2 := by subst hW1; simp
  have hV1 : W1.heap[w1.heap.size]? = some (.cells #[.slice B1 X.globals.length m1, .slice B2 X.sections.length m2] 25 (0, 0)) := by
    subst hW1
    exact blk_alloc (heap_alloc_new _ _) _
  have hV2 : W1.heap[w1.heap.size + 1]? = some (.cells #[.int .i64 F.1, .int .i64 F.2] 27 (0, 0)) := by
    subst hW1
    have := heap_alloc_new (w1.alloc (Obj.cells #[.slice B1 X.globals.length m1, .slice B2 X.sections.length m2] 25)) (Obj.cells #[.int .i64 F.1, .int .i64 F.2] 27)
    simpa using this
  have hbw : Below w1.heap.size w1 W1 := by subst hW1; exact (by repeat (first | exact Below.refl _ _ | assumption | refine below_drewN ?_ _ | refine Below.drew ?_ | refine Below.setCell ?_ (by first | omega | (simp; done) | (simp; omega)) _ | refine Below.alloc ?_ (by first | omega | (simp; done) | (simp; omega)) _ | refine below_step (by assumption) ?_ (by first | omega | (simp; done) | (simp; omega))))
  have hbW : Below W0.heap.size W0 W1 := Hb1.out.trans (hbw.mono Hb1.out.size)
  have HV1 := Lib.hid hV1
  have HV2 := Lib.hid hV2
  have Hz2 := Lib.hid hz2
  have Hbw := Lib.hid hbw
  have HbW := Lib.hid hbW
  have hK1 := HK.out _ hbW
  clear hW1 hV1 hV2 hz2 hbw hbW p0 p1 p2 p3
  refine ObjectJoin_calls a b _ _ _ _ _ hK1.1 hK1.2.1 hK1.2.2.1 hK1.2.2.2.1 _ (fun w2 u3 u4 hb2 hu3 hu4 => ?_)
  rw [← HF.out]
  rw [← HXo.out] at hu3 hu4
  obtain ⟨B3, m3, rfl, _, _, hu3⟩ := hu3.cases_
  obtain ⟨B4, m4, rfl, _, _, hu4⟩ := hu4.cases_
  have hz3 := hb2.size
  rw [Hz2.out] at hz3 hb2
  have hbA : Below w1.heap.size w1 w2 := Hbw.out.trans (hb2.mono (by omega))
  have hb3 : Below W0.heap.size W0 w2 := Hb1.out.trans (hbA.mono Hb1.out.size)
  obtain ⟨c0, c1⟩ := cells_blk ((hb2.block _ (by omega)).trans HV1.out)
  obtain ⟨d0, d1⟩ := cells_blk ((hb2.block _ (by omega)).trans HV2.out)
  have hz4 : w1.heap.size < w2.heap.size := by omega
  have hz5 : w1.heap.size + 1 < w2.heap.size := by omega
  have HX2 := Lib.hid hu3
  have HY2 := Lib.hid hu4
  have HbA := Lib.hid hbA
  have Hb3 := Lib.hid hb3
  clear hb2 hu3 hu4 hbA hb3 hK1
  go_wp2_with fail
  obtain ⟨W2, hW2⟩ : ∃ W2, W2 = (w2.alloc (Obj.cells #[.slice B3 X.globals.length m3, .slice B4 X.sections.length m4] 25)).alloc (Obj.cells #[.int .i64 F.1, .int .i64 F.2] 27) := ⟨_, rfl⟩
  rw [← hW2]
  have hz6 : W2.heap.size = w2.heap.size + 2 := by subst hW2; simp
  have hbB : Below w2.heap.size w2 W2 := by subst hW2; exact (by repeat (first | exact Below.refl _ _ | assumption | refine below_drewN ?_ _ | refine Below.drew ?_ | refine Below.setCell ?_ (by first | omega | (simp; done) | (simp; omega)) _ | refine Below.alloc ?_ (by first | omega | (simp; done) | (simp; omega)) _ | refine below_step (by assumption) ?_ (by first | omega | (simp; done) | (simp; omega))))
  have hV2 : W2.heap[w2.heap.size + 1]? = some (.cells #[.int .i64 F.1, .int .i64 F.2] 27 (0, 0)) := by
    subst hW2
    have := heap_alloc_new (w2.alloc (Obj.cells #[.slice B3 X.globals.length m3, .slice B4 X.sections.length m4] 25)) (Obj.cells #[.int .i64 F.1, .int .i64 F.2] 27)
    simpa using this
  have hX1 := HX.out.up (HbA.out.trans (hbB.mono (by omega))) (B' := W2.heap.size) (by omega)
  have hX2 := HY.out.up (HbA.out.trans (hbB.mono (by omega))) (B' := W2.heap.size) (by omega)
  have hX3 := HX2.out.up hbB (B' := W2.heap.size) (by omega)
  have hX4 := HY2.out.up hbB (B' := W2.heap.size) (by omega)
  refine SameObject_calls X _ _ _ _ _ hX1 hX2 hX3 hX4 _ (fun w3 hb4 => ?_)
  have hz7 := hb4.size
  have e0 : w3.cell? ⟨w1.heap.size + 1, 0, none⟩ = some (.int .i64 F.1) := by rw [hb4.cell (by simp; omega), hbB.cell (by simp; omega)]; exact d0
  have e1 : w3.cell? ⟨w1.heap.size + 1, 1, none⟩ = some (.int .i64 F.2) := by rw [hb4.cell (by simp; omega), hbB.cell (by simp; omega)]; exact d1
  obtain ⟨g0, g1⟩ := cells_blk ((hb4.block _ (by omega)).trans hV2)
  have hq : ∀ w, (binOp .eql 27 (.agg #[.int .i64 F.1, .int .i64 F.2]) (.agg #[.int .i64 F.1, .int .i64 F.2])).run Tryd.prog w = .ok (.bool true) w := fun w => by rw [eql_Fault]; simp
  have hend : Hid (Below w.heap.size w w3) := Lib.hid ((HK.out _ (Hb3.out.trans ((hbB.trans (hb4.mono (by omega))).mono Hb3.out.size))).2.2.2.2)
  clear hX1 hX2 hX3 hX4 hV2 hbB hb4 hz6 hz7 hW2 c0 c1 d0 d1
  go_wp2
  exact HR.out _ hend.out
end Go.Proofs.YtkodcoianakjoaaDoor
