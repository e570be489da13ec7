/- object.Save and the document's answer, compared. -/
import Derived.Test.YtkodcoianakjoaaDoorLib
import Derived.Test.YtkodcoianakjoaaDoorRows
import Derived.IntWalk
import Derived.Outline
import Derived.Test.YtkodcoianakjoaaDoorSave1
namespace Go.Proofs.YtkodcoianakjoaaDoor
open Go.RowKit
set_option linter.unusedSimpArgs false
set_option linter.unusedVariables false

set_option maxRecDepth 100000 in
set_option maxHeartbeats 4000000 in
theorem SaveSays_calls (o : Object) (v1 v2 : Value) (w : World) (h1 : rpGlobal.SL w w.heap.size o.globals v1) (h2 : rpSection.SL w w.heap.size o.sections v2) (hwide : Wide o) (hS : Shapes w) (R : Ending → World → Prop)
    (hR : ∀ w', Below w.heap.size w w' → R (.returned (.bool true)) w') :
    Calls Tryd.prog 4 #[.agg #[v1, v2]] w R := by
  have h0 := hS.1
  obtain ⟨A1, n1, rfl, hm1, hcap1, h1⟩ := h1.cases_
  obtain ⟨A2, n2, rfl, hm2, hcap2, h2⟩ := h2.cases_
  have HS := Lib.hid hS
  have HR := Lib.hid hR
  have H1 := Lib.hid h1
  have H2 := Lib.hid h2
  have Hwide := Lib.hid hwide
  obtain ⟨W0, hW0⟩ : ∃ W0, W0 = w.alloc (Obj.cells #[.slice A1 o.globals.length n1, .slice A2 o.sections.length n2] 25) := ⟨_, rfl⟩
  have hb0 : Below w.heap.size w W0 := by subst hW0; exact (by repeat (first | exact Below.refl _ _ | assumption | refine below_drewN ?_ _ | refine Below.drew ?_ | refine Below.setCell ?_ (by first | omega | (simp; done) | (simp; omega)) _ | refine Below.alloc ?_ (by first | omega | (simp; done) | (simp; omega)) _ | refine below_step (by assumption) ?_ (by first | omega | (simp; done) | (simp; omega))))
  have hz0 : W0.heap.size = w.heap.size + 1 := by subst hW0; simp
  have hP : W0.heap[w.heap.size]? = some (.cells #[.slice A1 o.globals.length n1, .slice A2 o.sections.length n2] 25 (0, 0)) := by
    subst hW0
    exact heap_alloc_new _ _
  have HP := Lib.hid hP
  have HW := Lib.hid hW0.symm
  have Hb0 := Lib.hid hb0
  have Hz0 := Lib.hid hz0
  have HK : Hid (∀ W, Below W0.heap.size W0 W → rpGlobal.SL W W.heap.size o.globals (.slice A1 o.globals.length n1) ∧ rpSection.SL W W.heap.size o.sections (.slice A2 o.sections.length n2) ∧ Below w.heap.size w W) := Lib.hid fun W h => by
    have hb : Below w.heap.size w W := Hb0.out.trans (h.mono (by rw [Hz0.out]; omega))
    exact ⟨H1.out.up hb hb.size, H2.out.up hb hb.size, hb⟩
  obtain ⟨F, hF⟩ : ∃ F, F = saveF o := ⟨_, rfl⟩
  obtain ⟨L, hL⟩ : ∃ L, L = saveB o := ⟨_, rfl⟩
  have HF := Lib.hid hF
  have HL := Lib.hid hL
  clear hS hR h1 h2 hP hW0 hb0 hz0 hwide hF hL
  go_enter Tryd.func4, Tryd.ntmps4
  go_wp2_with fail
  rw [HW.out]
  refine Save_calls o _ _ _ (HK.out _ (Below.refl _ _)).1 (HK.out _ (Below.refl _ _)).2.1 Hwide.out (HS.out.up Hb0.out h0) _ (fun w1 u1 hb1 hu1 => ?_)
  rw [← HF.out]
  rw [← HL.out] at hu1
  obtain ⟨B1, m1, rfl⟩ := hu1.slice
  have hz1 := hb1.size
  rw [Hz0.out] at hz1
  have HU := Lib.hid hu1
  have Hb1 := Lib.hid hb1
  obtain ⟨p0, p1⟩ := cells_blk ((hb1.block _ (by rw [Hz0.out]; omega)).trans HP.out)
  have hz1' : w.heap.size < w1.heap.size := by omega
  clear hu1 hb1 HW
  go_wp2_with fail
  obtain ⟨W1, hW1⟩ : ∃ W1, W1 = w1.alloc (Obj.cells #[.int .i64 F.1, .int .i64 F.2] 27) := ⟨_, rfl⟩
  rw [← hW1]
  have hz2 : W1.heap.size = w1.heap.size + 1 := by subst hW1; simp
  have hV1 : W1.heap[w1.heap.size]? = some (.cells #[.int .i64 F.1, .int .i64 F.2] 27 (0, 0)) := by
    subst hW1
    exact heap_alloc_new _ _
  have hbw : Below w1.heap.size w1 W1 := by subst hW1; exact (by repeat (first | exact Below.refl _ _ | assumption | refine below_drewN ?_ _ | refine Below.drew ?_ | refine Below.setCell ?_ (by first | omega | (simp; done) | (simp; omega)) _ | refine Below.alloc ?_ (by first | omega | (simp; done) | (simp; omega)) _ | refine below_step (by assumption) ?_ (by first | omega | (simp; done) | (simp; omega))))
  have hbW : Below W0.heap.size W0 W1 := Hb1.out.trans (hbw.mono Hb1.out.size)
  have HV1 := Lib.hid hV1
  have Hz2 := Lib.hid hz2
  have Hbw := Lib.hid hbw
  have HbW := Lib.hid hbW
  have hK1 := HK.out _ hbW
  clear hW1 hV1 hz2 hbw hbW p0 p1
  refine ObjectSave_calls o _ _ _ hK1.1 hK1.2.1 Hwide.out _ (fun w2 u2 hb2 hu2 => ?_)
  rw [← HF.out]
  rw [← HL.out] at hu2
  obtain ⟨B2, m2, rfl⟩ := hu2.slice
  have hz3 := hb2.size
  rw [Hz2.out] at hz3
  have hbA : Below w1.heap.size w1 w2 := Hbw.out.trans (hb2.mono (by rw [Hz2.out]; omega))
  have hb3 : Below W0.heap.size W0 w2 := Hb1.out.trans (hbA.mono Hb1.out.size)
  obtain ⟨c0, c1⟩ := cells_blk ((hb2.block _ (by rw [Hz2.out]; omega)).trans HV1.out)
  have hz4 : w1.heap.size < w2.heap.size := by omega
  have hal : Below w2.heap.size w2 (w2.alloc (Obj.cells #[.int .i64 F.1, .int .i64 F.2] 27)) := (Below.refl _ _).alloc (Nat.le_refl _) _
  have k1 := conv_bytes (P := Tryd.prog) Tryd.underlying32 Tryd.underlying5 Tryd.underlying9 ((HU.out.SL (Nat.le_refl _)).up (B' := w2.heap.size + 1) (hbA.trans (hal.mono (by omega))) (by omega))
  have k2 := conv_bytes (P := Tryd.prog) Tryd.underlying32 Tryd.underlying5 Tryd.underlying9 ((hu2.SL (Nat.le_refl _)).up (B' := w2.heap.size + 1) hal (by omega))
  have hend := Lib.hid (HK.out _ (hb3.trans (hal.mono hb3.size))).2.2
  have hq : ∀ w, (binOp .eql 27 (.agg #[.int .i64 F.1, .int .i64 F.2]) (.agg #[.int .i64 F.1, .int .i64 F.2])).run Tryd.prog w = .ok (.bool true) w := fun w => by rw [eql_Fault]; simp
  clear hb2 hu2 hbA hb3 hK1 hal
  go_wp2
  exact HR.out _ hend.out
end Go.Proofs.YtkodcoianakjoaaDoor
