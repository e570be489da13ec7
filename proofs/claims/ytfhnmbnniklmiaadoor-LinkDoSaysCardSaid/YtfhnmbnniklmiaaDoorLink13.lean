/- link.Do, compared with the document's answer. -/
import Derived.Test.YtfhnmbnniklmiaaDoorBase
import Derived.Test.YtfhnmbnniklmiaaDoorRows
import Derived.IntWalk
import Derived.Outline
import Derived.Deep.CutBlock
import Derived.Deep.DeepCutAuto
import Derived.Test.YtfhnmbnniklmiaaDoorLink8
import Derived.Test.YtfhnmbnniklmiaaDoorLink11
import Derived.Test.YtfhnmbnniklmiaaDoorLink12
namespace Go.Proofs.YtfhnmbnniklmiaaDoor
open Go.RowKit
set_option linter.unusedSimpArgs false
set_option linter.unusedVariables false

set_option maxRecDepth 100000 in
set_option maxHeartbeats 4000000 in
theorem LinkDoSays_calls (l : List Object) (v : Value) (w : World) (h : rpObject.SL w w.heap.size l v) (hS : Shapes w) (R : Ending → World → Prop)
    (hR : ∀ w', Below w.heap.size w w' → R (.returned (.bool true)) w') :
    Calls Tryd.prog 5 #[v] w R := by
  have h0 := hS.1
  obtain ⟨A, c, rfl, hm, hcap, h⟩ := h.cases_
  have HR := Lib.hid hR
  have H := Lib.hid h
  have HSh := Lib.hid hS
  clear hR h hS
  go_enter Tryd.func5, Tryd.ntmps5
  go_wp2_with fail
  refine Do_calls l _ _ H.out HSh.out _ (fun w1 v1 v2 hb1 hv1 hv2 => ?_)
  obtain ⟨A1, c1, rfl, _, _, hv1⟩ := hv1.cases_
  obtain ⟨A2, c2, rfl, _, _, hv2⟩ := hv2.cases_
  obtain ⟨D, hD⟩ : ∃ D, D = linkDo l := ⟨_, rfl⟩
  rw [← hD] at hv1 hv2 ⊢
  have HD := Lib.hid hD
  obtain ⟨im, fc, fa⟩ := D
  simp only [] at hv1 hv2 ⊢
  obtain ⟨W1, hW1⟩ : ∃ W1, W1 = (w1.alloc (Obj.cells #[.slice A1 im.globals.length c1, .slice A2 im.routines.length c2] 35)).alloc (Obj.cells #[.int .i64 fc, .int .i64 fa] 25) := ⟨_, rfl⟩
  have hbW1 : Below w1.heap.size w1 W1 := by subst hW1; exact (by repeat (first | exact Below.refl _ _ | assumption | refine below_drewN ?_ _ | refine Below.drew ?_ | refine Below.setCell ?_ (by first | omega | (simp; done) | (simp; omega)) _ | refine Below.alloc ?_ (by first | omega | (simp; done) | (simp; omega)) _ | refine below_step (by assumption) ?_ (by first | omega | (simp; done) | (simp; omega))))
  have hV1 : W1.heap[w1.heap.size]? = some (.cells #[.slice A1 im.globals.length c1, .slice A2 im.routines.length c2] 35 (0, 0)) := by
    subst hW1
    exact blk_alloc (heap_alloc_new _ _) _
  have hV2 : W1.heap[w1.heap.size + 1]? = some (.cells #[.int .i64 fc, .int .i64 fa] 25 (0, 0)) := by
    subst hW1
    have := heap_alloc_new (w1.alloc (Obj.cells #[.slice A1 im.globals.length c1, .slice A2 im.routines.length c2] 35)) (Obj.cells #[.int .i64 fc, .int .i64 fa] 25)
    simpa using this
  have HW1 := Lib.hid hW1.symm
  have HV1 := Lib.hid hV1
  have HV2 := Lib.hid hV2
  have Hv1 := Lib.hid (hv1.up hbW1 hbW1.size)
  have Hv2 := Lib.hid (hv2.up hbW1 hbW1.size)
  have Hb1 := Lib.hid (hb1.trans (hbW1.mono hb1.size))
  clear hD hb1 hv1 hv2 hW1 hbW1 hV1 hV2
  go_upto_region 2 with fail
  rw [HW1.out]
  go_wp2_with fail
  refine LinkDo_calls l _ _ (H.out.up Hb1.out Hb1.out.size) _ (fun w2 v3 v4 hb2 hv3 hv4 => ?_)
  rw [← HD.out] at hv3 hv4 ⊢
  obtain ⟨A3, c3, rfl, _, _, hv3⟩ := hv3.cases_
  obtain ⟨A4, c4, rfl, _, _, hv4⟩ := hv4.cases_
  simp only [] at hv3 hv4 ⊢
  obtain ⟨W2, hW2⟩ : ∃ W2, W2 = (w2.alloc (Obj.cells #[.slice A3 im.globals.length c3, .slice A4 im.routines.length c4] 35)).alloc (Obj.cells #[.int .i64 fc, .int .i64 fa] 25) := ⟨_, rfl⟩
  have hbW2 : Below w2.heap.size w2 W2 := by subst hW2; exact (by repeat (first | exact Below.refl _ _ | assumption | refine below_drewN ?_ _ | refine Below.drew ?_ | refine Below.setCell ?_ (by first | omega | (simp; done) | (simp; omega)) _ | refine Below.alloc ?_ (by first | omega | (simp; done) | (simp; omega)) _ | refine below_step (by assumption) ?_ (by first | omega | (simp; done) | (simp; omega))))
  have hV3 : W2.heap[w2.heap.size]? = some (.cells #[.slice A3 im.globals.length c3, .slice A4 im.routines.length c4] 35 (0, 0)) := by
    subst hW2
    exact blk_alloc (heap_alloc_new _ _) _
  have hV4 : W2.heap[w2.heap.size + 1]? = some (.cells #[.int .i64 fc, .int .i64 fa] 25 (0, 0)) := by
    subst hW2
    have := heap_alloc_new (w2.alloc (Obj.cells #[.slice A3 im.globals.length c3, .slice A4 im.routines.length c4] 35)) (Obj.cells #[.int .i64 fc, .int .i64 fa] 25)
    simpa using this
  have hbb := hb2.trans (hbW2.mono hb2.size)
  have HW2 := Lib.hid hW2.symm
  have HV3 := Lib.hid hV3
  have HV4 := Lib.hid hV4
  have hVV1 := (hbb.block _ (blk_lt HV1.out)).trans HV1.out
  have HVV2 := Lib.hid ((hbb.block _ (blk_lt HV2.out)).trans HV2.out)
  have Hx1 := Lib.hid (Hv1.out.up hbb hbb.size)
  have Hx2 := Lib.hid (Hv2.out.up hbb hbb.size)
  have Hx3 := Lib.hid (hv3.up hbW2 hbW2.size)
  have Hx4 := Lib.hid (hv4.up hbW2 hbW2.size)
  have Hb2 := Lib.hid (Hb1.out.trans (hbb.mono Hb1.out.size))
  obtain ⟨a0, a1⟩ := cells_blk hVV1
  obtain ⟨a2, a3⟩ := cells_blk hV3
  have hl1 := blk_lt hVV1
  have hl3 := blk_lt hV3
  clear hb2 hv3 hv4 hW2 hbW2 hV3 hV4 hbb hVV1
  go_upto_region 3 with fail
  rw [HW2.out]
  go_wp2_with fail
  refine SameImage_calls im _ _ _ _ _ Hx1.out Hx2.out Hx3.out Hx4.out _ (fun w3 hb3 => ?_)
  obtain ⟨e0, e1⟩ := cells_blk ((hb3.block _ (blk_lt HVV2.out)).trans HVV2.out)
  obtain ⟨f0, f1⟩ := cells_blk ((hb3.block _ (blk_lt HV4.out)).trans HV4.out)
  have hk1 : w1.heap.size + 1 < w3.heap.size := Nat.lt_of_lt_of_le (blk_lt HVV2.out) hb3.size
  have hk2 : w2.heap.size + 1 < w3.heap.size := Nat.lt_of_lt_of_le (blk_lt HV4.out) hb3.size
  have hq : ∀ w, (binOp .eql 25 (.agg #[.int .i64 fc, .int .i64 fa]) (.agg #[.int .i64 fc, .int .i64 fa])).run Tryd.prog w = .ok (.bool true) w := fun w => by rw [eql_Fault]; simp
  have hend := Lib.hid (HR.out _ (Hb2.out.trans (hb3.mono Hb2.out.size)))
  clear hb3 a0 a1 a2 a3
  go_wp2
  exact hend.out
end Go.Proofs.YtfhnmbnniklmiaaDoor
