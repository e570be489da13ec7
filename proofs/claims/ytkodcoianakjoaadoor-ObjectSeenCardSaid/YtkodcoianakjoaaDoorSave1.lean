/- object.Save and the document's ObjectSave. -/
import Derived.Test.YtkodcoianakjoaaDoorBase
import Derived.Test.YtkodcoianakjoaaDoorRows
import Derived.IntWalk
import Derived.Outline
import Derived.Test.YtkodcoianakjoaaDoorObjA
import Derived.Test.YtkodcoianakjoaaDoorReadC
import Derived.Test.YtkodcoianakjoaaDoorObjB
namespace Go.Proofs.YtkodcoianakjoaaDoor
open Go.RowKit
set_option linter.unusedSimpArgs false
set_option linter.unusedVariables false

theorem res_slF {fn : Func} {t p : Tmp} (h : fn.results = #[.tmp t, .cell p 27]) {tmps : Array Value} {b : Nat} {w : World} {v x y : Value} {T : TypeId} (ht : tmps.getD t undef = v) (hp : tmps.getD p undef = .pointer (some ⟨b, 0, none⟩))
    (hc : w.heap[b]? = some (.cells #[x, y] T (0, 0))) : (results fn tmps).run Tryd.prog w = .ok (.tuple #[v, .agg #[x, y]]) w :=
  res_slice_Fault h ht hp (cells_blk hc)
theorem buf_nil (w : World) (base : Nat) : Buf w base (.slice none 0 0) [] := .inl (World.ownsRow_nil _ _ _ _)

theorem save_bad {o : Object} (h : (objFault o).1 ≠ 0) : saveB o = [] ∧ saveF o = objFault o := by
  unfold saveB saveF
  rw [if_pos h, if_pos h]
  exact ⟨rfl, rfl⟩
theorem save_long {o : Object} (h : objFault o = (0, 0)) (hl : 90000 < (savedB o).length) : saveB o = [] ∧ saveF o = (10, 0) := by
  unfold saveB saveF
  have h1 : ¬ (objFault o).1 ≠ 0 := by rw [h]; simp
  rw [if_neg h1, if_neg h1, if_pos hl, if_pos hl]
  exact ⟨rfl, rfl⟩
theorem save_fine {o : Object} (h : objFault o = (0, 0)) (hl : ¬ 90000 < (savedB o).length) : saveB o = savedB o ∧ saveF o = (0, 0) := by
  unfold saveB saveF
  have h1 : ¬ (objFault o).1 ≠ 0 := by rw [h]; simp
  rw [if_neg h1, if_neg h1, if_neg hl, if_neg hl]
  exact ⟨rfl, rfl⟩

set_option maxRecDepth 100000 in
set_option maxHeartbeats 4000000 in
theorem Save_calls (o : Object) (v1 v2 : Value) (w : World) (h1 : rpGlobal.SL w w.heap.size o.globals v1) (h2 : rpSection.SL w w.heap.size o.sections v2) (hwide : Wide o) (hS : Shapes w) (R : Ending → World → Prop)
    (hR : ∀ w' v', Below w.heap.size w w' → Buf w' w.heap.size v' (saveB o) → R (.returned (.tuple #[v', (.agg #[.int .i64 (saveF o).1, .int .i64 (saveF o).2])])) w') :
    Calls Tryd.prog 15 #[.agg #[v1, v2]] w R := by
  have h0 := hS.1
  obtain ⟨A1, n1, rfl, hm1, hcap1, h1⟩ := h1.cases_
  obtain ⟨A2, n2, rfl, hm2, hcap2, h2⟩ := h2.cases_
  have HS := Lib.hid hS
  have HR := Lib.hid hR
  have H1 := Lib.hid h1
  have H2 := Lib.hid h2
  have Hwide := Lib.hid hwide
  obtain ⟨W0, hW0⟩ : ∃ W0, W0 = (w.alloc (Obj.cells #[.slice A1 o.globals.length n1, .slice A2 o.sections.length n2] 25)).alloc (Obj.cells #[.int .i64 0, .int .i64 0] 27) := ⟨_, rfl⟩
  have hb0 : Below w.heap.size w W0 := by subst hW0; exact (by repeat (first | exact Below.refl _ _ | assumption | refine below_drewN ?_ _ | refine Below.drew ?_ | refine Below.setCell ?_ (by first | omega | (simp; done) | (simp; omega)) _ | refine Below.alloc ?_ (by first | omega | (simp; done) | (simp; omega)) _ | refine below_step (by assumption) ?_ (by first | omega | (simp; done) | (simp; omega))))
  have hz0 : W0.heap.size = w.heap.size + 2 := by subst hW0; simp
  have hP : W0.heap[w.heap.size]? = some (.cells #[.slice A1 o.globals.length n1, .slice A2 o.sections.length n2] 25 (0, 0)) := by
    subst hW0
    exact blk_alloc (heap_alloc_new _ _) _
  have hF : W0.heap[w.heap.size + 1]? = some (.cells #[.int .i64 0, .int .i64 0] 27 (0, 0)) := by
    subst hW0
    have := heap_alloc_new (w.alloc (Obj.cells #[.slice A1 o.globals.length n1, .slice A2 o.sections.length n2] 25)) (Obj.cells #[.int .i64 0, .int .i64 0] 27)
    simpa using this
  have HP := Lib.hid hP
  have HF := Lib.hid hF
  have HW := Lib.hid hW0.symm
  have Hb0 := Lib.hid hb0
  have Hz0 := Lib.hid hz0
  have HK : Hid (∀ W, Below (w.heap.size + 2) W0 W → W.heap[w.heap.size]? = some (.cells #[.slice A1 o.globals.length n1, .slice A2 o.sections.length n2] 25 (0, 0)) ∧ W.heap[w.heap.size + 1]? = some (.cells #[.int .i64 0, .int .i64 0] 27 (0, 0)) ∧ w.heap.size + 2 ≤ W.heap.size ∧ Below w.heap.size w W) := Lib.hid fun W h =>
    ⟨(h.block _ (by omega)).trans HP.out, (h.block _ (by omega)).trans HF.out, by have := h.size; rw [Hz0.out] at this; exact this, Hb0.out.trans (h.mono (by omega))⟩
  clear hR h1 h2 hP hF hW0 hb0 hz0 hwide hS
  go_enter Tryd.func15, Tryd.ntmps15
  go_wp2_with fail
  rw [HW.out]
  refine objCheck_calls o _ _ _ (H1.out.up Hb0.out Hb0.out.size) (H2.out.up Hb0.out Hb0.out.size) (HS.out.up Hb0.out h0) _ (fun w1 hb1 => ?_)
  rw [Hz0.out] at hb1
  obtain ⟨k1, k2, k3, k4⟩ := HK.out _ hb1
  obtain ⟨p0, p1⟩ := cells_blk k1
  obtain ⟨d0, d1, y0, y1⟩ := cells_of_block k2
  have hp1 : w.heap.size < w1.heap.size := by omega
  have hp2 : w.heap.size + 1 < w1.heap.size := by omega
  have HF1 := Lib.hid k2
  have Hk4 := Lib.hid k4
  have Hb1 := Lib.hid hb1
  have hfz := objFault_fst o
  obtain ⟨⟨c, a⟩, hFa⟩ : ∃ F, F = objFault o := ⟨_, rfl⟩
  rw [← hFa] at hfz ⊢
  have Hfa := Lib.hid hFa
  simp only [] at hfz ⊢
  clear hb1 k1 k2 k4 hFa HW
  by_cases hc : c = 0
  rotate_left
  · have hq : ∀ w, (binOp .neq 27 (.agg #[.int .i64 c, .int .i64 a]) (.agg #[.int .i64 0, .int .i64 0])).run Tryd.prog w = .ok (.bool true) w := fun w => by
      rw [neq_Fault]
      simp [hc]
    have hsb := save_bad (o := o) (by rw [← Hfa.out]; exact hc)
    have hret := HR.out
    rw [hsb.1, hsb.2, ← Hfa.out] at hret
    have Hret := Lib.hid hret
    clear hfz hc hret hsb
    go_wp2
    go_region
    all_goals
      go_wp2
      refine bodyPost_ret (v := .tuple #[.slice none 0 0, .agg #[.int .i64 c, .int .i64 a]]) (res_slF (by rfl) (by rfl) (by rfl) (by repeat (first | with_reducible exact HF1.out | with_reducible refine blk_drew ?_ | with_reducible refine blk_drewN ?_ _ | with_reducible refine blk_alloc ?_ _ | with_reducible apply blk_set1 | with_reducible apply blk_set0 | with_reducible refine blk_other ?_ (by first | (simp; done) | omega | (simp; omega)) _))) rfl ?_
      have hb := Hk4.out
      refine Hret.out _ _ ?_ (buf_nil _ _)
      exact (by repeat (first | exact Below.refl _ _ | assumption | refine below_drewN ?_ _ | refine Below.drew ?_ | refine Below.setCell ?_ (by first | omega | (simp; done) | (simp; omega)) _ | refine Below.alloc ?_ (by first | omega | (simp; done) | (simp; omega)) _ | refine below_step (by assumption) ?_ (by first | omega | (simp; done) | (simp; omega))))
  · have hq : ∀ w, (binOp .neq 27 (.agg #[.int .i64 0, .int .i64 0]) (.agg #[.int .i64 0, .int .i64 0])).run Tryd.prog w = .ok (.bool false) w := fun w => neq_Fault 0 0 0 0 w
    have hca := hfz hc
    simp only [Prod.mk.injEq] at hca
    obtain ⟨rfl, rfl⟩ := hca
    have hok := (objOk_iff o).1 Hfa.out.symm
    have Hok := Lib.hid hok
    have HA : Hid (∀ W, Below w1.heap.size w1 W → rpGlobal.SL W W.heap.size o.globals (.slice A1 o.globals.length n1) ∧ rpSection.SL W W.heap.size o.sections (.slice A2 o.sections.length n2)) := Lib.hid fun W h => by
      have hb := Hk4.out.trans (h.mono (by omega))
      exact ⟨H1.out.up hb hb.size, H2.out.up hb hb.size⟩
    clear hfz hc hok
    go_wp2_with fail
    have hal : Below w1.heap.size w1 (w1.alloc (Obj.cells #[.int .i64 0, .int .i64 0] 27)) := (Below.refl _ _).alloc (Nat.le_refl _) _
    refine Saved_calls o _ _ _ (HA.out _ hal).1 (HA.out _ hal).2 Hok.out Hwide.out _ (fun w2 v2 hb2 hbuf2 => ?_)
    have hz2 := hb2.size
    have hbel2 := Hb1.out.trans (hal.trans (hb2.mono (by simp)) |>.mono (by omega))
    obtain ⟨k1, k2, k3, k4⟩ := HK.out _ hbel2
    obtain ⟨d0, d1, y0, y1⟩ := cells_of_block k2
    obtain ⟨A3, c3, rfl⟩ := hbuf2.slice
    have hq1 : w.heap.size < w2.heap.size := by omega
    have hq2 : w.heap.size + 1 < w2.heap.size := by omega
    have HF2 := Lib.hid k2
    have Hk2 := Lib.hid k4
    have Hbuf2 := Lib.hid (hbuf2.base (b' := w.heap.size + 2) (by simp; omega))
    obtain ⟨L, hL⟩ : ∃ L, L = savedB o := ⟨_, rfl⟩
    rw [← hL] at Hbuf2 ⊢
    have HL := Lib.hid hL
    clear hb2 hbuf2 hbel2 k1 k2 k4 hal p0 p1 hL
    by_cases hl : 90000 < L.length
    · have hli : (90000 : Int) < (L.length : Int) := by omega
      have hsb := save_long Hfa.out.symm (by rw [← HL.out]; exact hl)
      have hr2 := HR.out
      rw [hsb.1, hsb.2] at hr2
      have Hr2 := Lib.hid hr2
      clear hl hr2 hsb
      go_wp2_with fail
      refine Fault_calls _ _ _ _ (fun w3 hb3 => ?_)
      have hz3 := hb3.size
      have HF3 := Lib.hid ((hb3.block _ hq2).trans HF2.out)
      have hF3 := HF3.out
      obtain ⟨e0, e1, x0, x1⟩ := cells_of_block hF3
      have hend := Lib.hid (Hk2.out.trans (hb3.mono (by omega)))
      have hq3 : w.heap.size + 1 < w3.heap.size := by omega
      clear hb3 hF3 d0 d1 y0 y1
      go_wp2
      refine bodyPost_ret (v := .tuple #[.slice none 0 0, .agg #[.int .i64 10, .int .i64 0]]) (res_slF (by rfl) (by rfl) (by rfl) (by repeat (first | with_reducible exact HF3.out | with_reducible refine blk_drew ?_ | with_reducible refine blk_drewN ?_ _ | with_reducible refine blk_alloc ?_ _ | with_reducible apply blk_set1 | with_reducible apply blk_set0 | with_reducible refine blk_other ?_ (by first | (simp; done) | omega | (simp; omega)) _))) rfl ?_
      have hb := hend.out
      refine Hr2.out _ _ ?_ (buf_nil _ _)
      exact (by repeat (first | exact Below.refl _ _ | assumption | refine below_drewN ?_ _ | refine Below.drew ?_ | refine Below.setCell ?_ (by first | omega | (simp; done) | (simp; omega)) _ | refine Below.alloc ?_ (by first | omega | (simp; done) | (simp; omega)) _ | refine below_step (by assumption) ?_ (by first | omega | (simp; done) | (simp; omega))))
    · have hli : ¬ (90000 : Int) < (L.length : Int) := by omega
      have hsb := save_fine Hfa.out.symm (by rw [← HL.out]; exact hl)
      have hr2 := HR.out
      rw [hsb.1, hsb.2, ← HL.out] at hr2
      have Hr2 := Lib.hid hr2
      clear hl hr2 hsb
      go_wp2
      refine bodyPost_ret (v := .tuple #[.slice A3 L.length c3, .agg #[.int .i64 0, .int .i64 0]]) (res_slF (by rfl) (by rfl) (by rfl) (by repeat (first | with_reducible exact HF2.out | with_reducible refine blk_drew ?_ | with_reducible refine blk_drewN ?_ _ | with_reducible refine blk_alloc ?_ _ | with_reducible apply blk_set1 | with_reducible apply blk_set0 | with_reducible refine blk_other ?_ (by first | (simp; done) | omega | (simp; omega)) _))) rfl ?_
      have hb := Hk2.out
      have hbb := ((Hbuf2.out.grew (Grew.of_grown (grown_setCell w2 ⟨w.heap.size + 1, 0, none⟩ (.int .i64 0))) (fun k hk e => by have := (Hbuf2.out.lt k hk).1; have := Option.some.inj e; simp at this; omega)).grew (Grew.of_grown (grown_setCell _ ⟨w.heap.size + 1, 1, none⟩ (.int .i64 0))) (fun k hk e => by have := (Hbuf2.out.lt k hk).1; have := Option.some.inj e; simp at this; omega)).base (b' := w.heap.size) (by omega)
      refine Hr2.out _ _ ?_ hbb
      exact (by repeat (first | exact Below.refl _ _ | assumption | refine below_drewN ?_ _ | refine Below.drew ?_ | refine Below.setCell ?_ (by first | omega | (simp; done) | (simp; omega)) _ | refine Below.alloc ?_ (by first | omega | (simp; done) | (simp; omega)) _ | refine below_step (by assumption) ?_ (by first | omega | (simp; done) | (simp; omega))))

set_option maxRecDepth 100000 in
set_option maxHeartbeats 4000000 in
theorem ObjectSave_calls (o : Object) (v1 v2 : Value) (w : World) (h1 : rpGlobal.SL w w.heap.size o.globals v1) (h2 : rpSection.SL w w.heap.size o.sections v2) (hwide : Wide o) (R : Ending → World → Prop)
    (hR : ∀ w' v', Below w.heap.size w w' → Buf w' w.heap.size v' (saveB o) → R (.returned (.tuple #[v', (.agg #[.int .i64 (saveF o).1, .int .i64 (saveF o).2])])) w') :
    Calls Tryd.prog 16 #[.agg #[v1, v2]] w R := by
  obtain ⟨A1, n1, rfl, hm1, hcap1, h1⟩ := h1.cases_
  obtain ⟨A2, n2, rfl, hm2, hcap2, h2⟩ := h2.cases_
  have HR := Lib.hid hR
  have H1 := Lib.hid h1
  have H2 := Lib.hid h2
  have Hwide := Lib.hid hwide
  obtain ⟨W0, hW0⟩ : ∃ W0, W0 = (w.alloc (Obj.cells #[.slice A1 o.globals.length n1, .slice A2 o.sections.length n2] 25)).alloc (Obj.cells #[.int .i64 0, .int .i64 0] 27) := ⟨_, rfl⟩
  have hb0 : Below w.heap.size w W0 := by subst hW0; exact (by repeat (first | exact Below.refl _ _ | assumption | refine below_drewN ?_ _ | refine Below.drew ?_ | refine Below.setCell ?_ (by first | omega | (simp; done) | (simp; omega)) _ | refine Below.alloc ?_ (by first | omega | (simp; done) | (simp; omega)) _ | refine below_step (by assumption) ?_ (by first | omega | (simp; done) | (simp; omega))))
  have hz0 : W0.heap.size = w.heap.size + 2 := by subst hW0; simp
  have hP : W0.heap[w.heap.size]? = some (.cells #[.slice A1 o.globals.length n1, .slice A2 o.sections.length n2] 25 (0, 0)) := by
    subst hW0
    exact blk_alloc (heap_alloc_new _ _) _
  have hF : W0.heap[w.heap.size + 1]? = some (.cells #[.int .i64 0, .int .i64 0] 27 (0, 0)) := by
    subst hW0
    have := heap_alloc_new (w.alloc (Obj.cells #[.slice A1 o.globals.length n1, .slice A2 o.sections.length n2] 25)) (Obj.cells #[.int .i64 0, .int .i64 0] 27)
    simpa using this
  have HP := Lib.hid hP
  have HF := Lib.hid hF
  have HW := Lib.hid hW0.symm
  have Hb0 := Lib.hid hb0
  have Hz0 := Lib.hid hz0
  have HK : Hid (∀ W, Below (w.heap.size + 2) W0 W → W.heap[w.heap.size]? = some (.cells #[.slice A1 o.globals.length n1, .slice A2 o.sections.length n2] 25 (0, 0)) ∧ W.heap[w.heap.size + 1]? = some (.cells #[.int .i64 0, .int .i64 0] 27 (0, 0)) ∧ w.heap.size + 2 ≤ W.heap.size ∧ Below w.heap.size w W) := Lib.hid fun W h =>
    ⟨(h.block _ (by omega)).trans HP.out, (h.block _ (by omega)).trans HF.out, by have := h.size; rw [Hz0.out] at this; exact this, Hb0.out.trans (h.mono (by omega))⟩
  clear hR h1 h2 hP hF hW0 hb0 hz0 hwide
  go_enter Tryd.func16, Tryd.ntmps16
  go_wp2_with fail
  rw [HW.out]
  refine ObjectCheck_calls o _ _ _ (H1.out.up Hb0.out Hb0.out.size) (H2.out.up Hb0.out Hb0.out.size) _ (fun w1 hb1 => ?_)
  rw [Hz0.out] at hb1
  obtain ⟨k1, k2, k3, k4⟩ := HK.out _ hb1
  obtain ⟨p0, p1⟩ := cells_blk k1
  obtain ⟨d0, d1, y0, y1⟩ := cells_of_block k2
  have hp1 : w.heap.size < w1.heap.size := by omega
  have hp2 : w.heap.size + 1 < w1.heap.size := by omega
  have HF1 := Lib.hid k2
  have Hk4 := Lib.hid k4
  have Hb1 := Lib.hid hb1
  have hfz := objFault_fst o
  obtain ⟨⟨c, a⟩, hFa⟩ : ∃ F, F = objFault o := ⟨_, rfl⟩
  rw [← hFa] at hfz ⊢
  have Hfa := Lib.hid hFa
  simp only [] at hfz ⊢
  clear hb1 k1 k2 k4 hFa HW
  by_cases hc : c = 0
  rotate_left
  · have hq : (c != 0) = true := by simp [hc]
    have hsb := save_bad (o := o) (by rw [← Hfa.out]; exact hc)
    have hret := HR.out
    rw [hsb.1, hsb.2, ← Hfa.out] at hret
    have Hret := Lib.hid hret
    clear hfz hc hret hsb
    go_wp2
    go_region
    all_goals
      go_wp2
      refine bodyPost_ret (v := .tuple #[.slice none 0 0, .agg #[.int .i64 c, .int .i64 a]]) (res_slF (by rfl) (by rfl) (by rfl) (by repeat (first | with_reducible exact HF1.out | with_reducible refine blk_drew ?_ | with_reducible refine blk_drewN ?_ _ | with_reducible refine blk_alloc ?_ _ | with_reducible apply blk_set1 | with_reducible apply blk_set0 | with_reducible refine blk_other ?_ (by first | (simp; done) | omega | (simp; omega)) _))) rfl ?_
      have hb := Hk4.out
      refine Hret.out _ _ ?_ (buf_nil _ _)
      exact (by repeat (first | exact Below.refl _ _ | assumption | refine below_drewN ?_ _ | refine Below.drew ?_ | refine Below.setCell ?_ (by first | omega | (simp; done) | (simp; omega)) _ | refine Below.alloc ?_ (by first | omega | (simp; done) | (simp; omega)) _ | refine below_step (by assumption) ?_ (by first | omega | (simp; done) | (simp; omega))))
  · have hca := hfz hc
    simp only [Prod.mk.injEq] at hca
    obtain ⟨rfl, rfl⟩ := hca
    have hok := (objOk_iff o).1 Hfa.out.symm
    have Hok := Lib.hid hok
    have HA : Hid (∀ W, Below w1.heap.size w1 W → rpGlobal.SL W W.heap.size o.globals (.slice A1 o.globals.length n1) ∧ rpSection.SL W W.heap.size o.sections (.slice A2 o.sections.length n2)) := Lib.hid fun W h => by
      have hb := Hk4.out.trans (h.mono (by omega))
      exact ⟨H1.out.up hb hb.size, H2.out.up hb hb.size⟩
    clear hfz hc hok
    go_wp2_with fail
    have hal : Below w1.heap.size w1 (w1.alloc (Obj.cells #[.int .i64 0, .int .i64 0] 27)) := (Below.refl _ _).alloc (Nat.le_refl _) _
    refine ObjectBytes_calls o _ _ _ (HA.out _ hal).1 (HA.out _ hal).2 Hok.out Hwide.out _ (fun w2 v2 hb2 hbuf2 => ?_)
    have hz2 := hb2.size
    have hbel2 := Hb1.out.trans (hal.trans (hb2.mono (by simp)) |>.mono (by omega))
    obtain ⟨k1, k2, k3, k4⟩ := HK.out _ hbel2
    obtain ⟨d0, d1, y0, y1⟩ := cells_of_block k2
    obtain ⟨A3, c3, rfl⟩ := hbuf2.slice
    have hq1 : w.heap.size < w2.heap.size := by omega
    have hq2 : w.heap.size + 1 < w2.heap.size := by omega
    have HF2 := Lib.hid k2
    have Hk2 := Lib.hid k4
    have Hbuf2 := Lib.hid (hbuf2.base (b' := w.heap.size + 2) (by simp; omega))
    obtain ⟨L, hL⟩ : ∃ L, L = savedB o := ⟨_, rfl⟩
    rw [← hL] at Hbuf2 ⊢
    have HL := Lib.hid hL
    clear hb2 hbuf2 hbel2 k1 k2 k4 hal p0 p1 hL
    by_cases hl : 90000 < L.length
    · have hli : (90000 : Int) < (L.length : Int) := by omega
      have hsb := save_long Hfa.out.symm (by rw [← HL.out]; exact hl)
      have hr2 := HR.out
      rw [hsb.1, hsb.2] at hr2
      have Hr2 := Lib.hid hr2
      clear hl hr2 hsb
      go_wp2
      refine bodyPost_ret (v := .tuple #[.slice none 0 0, .agg #[.int .i64 10, .int .i64 0]]) (res_slF (by rfl) (by rfl) (by rfl) (by repeat (first | with_reducible exact HF2.out | with_reducible refine blk_drew ?_ | with_reducible refine blk_drewN ?_ _ | with_reducible refine blk_alloc ?_ _ | with_reducible apply blk_set1 | with_reducible apply blk_set0 | with_reducible refine blk_other ?_ (by first | (simp; done) | omega | (simp; omega)) _))) rfl ?_
      have hb := Hk2.out
      refine Hr2.out _ _ ?_ (buf_nil _ _)
      exact (by repeat (first | exact Below.refl _ _ | assumption | refine below_drewN ?_ _ | refine Below.drew ?_ | refine Below.setCell ?_ (by first | omega | (simp; done) | (simp; omega)) _ | refine Below.alloc ?_ (by first | omega | (simp; done) | (simp; omega)) _ | refine below_step (by assumption) ?_ (by first | omega | (simp; done) | (simp; omega))))
    · have hli : ¬ (90000 : Int) < (L.length : Int) := by omega
      have hsb := save_fine Hfa.out.symm (by rw [← HL.out]; exact hl)
      have hr2 := HR.out
      rw [hsb.1, hsb.2, ← HL.out] at hr2
      have Hr2 := Lib.hid hr2
      clear hl hr2 hsb
      go_wp2
      refine bodyPost_ret (v := .tuple #[.slice A3 L.length c3, .agg #[.int .i64 0, .int .i64 0]]) (res_slF (by rfl) (by rfl) (by rfl) (by repeat (first | with_reducible exact HF2.out | with_reducible refine blk_drew ?_ | with_reducible refine blk_drewN ?_ _ | with_reducible refine blk_alloc ?_ _ | with_reducible apply blk_set1 | with_reducible apply blk_set0 | with_reducible refine blk_other ?_ (by first | (simp; done) | omega | (simp; omega)) _))) rfl ?_
      have hb := Hk2.out
      have hbb := ((Hbuf2.out.grew (Grew.of_grown (grown_setCell w2 ⟨w.heap.size + 1, 0, none⟩ (.int .i64 0))) (fun k hk e => by have := (Hbuf2.out.lt k hk).1; have := Option.some.inj e; simp at this; omega)).grew (Grew.of_grown (grown_setCell _ ⟨w.heap.size + 1, 1, none⟩ (.int .i64 0))) (fun k hk e => by have := (Hbuf2.out.lt k hk).1; have := Option.some.inj e; simp at this; omega)).base (b' := w.heap.size) (by omega)
      refine Hr2.out _ _ ?_ hbb
      exact (by repeat (first | exact Below.refl _ _ | assumption | refine below_drewN ?_ _ | refine Below.drew ?_ | refine Below.setCell ?_ (by first | omega | (simp; done) | (simp; omega)) _ | refine Below.alloc ?_ (by first | omega | (simp; done) | (simp; omega)) _ | refine below_step (by assumption) ?_ (by first | omega | (simp; done) | (simp; omega))))

end Go.Proofs.YtkodcoianakjoaaDoor
