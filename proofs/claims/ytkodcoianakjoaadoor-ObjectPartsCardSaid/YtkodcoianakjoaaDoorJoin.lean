/- object.Join: two objects made one. -/
import Derived.Test.YtkodcoianakjoaaDoorBase
import Derived.Test.YtkodcoianakjoaaDoorRows
import Derived.IntWalk
import Derived.Deep.LoopGhost
import Derived.Deep.CutBlock
import Derived.Deep.DeepCutAuto
import Derived.Outline
import Derived.Test.YtkodcoianakjoaaDoorObjA
import Derived.Test.YtkodcoianakjoaaDoorPart1
import Derived.Test.YtkodcoianakjoaaDoorAlike
import Derived.Test.YtkodcoianakjoaaDoorCat
import Derived.Test.YtkodcoianakjoaaDoorJoinP
import Derived.Test.YtkodcoianakjoaaDoorLoaded
namespace Go.Proofs.YtkodcoianakjoaaDoor
open Go.RowKit
set_option linter.unusedSimpArgs false
set_option linter.unusedVariables false

set_option maxRecDepth 100000 in
set_option maxHeartbeats 8000000 in
theorem Join_calls (a b : Object) (v1 v2 v3 v4 : Value) (w : World) (h1 : rpGlobal.SL w w.heap.size a.globals v1) (h2 : rpSection.SL w w.heap.size a.sections v2) (h3 : rpGlobal.SL w w.heap.size b.globals v3) (h4 : rpSection.SL w w.heap.size b.sections v4) (hS : Shapes w) (R : Ending → World → Prop)
    (hR : ∀ w' u1 u2, Below w.heap.size w w' → rpGlobal.SLF w' w.heap.size w'.heap.size (joinO a b).globals u1 → rpSection.SLF w' w.heap.size w'.heap.size (joinO a b).sections u2 → R (.returned (.tuple #[.agg #[u1, u2], (.agg #[.int .i64 (joinF a b).1, .int .i64 (joinF a b).2])])) w') :
    Calls Tryd.prog 19 #[.agg #[v1, v2], .agg #[v3, v4]] w R := by
  have h0 := hS.1
  obtain ⟨A1, n1, rfl, hm1, hcap1, h1⟩ := h1.cases_
  obtain ⟨A2, n2, rfl, hm2, hcap2, h2⟩ := h2.cases_
  obtain ⟨A3, n3, rfl, hm3, hcap3, h3⟩ := h3.cases_
  obtain ⟨A4, n4, rfl, hm4, hcap4, h4⟩ := h4.cases_
  have HS := Lib.hid hS
  have HR := Lib.hid hR
  have H1 := Lib.hid h1
  have H2 := Lib.hid h2
  have H3 := Lib.hid h3
  have H4 := Lib.hid h4
  obtain ⟨W0, hW0⟩ : ∃ W0, W0 = (((w.alloc (Obj.cells #[.slice A1 a.globals.length n1, .slice A2 a.sections.length n2] 25)).alloc (Obj.cells #[.slice A3 b.globals.length n3, .slice A4 b.sections.length n4] 25)).alloc (Obj.cells #[.slice none 0 0, .slice none 0 0] 25)).alloc (Obj.cells #[.int .i64 0, .int .i64 0] 27) := ⟨_, rfl⟩
  have hb0 : Below w.heap.size w W0 := by subst hW0; exact (by repeat (first | exact Below.refl _ _ | assumption | refine below_drewN ?_ _ | refine Below.drew ?_ | refine Below.setCell ?_ (by first | omega | (simp; done) | (simp; omega)) _ | refine Below.alloc ?_ (by first | omega | (simp; done) | (simp; omega)) _ | refine below_step (by assumption) ?_ (by first | omega | (simp; done) | (simp; omega))))
  have hz0 : W0.heap.size = w.heap.size + 4 := by subst hW0; simp
  have hA : W0.heap[w.heap.size]? = some (.cells #[.slice A1 a.globals.length n1, .slice A2 a.sections.length n2] 25 (0, 0)) := by
    subst hW0
    exact blk_alloc (blk_alloc (blk_alloc (heap_alloc_new _ _) _) _) _
  have hB : W0.heap[w.heap.size + 1]? = some (.cells #[.slice A3 b.globals.length n3, .slice A4 b.sections.length n4] 25 (0, 0)) := by
    subst hW0
    have := heap_alloc_new (w.alloc (Obj.cells #[.slice A1 a.globals.length n1, .slice A2 a.sections.length n2] 25)) (Obj.cells #[.slice A3 b.globals.length n3, .slice A4 b.sections.length n4] 25)
    exact blk_alloc (blk_alloc (by simpa using this) _) _
  have hQ : W0.heap[w.heap.size + 1 + 1]? = some (.cells #[.slice none 0 0, .slice none 0 0] 25 (0, 0)) := by
    subst hW0
    have := heap_alloc_new ((w.alloc (Obj.cells #[.slice A1 a.globals.length n1, .slice A2 a.sections.length n2] 25)).alloc (Obj.cells #[.slice A3 b.globals.length n3, .slice A4 b.sections.length n4] 25)) (Obj.cells #[.slice none 0 0, .slice none 0 0] 25)
    exact blk_alloc (by simpa using this) _
  have hF : W0.heap[w.heap.size + 1 + 1 + 1]? = some (.cells #[.int .i64 0, .int .i64 0] 27 (0, 0)) := by
    subst hW0
    have := heap_alloc_new (((w.alloc (Obj.cells #[.slice A1 a.globals.length n1, .slice A2 a.sections.length n2] 25)).alloc (Obj.cells #[.slice A3 b.globals.length n3, .slice A4 b.sections.length n4] 25)).alloc (Obj.cells #[.slice none 0 0, .slice none 0 0] 25)) (Obj.cells #[.int .i64 0, .int .i64 0] 27)
    simpa using this
  have HK : Hid (∀ W, Below (w.heap.size + 4) W0 W → (W.heap[w.heap.size]? = some (.cells #[.slice A1 a.globals.length n1, .slice A2 a.sections.length n2] 25 (0, 0)) ∧ W.heap[w.heap.size + 1]? = some (.cells #[.slice A3 b.globals.length n3, .slice A4 b.sections.length n4] 25 (0, 0)) ∧ W.heap[w.heap.size + 1 + 1]? = some (.cells #[.slice none 0 0, .slice none 0 0] 25 (0, 0)) ∧ W.heap[w.heap.size + 1 + 1 + 1]? = some (.cells #[.int .i64 0, .int .i64 0] 27 (0, 0))) ∧ Below w.heap.size w W ∧ w.heap.size + 4 ≤ W.heap.size) := Lib.hid fun W h =>
    ⟨⟨(h.block _ (by omega)).trans hA, (h.block _ (by omega)).trans hB, (h.block _ (by omega)).trans hQ, (h.block _ (by omega)).trans hF⟩, hb0.trans (h.mono (by omega)), by have := h.size; omega⟩
  have HL : Hid (∀ W, Below w.heap.size w W → rpGlobal.SL W W.heap.size a.globals (.slice A1 a.globals.length n1) ∧ rpSection.SL W W.heap.size a.sections (.slice A2 a.sections.length n2) ∧ rpGlobal.SL W W.heap.size b.globals (.slice A3 b.globals.length n3) ∧ rpSection.SL W W.heap.size b.sections (.slice A4 b.sections.length n4)) := Lib.hid fun W h =>
    ⟨H1.out.up h h.size, H2.out.up h h.size, H3.out.up h h.size, H4.out.up h h.size⟩
  have HX : Hid (∀ (c x : Int), joinF a b = (c, x) → c ≠ 0 → ∀ w', Below w.heap.size w w' → R (.returned (.tuple #[.agg #[.slice none 0 0, .slice none 0 0], .agg #[.int .i64 c, .int .i64 x]])) w') := Lib.hid fun c x hj hc w' hb => by
    have h := HR.out w' (.slice none 0 0) (.slice none 0 0) hb
    rw [joinO_fault hj hc, hj] at h
    exact h (Rp.SLF.nil _ _ _ _) (Rp.SLF.nil _ _ _ _)
  have HW := Lib.hid hW0.symm
  have hk0 := HK.out W0 (Below.refl _ _)
  obtain ⟨⟨ka, kb, kq, kf⟩, kbel, kz⟩ := hk0
  obtain ⟨p0, p1, _, _⟩ := cells_of_block ka
  obtain ⟨p2, p3, _, _⟩ := cells_of_block kb
  have hl0 : w.heap.size < W0.heap.size := by omega
  have hl1 : w.heap.size + 1 < W0.heap.size := by omega
  clear hS hR h1 h2 h3 h4 hA hB hQ hF hW0 hb0 hz0 ka kb kq kf kbel
  go_enter Tryd.func19, Tryd.ntmps19
  go_upto_region 1 with fail
  rw [HW.out]
  go_wp2_with fail
  go_loopg [7, 8, 14] 2 (fun gh s7 s8 i wr => Below (w.heap.size + 4) W0 wr ∧ ((gh = 2 ∧ i = .int .i64 0) ∨ (gh = 1 ∧ i = .int .i64 1 ∧ objFault a = (0, 0)) ∨ (gh = 0 ∧ i = .int .i64 2 ∧ objFault a = (0, 0) ∧ objFault b = (0, 0))))
  case atStart => exact ⟨Below.refl _ _, .inl ⟨rfl, rfl⟩⟩
  case round =>
    obtain ⟨hbel, ⟨rfl, rfl⟩ | ⟨rfl, rfl, hfa⟩ | ⟨rfl, rfl, hfa, hfb⟩⟩ := hrel
    · obtain ⟨⟨ka, kb, kq, kf⟩, hbw, kz⟩ := HK.out _ hbel
      obtain ⟨c0, c1, z0, z1⟩ := cells_of_block kq
      obtain ⟨d0, d1, y0, y1⟩ := cells_of_block kf
      obtain ⟨wa, hwa⟩ : ∃ wa, wa = wr.alloc (Obj.cells #[.slice A1 a.globals.length n1, .slice A2 a.sections.length n2] 25) := ⟨_, rfl⟩
      have hza : wa.heap.size = wr.heap.size + 1 := by subst hwa; simp
      have hba : Below w.heap.size wr wa := by subst hwa; exact (Below.refl _ _).alloc (by omega) _
      have hbA : Below (w.heap.size + 4) W0 wa := by subst hwa; exact hbel.alloc (by omega) _
      have hO : wa.heap[wr.heap.size]? = some (.cells #[.slice A1 a.globals.length n1, .slice A2 a.sections.length n2] 25 (0, 0)) := by subst hwa; exact heap_alloc_new _ _
      obtain ⟨o0, o1, x0, x1⟩ := cells_of_block hO
      have hwl : wr.heap.size < wa.heap.size := by omega
      have HWa := Lib.hid hwa.symm
      clear hwa
      have hi0 : ∀ W, (Instr.index 59 (.agg #[.slice A1 a.globals.length n1, .slice A2 a.sections.length n2, .slice A3 b.globals.length n3, .slice A4 b.sections.length n4]) (.int .i64 0)).run Tryd.prog W = .ok (.agg #[.slice A1 a.globals.length n1, .slice A2 a.sections.length n2]) W := fun W => by simp [Instr.index, go_sem]
      go_wp2_with fail
      rw [HWa.out]
      refine objCheck_calls a _ _ _ (HL.out _ (hbw.trans hba)).1 (HL.out _ (hbw.trans hba)).2.1 (HS.out.up (hbw.trans hba) h0) _ (fun w1 hb1 => ?_)
      have hb2 : Below (w.heap.size + 4) W0 w1 := hbA.trans (hb1.mono (by omega))
      obtain ⟨⟨ka, kb, kq, kf⟩, hbw1, kz1⟩ := HK.out _ hb2
      obtain ⟨c0, c1, z0, z1⟩ := cells_of_block kq
      obtain ⟨d0, d1, y0, y1⟩ := cells_of_block kf
      have hq1 : w.heap.size + 1 + 1 < w1.heap.size := by omega
      have hq2 : w.heap.size + 1 + 1 + 1 < w1.heap.size := by omega
      have KQ := Lib.hid kq
      have KF := Lib.hid kf
      have Hbw1 := Lib.hid hbw1
      have Hb2 := Lib.hid hb2
      have hfz := objFault_fst a
      obtain ⟨⟨c, x⟩, hFa⟩ : ∃ F, F = objFault a := ⟨_, rfl⟩
      rw [← hFa] at hfz ⊢
      simp only [] at hfz ⊢
      have Hfa := Lib.hid hFa.symm
      clear hb1 hb2 hbA hba hbw hbw1 hbel hO ka kb kq kf hFa o0 o1 x0 x1
      by_cases hc : c = 0
      rotate_left
      · have hq : ∀ w, (binOp .neq 27 (.agg #[.int .i64 c, .int .i64 x]) (.agg #[.int .i64 0, .int .i64 0])).run Tryd.prog w = .ok (.bool true) w := fun w => by
          rw [neq_Fault]
          simp [hc]
        have Hret := Lib.hid (HX.out c x (by rw [joinF_a (by rw [Hfa.out]; exact hc), Hfa.out]) hc)
        clear hfz hc
        go_wp2
        go_region
        all_goals
          go_wp2
          refine bodyPost_ret (v := .tuple #[.agg #[.slice none 0 0, .slice none 0 0], .agg #[.int .i64 c, .int .i64 x]]) (res_ObjF (by rfl) (by rfl) (by rfl) (by repeat (first | with_reducible exact KQ.out | with_reducible refine blk_drew ?_ | with_reducible refine blk_drewN ?_ _ | with_reducible refine blk_alloc ?_ _ | with_reducible apply blk_set1 | with_reducible apply blk_set0 | with_reducible refine blk_other ?_ (by first | (simp; done) | omega | (simp; omega)) _)) (by repeat (first | with_reducible exact KF.out | with_reducible refine blk_drew ?_ | with_reducible refine blk_drewN ?_ _ | with_reducible refine blk_alloc ?_ _ | with_reducible apply blk_set1 | with_reducible apply blk_set0 | with_reducible refine blk_other ?_ (by first | (simp; done) | omega | (simp; omega)) _))) rfl ?_
          refine Hret.out _ ?_
          have hb := Hbw1.out
          exact (by repeat (first | exact Below.refl _ _ | assumption | refine below_drewN ?_ _ | refine Below.drew ?_ | refine Below.setCell ?_ (by first | omega | (simp; done) | (simp; omega)) _ | refine Below.alloc ?_ (by first | omega | (simp; done) | (simp; omega)) _ | refine below_step (by assumption) ?_ (by first | omega | (simp; done) | (simp; omega))))
      · have hq : ∀ w, (binOp .neq 27 (.agg #[.int .i64 0, .int .i64 0]) (.agg #[.int .i64 0, .int .i64 0])).run Tryd.prog w = .ok (.bool false) w := fun w => neq_Fault 0 0 0 0 w
        have hca := hfz hc
        simp only [Prod.mk.injEq] at hca
        obtain ⟨rfl, rfl⟩ := hca
        clear hfz hc
        go_wp2
        go_roundg 1
        case measure => omega
        case rel => exact ⟨Hb2.out.alloc (by omega) _, .inr (.inl ⟨rfl, rfl, Hfa.out⟩)⟩
    · obtain ⟨⟨ka, kb, kq, kf⟩, hbw, kz⟩ := HK.out _ hbel
      obtain ⟨c0, c1, z0, z1⟩ := cells_of_block kq
      obtain ⟨d0, d1, y0, y1⟩ := cells_of_block kf
      obtain ⟨wa, hwa⟩ : ∃ wa, wa = wr.alloc (Obj.cells #[.slice A3 b.globals.length n3, .slice A4 b.sections.length n4] 25) := ⟨_, rfl⟩
      have hza : wa.heap.size = wr.heap.size + 1 := by subst hwa; simp
      have hba : Below w.heap.size wr wa := by subst hwa; exact (Below.refl _ _).alloc (by omega) _
      have hbA : Below (w.heap.size + 4) W0 wa := by subst hwa; exact hbel.alloc (by omega) _
      have hO : wa.heap[wr.heap.size]? = some (.cells #[.slice A3 b.globals.length n3, .slice A4 b.sections.length n4] 25 (0, 0)) := by subst hwa; exact heap_alloc_new _ _
      obtain ⟨o0, o1, x0, x1⟩ := cells_of_block hO
      have hwl : wr.heap.size < wa.heap.size := by omega
      have HWa := Lib.hid hwa.symm
      clear hwa
      have hi0 : ∀ W, (Instr.index 59 (.agg #[.slice A1 a.globals.length n1, .slice A2 a.sections.length n2, .slice A3 b.globals.length n3, .slice A4 b.sections.length n4]) (.int .i64 1)).run Tryd.prog W = .ok (.agg #[.slice A3 b.globals.length n3, .slice A4 b.sections.length n4]) W := fun W => by simp [Instr.index, go_sem]
      go_wp2_with fail
      rw [HWa.out]
      refine objCheck_calls b _ _ _ (HL.out _ (hbw.trans hba)).2.2.1 (HL.out _ (hbw.trans hba)).2.2.2 (HS.out.up (hbw.trans hba) h0) _ (fun w1 hb1 => ?_)
      have hb2 : Below (w.heap.size + 4) W0 w1 := hbA.trans (hb1.mono (by omega))
      obtain ⟨⟨ka, kb, kq, kf⟩, hbw1, kz1⟩ := HK.out _ hb2
      obtain ⟨c0, c1, z0, z1⟩ := cells_of_block kq
      obtain ⟨d0, d1, y0, y1⟩ := cells_of_block kf
      have hq1 : w.heap.size + 1 + 1 < w1.heap.size := by omega
      have hq2 : w.heap.size + 1 + 1 + 1 < w1.heap.size := by omega
      have KQ := Lib.hid kq
      have KF := Lib.hid kf
      have Hbw1 := Lib.hid hbw1
      have Hb2 := Lib.hid hb2
      have hfz := objFault_fst b
      obtain ⟨⟨c, x⟩, hFa⟩ : ∃ F, F = objFault b := ⟨_, rfl⟩
      rw [← hFa] at hfz ⊢
      simp only [] at hfz ⊢
      have Hfa := Lib.hid hFa.symm
      clear hb1 hb2 hbA hba hbw hbw1 hbel hO ka kb kq kf hFa o0 o1 x0 x1
      by_cases hc : c = 0
      rotate_left
      · have hq : ∀ w, (binOp .neq 27 (.agg #[.int .i64 c, .int .i64 x]) (.agg #[.int .i64 0, .int .i64 0])).run Tryd.prog w = .ok (.bool true) w := fun w => by
          rw [neq_Fault]
          simp [hc]
        have Hret := Lib.hid (HX.out c x (by rw [joinF_b hfa (by rw [Hfa.out]; exact hc), Hfa.out]) hc)
        clear hfz hc
        go_wp2
        go_region
        all_goals
          go_wp2
          refine bodyPost_ret (v := .tuple #[.agg #[.slice none 0 0, .slice none 0 0], .agg #[.int .i64 c, .int .i64 x]]) (res_ObjF (by rfl) (by rfl) (by rfl) (by repeat (first | with_reducible exact KQ.out | with_reducible refine blk_drew ?_ | with_reducible refine blk_drewN ?_ _ | with_reducible refine blk_alloc ?_ _ | with_reducible apply blk_set1 | with_reducible apply blk_set0 | with_reducible refine blk_other ?_ (by first | (simp; done) | omega | (simp; omega)) _)) (by repeat (first | with_reducible exact KF.out | with_reducible refine blk_drew ?_ | with_reducible refine blk_drewN ?_ _ | with_reducible refine blk_alloc ?_ _ | with_reducible apply blk_set1 | with_reducible apply blk_set0 | with_reducible refine blk_other ?_ (by first | (simp; done) | omega | (simp; omega)) _))) rfl ?_
          refine Hret.out _ ?_
          have hb := Hbw1.out
          exact (by repeat (first | exact Below.refl _ _ | assumption | refine below_drewN ?_ _ | refine Below.drew ?_ | refine Below.setCell ?_ (by first | omega | (simp; done) | (simp; omega)) _ | refine Below.alloc ?_ (by first | omega | (simp; done) | (simp; omega)) _ | refine below_step (by assumption) ?_ (by first | omega | (simp; done) | (simp; omega))))
      · have hq : ∀ w, (binOp .neq 27 (.agg #[.int .i64 0, .int .i64 0]) (.agg #[.int .i64 0, .int .i64 0])).run Tryd.prog w = .ok (.bool false) w := fun w => neq_Fault 0 0 0 0 w
        have hca := hfz hc
        simp only [Prod.mk.injEq] at hca
        obtain ⟨rfl, rfl⟩ := hca
        clear hfz hc
        go_wp2
        go_roundg 0
        case measure => omega
        case rel => exact ⟨Hb2.out.alloc (by omega) _, .inr (.inr ⟨rfl, rfl, hfa, Hfa.out⟩)⟩
    · obtain ⟨⟨ka, kb, kq, kf⟩, hbw, kz⟩ := HK.out _ hbel
      obtain ⟨p0, p1, _, _⟩ := cells_of_block ka
      obtain ⟨p2, p3, _, _⟩ := cells_of_block kb
      have hl0 : w.heap.size < wr.heap.size := by omega
      have hl1 : w.heap.size + 1 < wr.heap.size := by omega
      have hLw := HL.out _ hbw
      have hLA := Lib.hid hLw.1
      have hLB := Lib.hid hLw.2.2.1
      have Hbel := Lib.hid hbel
      have Hfa := Lib.hid hfa
      have Hfb := Lib.hid hfb
      clear ka kb kq kf hLw hbel hbw hfa hfb
      go_wp2_with fail
      refine Alike_calls a.globals b.globals _ _ _ hLA.out hLB.out _ (fun w1 hb1 => ?_)
      have Hb1 := Lib.hid (Hbel.out.trans (hb1.mono (by omega)))
      obtain ⟨⟨ka, kb, kq, kf⟩, hbw1, kz1⟩ := HK.out _ Hb1.out
      obtain ⟨p0, p1, _, _⟩ := cells_of_block ka
      obtain ⟨p2, p3, _, _⟩ := cells_of_block kb
      obtain ⟨gq, hgq⟩ : ∃ q, q = sameG a.globals b.globals := ⟨_, rfl⟩
      rw [← hgq]
      have Hgq := Lib.hid hgq.symm
      clear hb1 hgq ka kb kq kf hbw1 hLA hLB Hbel
      cases gq
      · have Hret := Lib.hid (HX.out 5 0 (joinF_globals Hfa.out Hfb.out Hgq.out) (by decide))
        have hz8 := (HK.out _ (Hb1.out)).2.2
        go_wp2_with fail
        refine Fault_calls _ _ _ _ (fun w9 hb9 => ?_)
        have hb8 : Below (w.heap.size + 4) W0 w9 := (Hb1.out).trans (hb9.mono (by omega))
        obtain ⟨⟨ka, kb, kq, kf⟩, hbw9, kz9⟩ := HK.out _ hb8
        obtain ⟨c0, c1, z0, z1⟩ := cells_of_block kq
        obtain ⟨d0, d1, y0, y1⟩ := cells_of_block kf
        have hq1 : w.heap.size + 1 + 1 < w9.heap.size := by omega
        have hq2 : w.heap.size + 1 + 1 + 1 < w9.heap.size := by omega
        have KQ := Lib.hid kq
        have KF := Lib.hid kf
        have Hbw9 := Lib.hid hbw9
        clear hb9 hb8 hbw9 ka kb kq kf
        go_wp2
        refine bodyPost_ret (v := .tuple #[.agg #[.slice none 0 0, .slice none 0 0], .agg #[.int .i64 5, .int .i64 0]]) (res_ObjF (by rfl) (by rfl) (by rfl) (by repeat (first | with_reducible exact KQ.out | with_reducible refine blk_drew ?_ | with_reducible refine blk_drewN ?_ _ | with_reducible refine blk_alloc ?_ _ | with_reducible apply blk_set1 | with_reducible apply blk_set0 | with_reducible refine blk_other ?_ (by first | (simp; done) | omega | (simp; omega)) _)) (by repeat (first | with_reducible exact KF.out | with_reducible refine blk_drew ?_ | with_reducible refine blk_drewN ?_ _ | with_reducible refine blk_alloc ?_ _ | with_reducible apply blk_set1 | with_reducible apply blk_set0 | with_reducible refine blk_other ?_ (by first | (simp; done) | omega | (simp; omega)) _))) rfl ?_
        refine Hret.out _ ?_
        have hb := Hbw9.out
        exact (by repeat (first | exact Below.refl _ _ | assumption | refine below_drewN ?_ _ | refine Below.drew ?_ | refine Below.setCell ?_ (by first | omega | (simp; done) | (simp; omega)) _ | refine Below.alloc ?_ (by first | omega | (simp; done) | (simp; omega)) _ | refine below_step (by assumption) ?_ (by first | omega | (simp; done) | (simp; omega))))
      · go_wp2_with fail
        go_loopg [9, 10, 36] b.sections.length (fun gh s9 s10 i wr2 => ∃ k : Nat, k ≤ b.sections.length ∧ gh = b.sections.length - k ∧ i = .int .i64 (k : Int) ∧ Below (w.heap.size + 4) W0 wr2 ∧ ∀ j y, j < k → b.sections[j]? = some y → hasS a.sections y.name = false)
        case atStart => exact ⟨0, Nat.zero_le _, rfl, rfl, Hb1.out, fun j y h => by omega⟩
        case round =>
          rename World => wk
          obtain ⟨k, hk, rfl, rfl, hbel, hno⟩ := hrel
          have Hbel := Lib.hid hbel
          have Hno := Lib.hid hno
          obtain ⟨⟨ka, kb, kq, kf⟩, hbw, kz⟩ := HK.out _ hbel
          obtain ⟨p0, p1, _, _⟩ := cells_of_block ka
          obtain ⟨p2, p3, _, _⟩ := cells_of_block kb
          have i1 : (0 : Int) ≤ (k : Int) := Int.natCast_nonneg _
          have hw0 : w.heap.size < wk.heap.size := by omega
          have hw1 : w.heap.size + 1 < wk.heap.size := by omega
          by_cases hlt : k < b.sections.length
          · obtain ⟨bb, off, s, v5, v6, hA4, hbb, e, hs5, hs6, q0, q1, q2⟩ := H4.out.section_at hlt
            subst hA4
            obtain ⟨A5, n5, rfl, _, _, _⟩ := hs5.cases_
            obtain ⟨A6, n6, rfl, _, _, _⟩ := hs6.cases_
            have r0 := (hbw.cell (p := ⟨bb, off + k * 3, none⟩) hbb).trans q0
            have r1 := (hbw.cell (p := ⟨bb, off + k * 3 + 1, none⟩) hbb).trans q1
            have r2 := (hbw.cell (p := ⟨bb, off + k * 3 + 2, none⟩) hbb).trans q2
            have i2 : (k : Int) < (b.sections.length : Int) := by omega
            have E := Lib.hid e
            obtain ⟨wm, hwm⟩ : ∃ wm, wm = wk.alloc (Obj.cells #[.string s.name, .slice A5 s.code.length n5, .slice A6 s.mends.length n6] 53) := ⟨_, rfl⟩
            have hwmz : wm.heap.size = wk.heap.size + 1 := by subst hwm; simp
            have hbm : Below (w.heap.size + 4) W0 wm := by subst hwm; exact hbel.alloc (by omega) _
            have hM : wm.cell? ⟨wk.heap.size, 0, none⟩ = some (.string s.name) := by subst hwm; simp
            have hbmw := (HK.out _ hbm).2.1
            have hSa := Lib.hid (HL.out _ hbmw).2.1
            have HWm := Lib.hid hwm.symm
            have HM := Lib.hid hM
            have Hbm := Lib.hid hbm
            obtain ⟨⟨km, _, _, _⟩, _, _⟩ := HK.out _ hbm
            obtain ⟨m0, m1, _, _⟩ := cells_of_block km
            have hw2 : w.heap.size < wm.heap.size := by omega
            clear hs5 hs6 q0 q1 q2 e hwm hbm hM hbmw hbel hbw ka kb kq kf km hno
            go_upto_region 13 with fail
            rw [HWm.out]
            go_wp2_with fail
            refine containsSJ_calls _ a.sections s.name wk.heap.size _ hSa.out HM.out _ (fun w5 hb5 => ?_)
            have Hb5 := Lib.hid (Hbm.out.trans (hb5.mono (by omega)))
            obtain ⟨hq, hhq⟩ : ∃ q, q = hasS a.sections s.name := ⟨_, rfl⟩
            rw [← hhq]
            have Hhq := Lib.hid hhq.symm
            clear hb5 hhq r0 r1 r2 p0 p1 p2 p3 m0 m1
            cases hq
            · have hst := Lib.hid (clash_step Hno.out E.out Hhq.out)
              go_wp2
              go_roundg (b.sections.length - (k + 1))
              case measure => omega
              case rel => exact ⟨k + 1, hlt, rfl, by go_num, Hb5.out, hst.out⟩
            · have Hret := Lib.hid (HX.out 7 (k : Int) (joinF_clash Hfa.out Hfb.out Hgq.out (clash_some Hno.out E.out Hhq.out)) (by decide))
              have hz8 := (HK.out _ (Hb5.out)).2.2
              go_wp2_with fail
              refine Fault_calls _ _ _ _ (fun w9 hb9 => ?_)
              have hb8 : Below (w.heap.size + 4) W0 w9 := (Hb5.out).trans (hb9.mono (by omega))
              obtain ⟨⟨ka, kb, kq, kf⟩, hbw9, kz9⟩ := HK.out _ hb8
              obtain ⟨c0, c1, z0, z1⟩ := cells_of_block kq
              obtain ⟨d0, d1, y0, y1⟩ := cells_of_block kf
              have hq1 : w.heap.size + 1 + 1 < w9.heap.size := by omega
              have hq2 : w.heap.size + 1 + 1 + 1 < w9.heap.size := by omega
              have KQ := Lib.hid kq
              have KF := Lib.hid kf
              have Hbw9 := Lib.hid hbw9
              clear hb9 hb8 hbw9 ka kb kq kf
              go_wp2
              refine bodyPost_ret (v := .tuple #[.agg #[.slice none 0 0, .slice none 0 0], .agg #[.int .i64 7, .int .i64 k]]) (res_ObjF (by rfl) (by rfl) (by rfl) (by repeat (first | with_reducible exact KQ.out | with_reducible refine blk_drew ?_ | with_reducible refine blk_drewN ?_ _ | with_reducible refine blk_alloc ?_ _ | with_reducible apply blk_set1 | with_reducible apply blk_set0 | with_reducible refine blk_other ?_ (by first | (simp; done) | omega | (simp; omega)) _)) (by repeat (first | with_reducible exact KF.out | with_reducible refine blk_drew ?_ | with_reducible refine blk_drewN ?_ _ | with_reducible refine blk_alloc ?_ _ | with_reducible apply blk_set1 | with_reducible apply blk_set0 | with_reducible refine blk_other ?_ (by first | (simp; done) | omega | (simp; omega)) _))) rfl ?_
              refine Hret.out _ ?_
              have hb := Hbw9.out
              exact (by repeat (first | exact Below.refl _ _ | assumption | refine below_drewN ?_ _ | refine Below.drew ?_ | refine Below.setCell ?_ (by first | omega | (simp; done) | (simp; omega)) _ | refine Below.alloc ?_ (by first | omega | (simp; done) | (simp; omega)) _ | refine below_step (by assumption) ?_ (by first | omega | (simp; done) | (simp; omega))))
          · obtain rfl : k = b.sections.length := by omega
            have Hcl := Lib.hid (clash_none Hno.out)
            have hsum : IntKind.i64.wrap ((a.sections.length : Int) + (b.sections.length : Int)) = (a.sections.length : Int) + (b.sections.length : Int) := IntWalk.i64_in _ (by
              have := ((objOk_iff a).1 Hfa.out).few
              have := ((objOk_iff b).1 Hfb.out).few
              omega)
            by_cases hmany : 40 < a.sections.length + b.sections.length
            · have Hret := Lib.hid (HX.out 2 0 (joinF_many Hfa.out Hfb.out Hgq.out Hcl.out hmany) (by decide))
              have i3 : (40 : Int) < (a.sections.length : Int) + (b.sections.length : Int) := by omega
              clear ka kb kq kf hbel hbw hno hmany
              have hz8 := (HK.out _ (Hbel.out)).2.2
              go_wp2_with fail
              refine Fault_calls _ _ _ _ (fun w9 hb9 => ?_)
              have hb8 : Below (w.heap.size + 4) W0 w9 := (Hbel.out).trans (hb9.mono (by omega))
              obtain ⟨⟨ka, kb, kq, kf⟩, hbw9, kz9⟩ := HK.out _ hb8
              obtain ⟨c0, c1, z0, z1⟩ := cells_of_block kq
              obtain ⟨d0, d1, y0, y1⟩ := cells_of_block kf
              have hq1 : w.heap.size + 1 + 1 < w9.heap.size := by omega
              have hq2 : w.heap.size + 1 + 1 + 1 < w9.heap.size := by omega
              have KQ := Lib.hid kq
              have KF := Lib.hid kf
              have Hbw9 := Lib.hid hbw9
              clear hb9 hb8 hbw9 ka kb kq kf
              go_wp2
              refine bodyPost_ret (v := .tuple #[.agg #[.slice none 0 0, .slice none 0 0], .agg #[.int .i64 2, .int .i64 0]]) (res_ObjF (by rfl) (by rfl) (by rfl) (by repeat (first | with_reducible exact KQ.out | with_reducible refine blk_drew ?_ | with_reducible refine blk_drewN ?_ _ | with_reducible refine blk_alloc ?_ _ | with_reducible apply blk_set1 | with_reducible apply blk_set0 | with_reducible refine blk_other ?_ (by first | (simp; done) | omega | (simp; omega)) _)) (by repeat (first | with_reducible exact KF.out | with_reducible refine blk_drew ?_ | with_reducible refine blk_drewN ?_ _ | with_reducible refine blk_alloc ?_ _ | with_reducible apply blk_set1 | with_reducible apply blk_set0 | with_reducible refine blk_other ?_ (by first | (simp; done) | omega | (simp; omega)) _))) rfl ?_
              refine Hret.out _ ?_
              have hb := Hbw9.out
              exact (by repeat (first | exact Below.refl _ _ | assumption | refine below_drewN ?_ _ | refine Below.drew ?_ | refine Below.setCell ?_ (by first | omega | (simp; done) | (simp; omega)) _ | refine Below.alloc ?_ (by first | omega | (simp; done) | (simp; omega)) _ | refine below_step (by assumption) ?_ (by first | omega | (simp; done) | (simp; omega))))
            · have i3 : ¬ (40 : Int) < (a.sections.length : Int) + (b.sections.length : Int) := by omega
              have hgood := joinF_good Hfa.out Hfb.out Hgq.out Hcl.out hmany
              have Hret : Hid (∀ w' u1 u2, Below w.heap.size w w' → rpGlobal.SLF w' w.heap.size w'.heap.size a.globals u1 → rpSection.SLF w' w.heap.size w'.heap.size (a.sections ++ b.sections) u2 → R (.returned (.tuple #[.agg #[u1, u2], .agg #[.int .i64 0, .int .i64 0]])) w') := Lib.hid (by
                have h := HR.out
                rw [joinO_good hgood, hgood] at h
                exact h)
              have hgb : Hid (a.globals.length ≤ 1048576 ∧ ∀ g ∈ a.globals, g.init.length ≤ 1048576) := Lib.hid (by
                obtain ⟨q1, q2⟩ := globFault_ok ((objOk_iff a).1 Hfa.out).glob
                exact ⟨by omega, fun g hg => by have := (q2 g hg).fits; have := (q2 g hg).high; omega⟩)
              have hso : ∀ o : Object, ObjOk o → ∀ s ∈ o.sections, s.code.length ≤ 1048576 ∧ s.mends.length ≤ 1048576 := fun o ho s hs => by
                obtain ⟨j, hj, e⟩ := List.mem_iff_getElem.1 hs
                obtain ⟨q1, q2, _⟩ := secF_ok (ho.secs j s (by rw [List.getElem?_eq_getElem hj, e])).fine
                omega
              have hsb : Hid ((a.sections ++ b.sections).length ≤ 1048576 ∧ ∀ s ∈ a.sections ++ b.sections, s.code.length ≤ 1048576 ∧ s.mends.length ≤ 1048576) := Lib.hid (by
                refine ⟨by rw [List.length_append]; omega, fun s hs => ?_⟩
                rcases List.mem_append.1 hs with h | h
                · exact hso a ((objOk_iff a).1 Hfa.out) s h
                · exact hso b ((objOk_iff b).1 Hfb.out) s h)
              have HS3 : Hid (∀ W, Below (w.heap.size + 4) W0 W → (fun W : World => W.cell? ⟨w.heap.size, 0, none⟩ = some (.slice A1 a.globals.length n1) ∧ W.cell? ⟨w.heap.size, 1, none⟩ = some (.slice A2 a.sections.length n2) ∧ W.cell? ⟨w.heap.size + 1, 1, none⟩ = some (.slice A4 b.sections.length n4)) W) := Lib.hid fun W h => by
                obtain ⟨⟨q1, q2, _, _⟩, _, _⟩ := HK.out W h
                obtain ⟨e0, e1, _, _⟩ := cells_of_block q1
                obtain ⟨e2, e3, _, _⟩ := cells_of_block q2
                exact ⟨e0, e1, e3⟩
              have hS0 := HS3.out wk Hbel.out
              have hS1 := HS3.out wk.drew Hbel.out.drew
              have hS2 : ∀ o, (fun W : World => W.cell? ⟨w.heap.size, 0, none⟩ = some (.slice A1 a.globals.length n1) ∧ W.cell? ⟨w.heap.size, 1, none⟩ = some (.slice A2 a.sections.length n2) ∧ W.cell? ⟨w.heap.size + 1, 1, none⟩ = some (.slice A4 b.sections.length n4)) (wk.alloc o).drew := fun o => HS3.out _ (Hbel.out.alloc (show w.heap.size + 4 ≤ wk.heap.size by omega) o).drew
              have hS3 : ∀ o, (fun W : World => W.cell? ⟨w.heap.size, 0, none⟩ = some (.slice A1 a.globals.length n1) ∧ W.cell? ⟨w.heap.size, 1, none⟩ = some (.slice A2 a.sections.length n2) ∧ W.cell? ⟨w.heap.size + 1, 1, none⟩ = some (.slice A4 b.sections.length n4)) (wk.alloc o) := fun o => HS3.out _ (Hbel.out.alloc (show w.heap.size + 4 ≤ wk.heap.size by omega) o)
              have hsum2 : a.sections.length + b.sections.length ≤ 1048576 := by omega
              obtain ⟨N5, hN5⟩ : ∃ N, N = (a.sections ++ b.sections).length := ⟨_, rfl⟩
              have HN5 := Lib.hid hN5
              have Hbc : Hid (∀ o, Below w.heap.size w (wk.alloc o).drew) := Lib.hid fun o => (hbw.alloc (show w.heap.size ≤ wk.heap.size by omega) o).drew
              have HSt : Hid (∀ (W : World) (p : Addr) u, w.heap.size + 1 < p.block → (fun W : World => W.cell? ⟨w.heap.size, 0, none⟩ = some (.slice A1 a.globals.length n1) ∧ W.cell? ⟨w.heap.size, 1, none⟩ = some (.slice A2 a.sections.length n2) ∧ W.cell? ⟨w.heap.size + 1, 1, none⟩ = some (.slice A4 b.sections.length n4)) W → (fun W : World => W.cell? ⟨w.heap.size, 0, none⟩ = some (.slice A1 a.globals.length n1) ∧ W.cell? ⟨w.heap.size, 1, none⟩ = some (.slice A2 a.sections.length n2) ∧ W.cell? ⟨w.heap.size + 1, 1, none⟩ = some (.slice A4 b.sections.length n4)) (W.setCell p u)) := Lib.hid fun W p u hp h => ⟨(World.cell?_of_block (Below.heap_setCell _ _ _ _ (by show w.heap.size ≠ _; omega))).trans h.1, (World.cell?_of_block (Below.heap_setCell _ _ _ _ (by show w.heap.size ≠ _; omega))).trans h.2.1, (World.cell?_of_block (Below.heap_setCell _ _ _ _ (by show w.heap.size + 1 ≠ _; omega))).trans h.2.2⟩
              clear hgood hso hmany hN5 ka kb kq kf hbel hbw hno p0 p1 p2 p3
              go_upto_region 18 with fail
              go_region_held3 (fun W : World => W.cell? ⟨w.heap.size, 0, none⟩ = some (.slice A1 a.globals.length n1) ∧ W.cell? ⟨w.heap.size, 1, none⟩ = some (.slice A2 a.sections.length n2) ∧ W.cell? ⟨w.heap.size + 1, 1, none⟩ = some (.slice A4 b.sections.length n4)) (first | with_reducible exact hS0 | with_reducible exact hS1 | with_reducible exact hS2 _ | with_reducible exact hS3 _ | with_reducible exact hS5 | with_reducible exact hS6 | with_reducible exact hS7 _ _ | with_reducible exact hS8 _ _ _ _) (first
                | (go_at_call 37; refine Concat_calls a.sections b.sections _ _ wk.heap.size _ _ (blk_drew (heap_alloc_new _ _)) (HL.out _ (Hbc.out _)).2.1 (HL.out _ (Hbc.out _)).2.2.2 hsum2 _ ?_; intro w5 v5 hb5 hs5; obtain ⟨B5, m5, rfl, _, _, hs5⟩ := hs5.cases_; rw [← HN5.out] at hs5 ⊢; have hB5 : Below (w.heap.size + 4) W0 w5 := ((Hbel.out.alloc (show w.heap.size + 4 ≤ wk.heap.size by omega) _).drew).trans (hb5.mono (show w.heap.size + 4 ≤ (wk.alloc _).heap.size by simp <;> omega)); have hS5 := HS3.out w5 hB5; have HB5 := Lib.hid hB5; have Hs5 := Lib.hid hs5; have hz5 := (HK.out _ hB5).2.2; clear hb5 hs5 hB5)
                | (go_at_call 27; refine Copy_calls ⟨a.globals, a.sections ++ b.sections⟩ _ _ _ (HL.out _ (HK.out _ HB5.out).2.1).1 Hs5.out hgb.out hsb.out _ ?_; intro w6 u1 u2 hb6 hg6 hs6; obtain ⟨C1, l1, rfl, _, _, hg6⟩ := hg6.cases_; obtain ⟨C2, l2, rfl, _, _, hs6⟩ := hs6.cases_; simp only [] at hg6 hs6 ⊢; rw [← HN5.out] at hs6 ⊢; have hB6 : Below (w.heap.size + 4) W0 w6 := HB5.out.trans (hb6.mono (by omega)); obtain ⟨⟨ka, kb, kq, kf⟩, hbw6, kz6⟩ := HK.out _ hB6; obtain ⟨c0, c1, z0, z1⟩ := cells_of_block kq; obtain ⟨d0, d1, y0, y1⟩ := cells_of_block kf; have hS6 := HS3.out w6 hB6; have hS7 : ∀ x y, (fun W : World => W.cell? ⟨w.heap.size, 0, none⟩ = some (.slice A1 a.globals.length n1) ∧ W.cell? ⟨w.heap.size, 1, none⟩ = some (.slice A2 a.sections.length n2) ∧ W.cell? ⟨w.heap.size + 1, 1, none⟩ = some (.slice A4 b.sections.length n4)) ((w6.setCell ⟨w.heap.size + 1 + 1, 0, none⟩ x).setCell ⟨w.heap.size + 1 + 1, 1, none⟩ y) := (fun x y => HSt.out _ ⟨w.heap.size + 1 + 1, 1, none⟩ _ (Nat.lt_succ_self _) (HSt.out _ ⟨w.heap.size + 1 + 1, 0, none⟩ _ (Nat.lt_succ_self _) hS6)); have hS8 : ∀ x y z u, (fun W : World => W.cell? ⟨w.heap.size, 0, none⟩ = some (.slice A1 a.globals.length n1) ∧ W.cell? ⟨w.heap.size, 1, none⟩ = some (.slice A2 a.sections.length n2) ∧ W.cell? ⟨w.heap.size + 1, 1, none⟩ = some (.slice A4 b.sections.length n4)) ((((w6.setCell ⟨w.heap.size + 1 + 1, 0, none⟩ x).setCell ⟨w.heap.size + 1 + 1, 1, none⟩ y).setCell ⟨w.heap.size + 1 + 1 + 1, 0, none⟩ z).setCell ⟨w.heap.size + 1 + 1 + 1, 1, none⟩ u) := (fun x y z u => HSt.out _ ⟨w.heap.size + 1 + 1 + 1, 1, none⟩ _ (by show _ < w.heap.size + 1 + 1 + 1; omega) (HSt.out _ ⟨w.heap.size + 1 + 1 + 1, 0, none⟩ _ (by show _ < w.heap.size + 1 + 1 + 1; omega) (hS7 x y))); have hz6 := hb6.size; have KQ := Lib.hid kq; have KF := Lib.hid kf; have Hbw6 := Lib.hid hbw6; have Hg6 := Lib.hid hg6; have Hs6 := Lib.hid hs6; have hq1 : w.heap.size + 1 + 1 < w6.heap.size := (by omega); have hq2 : w.heap.size + 1 + 1 + 1 < w6.heap.size := (by omega); clear hb6 hg6 hs6 hB6 ka kb kq kf hbw6))
              all_goals
                go_wp2
                refine bodyPost_ret (v := .tuple #[.agg #[.slice C1 a.globals.length l1, .slice C2 N5 l2], .agg #[.int .i64 0, .int .i64 0]]) (res_ObjF (by rfl) (by rfl) (by rfl) (by repeat (first | with_reducible exact KQ.out | with_reducible refine blk_drew ?_ | with_reducible refine blk_drewN ?_ _ | with_reducible refine blk_alloc ?_ _ | with_reducible apply blk_set1 | with_reducible apply blk_set0 | with_reducible refine blk_other ?_ (by first | (simp; done) | omega | (simp; omega)) _)) (by repeat (first | with_reducible exact KF.out | with_reducible refine blk_drew ?_ | with_reducible refine blk_drewN ?_ _ | with_reducible refine blk_alloc ?_ _ | with_reducible apply blk_set1 | with_reducible apply blk_set0 | with_reducible refine blk_other ?_ (by first | (simp; done) | omega | (simp; omega)) _))) rfl ?_
                refine Hret.out _ _ _ ?_ ?_ ?_
                · have hb := Hbw6.out
                  exact (by repeat (first | exact Below.refl _ _ | assumption | refine below_drewN ?_ _ | refine Below.drew ?_ | refine Below.setCell ?_ (by first | omega | (simp; done) | (simp; omega)) _ | refine Below.alloc ?_ (by first | omega | (simp; done) | (simp; omega)) _ | refine below_step (by assumption) ?_ (by first | omega | (simp; done) | (simp; omega))))
                · refine Rp.SLF.more (b := w5.heap.size) (B := w6.heap.size) (Rp.SLF.keepB Hg6.out fun k hk1 hk2 => ?_) (by omega) (by simp [World.setCell])
                  obtain ⟨X, hX⟩ : ∃ X, w6.heap[k]? = some X := ⟨_, Array.getElem?_eq_getElem hk2⟩
                  rw [hX]
                  exact (by repeat (first | with_reducible exact hX | with_reducible refine blk_drew ?_ | with_reducible refine blk_drewN ?_ _ | with_reducible refine blk_alloc ?_ _ | with_reducible apply blk_set1 | with_reducible apply blk_set0 | with_reducible refine blk_other ?_ (by first | (simp; done) | omega | (simp; omega)) _))
                · refine Rp.SLF.more (b := w5.heap.size) (B := w6.heap.size) (Rp.SLF.keepB Hs6.out fun k hk1 hk2 => ?_) (by omega) (by simp [World.setCell])
                  obtain ⟨X, hX⟩ : ∃ X, w6.heap[k]? = some X := ⟨_, Array.getElem?_eq_getElem hk2⟩
                  rw [hX]
                  exact (by repeat (first | with_reducible exact hX | with_reducible refine blk_drew ?_ | with_reducible refine blk_drewN ?_ _ | with_reducible refine blk_alloc ?_ _ | with_reducible apply blk_set1 | with_reducible apply blk_set0 | with_reducible refine blk_other ?_ (by first | (simp; done) | omega | (simp; omega)) _))
end Go.Proofs.YtkodcoianakjoaaDoor
