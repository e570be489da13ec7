/- ObjectJoin, as the document says it. -/
import Derived.Test.YtkodcoianakjoaaDoorBase
import Derived.Test.YtkodcoianakjoaaDoorRows
import Derived.IntWalk
import Derived.Deep.LoopGhost
import Derived.Deep.CutBlock
import Derived.Deep.DeepCutAuto
import Derived.Outline
import Derived.Test.YtkodcoianakjoaaDoorObjA
import Derived.Test.YtkodcoianakjoaaDoorPart1
import Derived.Test.YtkodcoianakjoaaDoorSameA
import Derived.Deep.RegionLaw
import Derived.Test.YtkodcoianakjoaaDoorCat
import Derived.Test.YtkodcoianakjoaaDoorJoinP
import Derived.Test.YtkodcoianakjoaaDoorLoaded
namespace Go.Proofs.YtkodcoianakjoaaDoor
open Go.RowKit
set_option linter.unusedSimpArgs false
set_option linter.unusedVariables false

set_option maxRecDepth 100000 in
set_option maxHeartbeats 8000000 in
theorem ObjectJoin_calls (a b : Object) (v1 v2 v3 v4 : Value) (w : World) (h1 : rpGlobal.SL w w.heap.size a.globals v1) (h2 : rpSection.SL w w.heap.size a.sections v2) (h3 : rpGlobal.SL w w.heap.size b.globals v3) (h4 : rpSection.SL w w.heap.size b.sections v4) (R : Ending → World → Prop)
    (hR : ∀ w' u1 u2, Below w.heap.size w w' → rpGlobal.SL w' w'.heap.size (joinO a b).globals u1 → rpSection.SL w' w'.heap.size (joinO a b).sections u2 → R (.returned (.tuple #[.agg #[u1, u2], (.agg #[.int .i64 (joinF a b).1, .int .i64 (joinF a b).2])])) w') :
    Calls Tryd.prog 20 #[.agg #[v1, v2], .agg #[v3, v4]] w R := by
  obtain ⟨A1, n1, rfl, hm1, hcap1, h1⟩ := h1.cases_
  obtain ⟨A2, n2, rfl, hm2, hcap2, h2⟩ := h2.cases_
  obtain ⟨A3, n3, rfl, hm3, hcap3, h3⟩ := h3.cases_
  obtain ⟨A4, n4, rfl, hm4, hcap4, h4⟩ := h4.cases_
  have HR := Lib.hid hR
  have H1 := Lib.hid h1
  have H2 := Lib.hid h2
  have H3 := Lib.hid h3
  have H4 := Lib.hid h4
  obtain ⟨W0, hW0⟩ : ∃ W0, W0 = (((w.alloc (Obj.cells #[.slice A1 a.globals.length n1, .slice A2 a.sections.length n2] 25)).alloc (Obj.cells #[.slice A3 b.globals.length n3, .slice A4 b.sections.length n4] 25)).alloc (Obj.cells #[.slice none 0 0, .slice none 0 0] 25)).alloc (Obj.cells #[.int .i64 0, .int .i64 0] 27) := ⟨_, rfl⟩
  have hb0 : Below w.heap.size w W0 := by subst hW0; exact (by repeat (first | exact Below.refl _ _ | assumption | refine below_drewN ?_ _ | refine Below.drew ?_ | refine Below.setCell ?_ (by first | omega | (simp; done) | (simp; omega)) _ | refine Below.alloc ?_ (by first | omega | (simp; done) | (simp; omega)) _ | refine below_step (by assumption) ?_ (by first | omega | (simp; done) | (simp; omega))))
  have hz0 : W0.heap.size = w.heap.size + 4 := by subst hW0; simp
  have hA : W0.heap[w.heap.size]? = some (.cells #[.slice A1 a.globals.length n1, .slice A2 a.sections.length n2] 25 (0, 0)) := by
    subst hW0
    exact blk_alloc (blk_alloc (blk_alloc (heap_alloc_new _ _) _) _) _
  have hB : W0.heap[w.heap.size + 1]? = some (.cells #[.slice A3 b.globals.length n3, .slice A4 b.sections.length n4] 25 (0, 0)) := by
    subst hW0
    have := heap_alloc_new (w.alloc (Obj.cells #[.slice A1 a.globals.length n1, .slice A2 a.sections.length n2] 25)) (Obj.cells #[.slice A3 b.globals.length n3, .slice A4 b.sections.length n4] 25)
    exact blk_alloc (blk_alloc (by simpa using this) _) _
  have hQ : W0.heap[w.heap.size + 1 + 1]? = some (.cells #[.slice none 0 0, .slice none 0 0] 25 (0, 0)) := by
    subst hW0
    have := heap_alloc_new ((w.alloc (Obj.cells #[.slice A1 a.globals.length n1, .slice A2 a.sections.length n2] 25)).alloc (Obj.cells #[.slice A3 b.globals.length n3, .slice A4 b.sections.length n4] 25)) (Obj.cells #[.slice none 0 0, .slice none 0 0] 25)
    exact blk_alloc (by simpa using this) _
  have hF : W0.heap[w.heap.size + 1 + 1 + 1]? = some (.cells #[.int .i64 0, .int .i64 0] 27 (0, 0)) := by
    subst hW0
    have := heap_alloc_new (((w.alloc (Obj.cells #[.slice A1 a.globals.length n1, .slice A2 a.sections.length n2] 25)).alloc (Obj.cells #[.slice A3 b.globals.length n3, .slice A4 b.sections.length n4] 25)).alloc (Obj.cells #[.slice none 0 0, .slice none 0 0] 25)) (Obj.cells #[.int .i64 0, .int .i64 0] 27)
    simpa using this
  have HK : Hid (∀ W, Below (w.heap.size + 4) W0 W → (W.heap[w.heap.size]? = some (.cells #[.slice A1 a.globals.length n1, .slice A2 a.sections.length n2] 25 (0, 0)) ∧ W.heap[w.heap.size + 1]? = some (.cells #[.slice A3 b.globals.length n3, .slice A4 b.sections.length n4] 25 (0, 0)) ∧ W.heap[w.heap.size + 1 + 1]? = some (.cells #[.slice none 0 0, .slice none 0 0] 25 (0, 0)) ∧ W.heap[w.heap.size + 1 + 1 + 1]? = some (.cells #[.int .i64 0, .int .i64 0] 27 (0, 0))) ∧ Below w.heap.size w W ∧ w.heap.size + 4 ≤ W.heap.size) := Lib.hid fun W h =>
    ⟨⟨(h.block _ (by omega)).trans hA, (h.block _ (by omega)).trans hB, (h.block _ (by omega)).trans hQ, (h.block _ (by omega)).trans hF⟩, hb0.trans (h.mono (by omega)), by have := h.size; omega⟩
  have HL : Hid (∀ W, Below w.heap.size w W → rpGlobal.SL W W.heap.size a.globals (.slice A1 a.globals.length n1) ∧ rpSection.SL W W.heap.size a.sections (.slice A2 a.sections.length n2) ∧ rpGlobal.SL W W.heap.size b.globals (.slice A3 b.globals.length n3) ∧ rpSection.SL W W.heap.size b.sections (.slice A4 b.sections.length n4)) := Lib.hid fun W h =>
    ⟨H1.out.up h h.size, H2.out.up h h.size, H3.out.up h h.size, H4.out.up h h.size⟩
  have HX : Hid (∀ (c x : Int), joinF a b = (c, x) → c ≠ 0 → ∀ w', Below w.heap.size w w' → R (.returned (.tuple #[.agg #[.slice none 0 0, .slice none 0 0], .agg #[.int .i64 c, .int .i64 x]])) w') := Lib.hid fun c x hj hc w' hb => by
    have h := HR.out w' (.slice none 0 0) (.slice none 0 0) hb
    rw [joinO_fault hj hc, hj] at h
    exact h (Rp.SL.nil _ _ _) (Rp.SL.nil _ _ _)
  have HW := Lib.hid hW0.symm
  have hk0 := HK.out W0 (Below.refl _ _)
  obtain ⟨⟨ka, kb, kq, kf⟩, kbel, kz⟩ := hk0
  obtain ⟨p0, p1, _, _⟩ := cells_of_block ka
  obtain ⟨p2, p3, _, _⟩ := cells_of_block kb
  have hl0 : w.heap.size < W0.heap.size := by omega
  have hl1 : w.heap.size + 1 < W0.heap.size := by omega
  clear hR h1 h2 h3 h4 hA hB hQ hF hW0 hb0 hz0 ka kb kq kf kbel
  go_enter Tryd.func20, Tryd.ntmps20
  go_upto_region 1 with fail
  rw [HW.out]
  go_wp2_with fail
  refine ObjectCheck_calls a _ _ _ (HL.out _ (HK.out _ (Below.refl _ _)).2.1).1 (HL.out _ (HK.out _ (Below.refl _ _)).2.1).2.1 _ (fun w1 hb1 => ?_)
  have hz1 := (HK.out _ (Below.refl _ _)).2.2
  have hB1 : Below (w.heap.size + 4) W0 w1 := (Below.refl _ _).trans (hb1.mono (by omega))
  obtain ⟨⟨ka, kb, kq, kf⟩, hbw1, kz1⟩ := HK.out _ hB1
  obtain ⟨p0, p1, _, _⟩ := cells_of_block ka
  obtain ⟨p2, p3, _, _⟩ := cells_of_block kb
  obtain ⟨c0, c1, z0, z1⟩ := cells_of_block kq
  obtain ⟨d0, d1, y0, y1⟩ := cells_of_block kf
  have hq0 : w.heap.size < w1.heap.size := by omega
  have hqq : w.heap.size + 1 < w1.heap.size := by omega
  have hq1 : w.heap.size + 1 + 1 < w1.heap.size := by omega
  have hq2 : w.heap.size + 1 + 1 + 1 < w1.heap.size := by omega
  have KQ := Lib.hid kq
  have KF := Lib.hid kf
  have Hbw1 := Lib.hid hbw1
  have HB1 := Lib.hid (hB1.alloc (by omega) (Obj.cells #[.int .i64 (objFault a).1, .int .i64 (objFault a).2] 27))
  have HB10 := Lib.hid hB1
  have hfz := objFault_fst a
  obtain ⟨⟨c, x⟩, hFa⟩ : ∃ F, F = objFault a := ⟨_, rfl⟩
  rw [← hFa] at hfz HB1 ⊢
  simp only [] at hfz HB1 ⊢
  have Hfaa := Lib.hid hFa.symm
  clear hb1 hB1 hbw1 ka kb kq kf hFa
  by_cases hc : c = 0
  rotate_left
  · have hq : (c != 0) = true := by simp [hc]
    have Hret := Lib.hid (HX.out c x (by rw [joinF_a (by rw [Hfaa.out]; exact hc), Hfaa.out]) hc)
    clear hfz hc
    go_wp2
    go_region
    all_goals
      go_wp2
      refine bodyPost_ret (v := .tuple #[.agg #[.slice none 0 0, .slice none 0 0], .agg #[.int .i64 c, .int .i64 x]]) (res_ObjF (by rfl) (by rfl) (by rfl) (by repeat (first | with_reducible exact KQ.out | with_reducible refine blk_drew ?_ | with_reducible refine blk_drewN ?_ _ | with_reducible refine blk_alloc ?_ _ | with_reducible apply blk_set1 | with_reducible apply blk_set0 | with_reducible refine blk_other ?_ (by first | (simp; done) | omega | (simp; omega)) _)) (by repeat (first | with_reducible exact KF.out | with_reducible refine blk_drew ?_ | with_reducible refine blk_drewN ?_ _ | with_reducible refine blk_alloc ?_ _ | with_reducible apply blk_set1 | with_reducible apply blk_set0 | with_reducible refine blk_other ?_ (by first | (simp; done) | omega | (simp; omega)) _))) rfl ?_
      refine Hret.out _ ?_
      have hb := Hbw1.out
      exact (by repeat (first | exact Below.refl _ _ | assumption | refine below_drewN ?_ _ | refine Below.drew ?_ | refine Below.setCell ?_ (by first | omega | (simp; done) | (simp; omega)) _ | refine Below.alloc ?_ (by first | omega | (simp; done) | (simp; omega)) _ | refine below_step (by assumption) ?_ (by first | omega | (simp; done) | (simp; omega))))
  have hca := hfz hc
  simp only [Prod.mk.injEq] at hca
  obtain ⟨rfl, rfl⟩ := hca
  clear hfz hc
  go_wp2_with fail
  refine ObjectCheck_calls b _ _ _ (HL.out _ (HK.out _ (HB1.out)).2.1).2.2.1 (HL.out _ (HK.out _ (HB1.out)).2.1).2.2.2 _ (fun w2 hb2 => ?_)
  have hz2 := (HK.out _ (HB1.out)).2.2
  have hB2 : Below (w.heap.size + 4) W0 w2 := (HB1.out).trans (hb2.mono (by omega))
  obtain ⟨⟨ka, kb, kq, kf⟩, hbw2, kz2⟩ := HK.out _ hB2
  obtain ⟨p0, p1, _, _⟩ := cells_of_block ka
  obtain ⟨p2, p3, _, _⟩ := cells_of_block kb
  obtain ⟨c0, c1, z0, z1⟩ := cells_of_block kq
  obtain ⟨d0, d1, y0, y1⟩ := cells_of_block kf
  have hq0 : w.heap.size < w2.heap.size := by omega
  have hqq : w.heap.size + 1 < w2.heap.size := by omega
  have hq1 : w.heap.size + 1 + 1 < w2.heap.size := by omega
  have hq2 : w.heap.size + 1 + 1 + 1 < w2.heap.size := by omega
  have KQ := Lib.hid kq
  have KF := Lib.hid kf
  have Hbw2 := Lib.hid hbw2
  have HB2 := Lib.hid (hB2.alloc (by omega) (Obj.cells #[.int .i64 (objFault b).1, .int .i64 (objFault b).2] 27))
  have HB20 := Lib.hid hB2
  have hfz := objFault_fst b
  obtain ⟨⟨c, x⟩, hFa⟩ : ∃ F, F = objFault b := ⟨_, rfl⟩
  rw [← hFa] at hfz HB2 ⊢
  simp only [] at hfz HB2 ⊢
  have Hfab := Lib.hid hFa.symm
  clear hb2 hB2 hbw2 ka kb kq kf hFa
  by_cases hc : c = 0
  rotate_left
  · have hq : (c != 0) = true := by simp [hc]
    have Hret := Lib.hid (HX.out c x (by rw [joinF_b Hfaa.out (by rw [Hfab.out]; exact hc), Hfab.out]) hc)
    clear hfz hc
    go_wp2
    go_region
    all_goals
      go_wp2
      refine bodyPost_ret (v := .tuple #[.agg #[.slice none 0 0, .slice none 0 0], .agg #[.int .i64 c, .int .i64 x]]) (res_ObjF (by rfl) (by rfl) (by rfl) (by repeat (first | with_reducible exact KQ.out | with_reducible refine blk_drew ?_ | with_reducible refine blk_drewN ?_ _ | with_reducible refine blk_alloc ?_ _ | with_reducible apply blk_set1 | with_reducible apply blk_set0 | with_reducible refine blk_other ?_ (by first | (simp; done) | omega | (simp; omega)) _)) (by repeat (first | with_reducible exact KF.out | with_reducible refine blk_drew ?_ | with_reducible refine blk_drewN ?_ _ | with_reducible refine blk_alloc ?_ _ | with_reducible apply blk_set1 | with_reducible apply blk_set0 | with_reducible refine blk_other ?_ (by first | (simp; done) | omega | (simp; omega)) _))) rfl ?_
      refine Hret.out _ ?_
      have hb := Hbw2.out
      exact (by repeat (first | exact Below.refl _ _ | assumption | refine below_drewN ?_ _ | refine Below.drew ?_ | refine Below.setCell ?_ (by first | omega | (simp; done) | (simp; omega)) _ | refine Below.alloc ?_ (by first | omega | (simp; done) | (simp; omega)) _ | refine below_step (by assumption) ?_ (by first | omega | (simp; done) | (simp; omega))))
  have hca := hfz hc
  simp only [Prod.mk.injEq] at hca
  obtain ⟨rfl, rfl⟩ := hca
  clear hfz hc
  go_wp2_with fail
  refine SameGlobals_calls a.globals b.globals _ _ _ (HL.out _ (HK.out _ HB2.out).2.1).1 (HL.out _ (HK.out _ HB2.out).2.1).2.2.1 _ (fun w3 hb3 => ?_)
  have hz3 := (HK.out _ HB2.out).2.2
  have Hb3 := Lib.hid (HB2.out.trans (hb3.mono (by omega)))
  have hz33 := (HK.out _ Hb3.out).2.2
  obtain ⟨⟨ka, kb, _, _⟩, hbw3, _⟩ := HK.out _ Hb3.out
  obtain ⟨p0, p1, _, _⟩ := cells_of_block ka
  obtain ⟨p2, p3, _, _⟩ := cells_of_block kb
  have hw0 : w.heap.size < w3.heap.size := by omega
  have hw1 : w.heap.size + 1 < w3.heap.size := by omega
  obtain ⟨gq, hgq⟩ : ∃ q, q = sameG a.globals b.globals := ⟨_, rfl⟩
  rw [← hgq]
  have Hgq := Lib.hid hgq.symm
  clear hb3 hgq ka kb hbw3 c0 c1 z0 z1 d0 d1 y0 y1
  cases gq
  · have Hret := Lib.hid (HX.out 5 0 (joinF_globals Hfaa.out Hfab.out Hgq.out) (by decide))
    obtain ⟨⟨ka, kb, kq, kf⟩, hbw9, kz9⟩ := HK.out _ (Hb3.out)
    obtain ⟨c0, c1, z0, z1⟩ := cells_of_block kq
    obtain ⟨d0, d1, y0, y1⟩ := cells_of_block kf
    have hq1 : w.heap.size + 1 + 1 < (w3).heap.size := by omega
    have hq2 : w.heap.size + 1 + 1 + 1 < (w3).heap.size := by omega
    have KQ := Lib.hid kq
    have KF := Lib.hid kf
    have Hbw9 := Lib.hid hbw9
    clear hbw9 ka kb kq kf
    go_wp2
    refine bodyPost_ret (v := .tuple #[.agg #[.slice none 0 0, .slice none 0 0], .agg #[.int .i64 5, .int .i64 0]]) (res_ObjF (by rfl) (by rfl) (by rfl) (by repeat (first | with_reducible exact KQ.out | with_reducible refine blk_drew ?_ | with_reducible refine blk_drewN ?_ _ | with_reducible refine blk_alloc ?_ _ | with_reducible apply blk_set1 | with_reducible apply blk_set0 | with_reducible refine blk_other ?_ (by first | (simp; done) | omega | (simp; omega)) _)) (by repeat (first | with_reducible exact KF.out | with_reducible refine blk_drew ?_ | with_reducible refine blk_drewN ?_ _ | with_reducible refine blk_alloc ?_ _ | with_reducible apply blk_set1 | with_reducible apply blk_set0 | with_reducible refine blk_other ?_ (by first | (simp; done) | omega | (simp; omega)) _))) rfl ?_
    refine Hret.out _ ?_
    have hb := Hbw9.out
    exact (by repeat (first | exact Below.refl _ _ | assumption | refine below_drewN ?_ _ | refine Below.drew ?_ | refine Below.setCell ?_ (by first | omega | (simp; done) | (simp; omega)) _ | refine Below.alloc ?_ (by first | omega | (simp; done) | (simp; omega)) _ | refine below_step (by assumption) ?_ (by first | omega | (simp; done) | (simp; omega))))
  · go_wp2_with fail
    go_loopg [8] b.sections.length (fun gh i wr2 => ∃ k : Nat, k ≤ b.sections.length ∧ gh = b.sections.length - k ∧ i = .int .i64 (k : Int) ∧ Below (w.heap.size + 4) W0 wr2 ∧ ∀ j y, j < k → b.sections[j]? = some y → hasS a.sections y.name = false)
    case atStart => exact ⟨0, Nat.zero_le _, rfl, rfl, Hb3.out, fun j y h => by omega⟩
    case round =>
      rename World => wk
      obtain ⟨k, hk, rfl, rfl, hbel, hno⟩ := hrel
      have Hbel := Lib.hid hbel
      have Hno := Lib.hid hno
      obtain ⟨⟨ka, kb, kq, kf⟩, hbw, kz⟩ := HK.out _ hbel
      obtain ⟨e0, e1, _, _⟩ := cells_of_block ka
      obtain ⟨e2, e3, _, _⟩ := cells_of_block kb
      have i1 : (0 : Int) ≤ (k : Int) := Int.natCast_nonneg _
      have hw0 : w.heap.size < wk.heap.size := by omega
      have hw1 : w.heap.size + 1 < wk.heap.size := by omega
      by_cases hlt : k < b.sections.length
      · obtain ⟨bb, off, s, v5, v6, hA4, hbb, e, hs5, hs6, q0, q1, q2⟩ := H4.out.section_at hlt
        subst hA4
        have i2 : (k : Int) < (b.sections.length : Int) := by omega
        have E := Lib.hid e
        have hq0k : wk.cell? ⟨bb, off + k * 3, none⟩ = some (.string s.name) := (hbw.cell (p := ⟨bb, off + k * 3, none⟩) hbb).trans q0
        have HS3 : Hid (∀ W, Below (w.heap.size + 4) W0 W → (fun W : World => W.cell? ⟨w.heap.size, 0, none⟩ = some (.slice A1 a.globals.length n1) ∧ W.cell? ⟨w.heap.size, 1, none⟩ = some (.slice A2 a.sections.length n2) ∧ W.cell? ⟨w.heap.size + 1, 1, none⟩ = some (.slice (some ⟨bb, off, none⟩) b.sections.length n4) ∧ W.cell? ⟨bb, off + k * 3, none⟩ = some (.string s.name)) W) := Lib.hid fun W h => by
          obtain ⟨⟨q1, q2, _, _⟩, q5, _⟩ := HK.out W h
          obtain ⟨e0, e1, _, _⟩ := cells_of_block q1
          obtain ⟨e2, e3, _, _⟩ := cells_of_block q2
          exact ⟨e0, e1, e3, (q5.cell (p := ⟨bb, off + k * 3, none⟩) hbb).trans q0⟩
        have hS0 := HS3.out wk Hbel.out
        have hS1 := HS3.out wk.drew Hbel.out.drew
        have Hsa : Hid (∀ W, Below (w.heap.size + 4) W0 W → rpSection.SL W W.heap.size a.sections (.slice A2 a.sections.length n2)) := Lib.hid fun W h => (HL.out W (HK.out W h).2.1).2.1
        clear hs5 hs6 q0 q1 q2 e hbel hbw ka kb kq kf hno
        go_upto_region 12 with fail
        go_region_held3 (fun W : World => W.cell? ⟨w.heap.size, 0, none⟩ = some (.slice A1 a.globals.length n1) ∧ W.cell? ⟨w.heap.size, 1, none⟩ = some (.slice A2 a.sections.length n2) ∧ W.cell? ⟨w.heap.size + 1, 1, none⟩ = some (.slice (some ⟨bb, off, none⟩) b.sections.length n4) ∧ W.cell? ⟨bb, off + k * 3, none⟩ = some (.string s.name)) (first | with_reducible exact hS0 | with_reducible exact hS1 | with_reducible exact hS5) (first | (go_at_call 38; refine HasSection_calls a.sections _ _ s.name _ (Hsa.out _ (by first | exact Hbel.out | exact Hbel.out.drew)) _ ?_; intro w5 r hfst hb5; have hB5 : Below (w.heap.size + 4) W0 w5 := (by first | exact Hbel.out.trans (hb5.mono (show w.heap.size + 4 ≤ wk.heap.size by omega)) | exact Hbel.out.drew.trans (hb5.mono (show w.heap.size + 4 ≤ wk.heap.size by omega))); have hS5 := HS3.out w5 hB5; have HB5 := Lib.hid hB5; have Hhas := Lib.hid hfst.has; have hz5 := (HK.out _ hB5).2.2; clear hb5 hB5 hfst))
        all_goals
          cases hhq : hasS a.sections s.name
          · have hst := Lib.hid (clash_step Hno.out E.out hhq)
            have ir : ¬ (0 : Int) ≤ r := by have := Hhas.out; rw [hhq] at this; simpa using this
            clear hhq
            go_wp2
            go_roundg (b.sections.length - (k + 1))
            case measure => omega
            case rel => exact ⟨k + 1, hlt, rfl, by go_num, HB5.out, hst.out⟩
          · have ir : (0 : Int) ≤ r := by have := Hhas.out; rw [hhq] at this; simpa using this
            have Hret := Lib.hid (HX.out 7 (k : Int) (joinF_clash Hfaa.out Hfab.out Hgq.out (clash_some Hno.out E.out hhq)) (by decide))
            clear hhq
            obtain ⟨⟨ka, kb, kq, kf⟩, hbw9, kz9⟩ := HK.out _ (HB5.out)
            obtain ⟨c0, c1, z0, z1⟩ := cells_of_block kq
            obtain ⟨d0, d1, y0, y1⟩ := cells_of_block kf
            have hq1 : w.heap.size + 1 + 1 < (w5).heap.size := by omega
            have hq2 : w.heap.size + 1 + 1 + 1 < (w5).heap.size := by omega
            have KQ := Lib.hid kq
            have KF := Lib.hid kf
            have Hbw9 := Lib.hid hbw9
            clear hbw9 ka kb kq kf
            go_wp2
            refine bodyPost_ret (v := .tuple #[.agg #[.slice none 0 0, .slice none 0 0], .agg #[.int .i64 7, .int .i64 k]]) (res_ObjF (by rfl) (by rfl) (by rfl) (by repeat (first | with_reducible exact KQ.out | with_reducible refine blk_drew ?_ | with_reducible refine blk_drewN ?_ _ | with_reducible refine blk_alloc ?_ _ | with_reducible apply blk_set1 | with_reducible apply blk_set0 | with_reducible refine blk_other ?_ (by first | (simp; done) | omega | (simp; omega)) _)) (by repeat (first | with_reducible exact KF.out | with_reducible refine blk_drew ?_ | with_reducible refine blk_drewN ?_ _ | with_reducible refine blk_alloc ?_ _ | with_reducible apply blk_set1 | with_reducible apply blk_set0 | with_reducible refine blk_other ?_ (by first | (simp; done) | omega | (simp; omega)) _))) rfl ?_
            refine Hret.out _ ?_
            have hb := Hbw9.out
            exact (by repeat (first | exact Below.refl _ _ | assumption | refine below_drewN ?_ _ | refine Below.drew ?_ | refine Below.setCell ?_ (by first | omega | (simp; done) | (simp; omega)) _ | refine Below.alloc ?_ (by first | omega | (simp; done) | (simp; omega)) _ | refine below_step (by assumption) ?_ (by first | omega | (simp; done) | (simp; omega))))
      · obtain rfl : k = b.sections.length := by omega
        have Hcl := Lib.hid (clash_none Hno.out)
        have hfew1 := ((objOk_iff a).1 Hfaa.out).few
        have hfew2 := ((objOk_iff b).1 Hfab.out).few
        have hsum : IntKind.i64.wrap ((a.sections.length : Int) + (b.sections.length : Int)) = (a.sections.length : Int) + (b.sections.length : Int) := IntWalk.i64_in _ (by omega)
        by_cases hmany : 40 < a.sections.length + b.sections.length
        · have Hret := Lib.hid (HX.out 2 0 (joinF_many Hfaa.out Hfab.out Hgq.out Hcl.out hmany) (by decide))
          have i3 : (40 : Int) < (a.sections.length : Int) + (b.sections.length : Int) := by omega
          clear ka kb kq kf hbel hbw hno hmany
          obtain ⟨⟨ka, kb, kq, kf⟩, hbw9, kz9⟩ := HK.out _ (Hbel.out)
          obtain ⟨c0, c1, z0, z1⟩ := cells_of_block kq
          obtain ⟨d0, d1, y0, y1⟩ := cells_of_block kf
          have hq1 : w.heap.size + 1 + 1 < (wk).heap.size := by omega
          have hq2 : w.heap.size + 1 + 1 + 1 < (wk).heap.size := by omega
          have KQ := Lib.hid kq
          have KF := Lib.hid kf
          have Hbw9 := Lib.hid hbw9
          clear hbw9 ka kb kq kf
          go_wp2
          refine bodyPost_ret (v := .tuple #[.agg #[.slice none 0 0, .slice none 0 0], .agg #[.int .i64 2, .int .i64 0]]) (res_ObjF (by rfl) (by rfl) (by rfl) (by repeat (first | with_reducible exact KQ.out | with_reducible refine blk_drew ?_ | with_reducible refine blk_drewN ?_ _ | with_reducible refine blk_alloc ?_ _ | with_reducible apply blk_set1 | with_reducible apply blk_set0 | with_reducible refine blk_other ?_ (by first | (simp; done) | omega | (simp; omega)) _)) (by repeat (first | with_reducible exact KF.out | with_reducible refine blk_drew ?_ | with_reducible refine blk_drewN ?_ _ | with_reducible refine blk_alloc ?_ _ | with_reducible apply blk_set1 | with_reducible apply blk_set0 | with_reducible refine blk_other ?_ (by first | (simp; done) | omega | (simp; omega)) _))) rfl ?_
          refine Hret.out _ ?_
          have hb := Hbw9.out
          exact (by repeat (first | exact Below.refl _ _ | assumption | refine below_drewN ?_ _ | refine Below.drew ?_ | refine Below.setCell ?_ (by first | omega | (simp; done) | (simp; omega)) _ | refine Below.alloc ?_ (by first | omega | (simp; done) | (simp; omega)) _ | refine below_step (by assumption) ?_ (by first | omega | (simp; done) | (simp; omega))))
        · have i3 : ¬ (40 : Int) < (a.sections.length : Int) + (b.sections.length : Int) := by omega
          have hgood := joinF_good Hfaa.out Hfab.out Hgq.out Hcl.out hmany
          have Hret : Hid (∀ w' u1 u2, Below w.heap.size w w' → rpGlobal.SL w' w'.heap.size a.globals u1 → rpSection.SL w' w'.heap.size (a.sections ++ b.sections) u2 → R (.returned (.tuple #[.agg #[u1, u2], .agg #[.int .i64 0, .int .i64 0]])) w') := Lib.hid (by
            have h := HR.out
            rw [joinO_good hgood, hgood] at h
            exact h)
          have HT : Hid (∀ W : World, (∀ j, j < w.heap.size + 4 → W.heap[j]? = wk.heap[j]?) → (fun W : World => W.cell? ⟨w.heap.size, 0, none⟩ = some (.slice A1 a.globals.length n1) ∧ W.cell? ⟨w.heap.size, 1, none⟩ = some (.slice A2 a.sections.length n2) ∧ W.cell? ⟨w.heap.size + 1, 1, none⟩ = some (.slice A4 b.sections.length n4)) W ∧ W.heap[w.heap.size + 1 + 1]? = some (.cells #[.slice none 0 0, .slice none 0 0] 25 (0, 0)) ∧ W.heap[w.heap.size + 1 + 1 + 1]? = some (.cells #[.int .i64 0, .int .i64 0] 27 (0, 0))) := Lib.hid fun W h =>
            ⟨⟨(World.cell?_of_block (h _ (by show w.heap.size < _; omega))).trans e0, (World.cell?_of_block (h _ (by show w.heap.size < _; omega))).trans e1, (World.cell?_of_block (h _ (by show w.heap.size + 1 < _; omega))).trans e3⟩, (h _ (by omega)).trans kq, (h _ (by omega)).trans kf⟩
          have HSt : Hid (∀ (W : World) (p : Addr) u, w.heap.size + 1 < p.block → (fun W : World => W.cell? ⟨w.heap.size, 0, none⟩ = some (.slice A1 a.globals.length n1) ∧ W.cell? ⟨w.heap.size, 1, none⟩ = some (.slice A2 a.sections.length n2) ∧ W.cell? ⟨w.heap.size + 1, 1, none⟩ = some (.slice A4 b.sections.length n4)) W → (fun W : World => W.cell? ⟨w.heap.size, 0, none⟩ = some (.slice A1 a.globals.length n1) ∧ W.cell? ⟨w.heap.size, 1, none⟩ = some (.slice A2 a.sections.length n2) ∧ W.cell? ⟨w.heap.size + 1, 1, none⟩ = some (.slice A4 b.sections.length n4)) (W.setCell p u)) := Lib.hid fun W p u hp h => ⟨(World.cell?_of_block (Below.heap_setCell _ _ _ _ (by show w.heap.size ≠ _; omega))).trans h.1, (World.cell?_of_block (Below.heap_setCell _ _ _ _ (by show w.heap.size ≠ _; omega))).trans h.2.1, (World.cell?_of_block (Below.heap_setCell _ _ _ _ (by show w.heap.size + 1 ≠ _; omega))).trans h.2.2⟩
          have hS0 := (HT.out wk (fun _ _ => rfl)).1
          have hS1 := (HT.out wk.drew (fun _ _ => rfl)).1
          have Hbw := Lib.hid hbw
          have hsum2 : a.sections.length + b.sections.length ≤ 1048576 := by omega
          have hsum1 : ([] : List Section).length + a.sections.length ≤ 1048576 := by simp; omega
          obtain ⟨N5, hN5⟩ : ∃ N, N = (a.sections ++ b.sections).length := ⟨_, rfl⟩
          have HN5 := Lib.hid hN5
          have hbase : w.heap.size ≤ wk.heap.size := by omega
          clear hgood hmany hN5 ka kb kq kf hbel hbw hno p0 p1 p2 p3 e0 e1 e2 e3
          go_upto_region 16 with fail
          go_region_held3 (fun W : World => W.cell? ⟨w.heap.size, 0, none⟩ = some (.slice A1 a.globals.length n1) ∧ W.cell? ⟨w.heap.size, 1, none⟩ = some (.slice A2 a.sections.length n2) ∧ W.cell? ⟨w.heap.size + 1, 1, none⟩ = some (.slice A4 b.sections.length n4)) (first | with_reducible exact hS0 | with_reducible exact hS1 | with_reducible exact hS5 | with_reducible exact hS6 | with_reducible exact hS7 _ _ | with_reducible exact hS8 _ _ _ _) (first
            | (refine step_app_cat _ rfl (.const (.slice none 0 0)) (.tmp 63) _ rfl Tryd.underlying23 (base := wk.heap.size) (w0 := w) (v := .slice none 0 0) (u := .slice A2 a.sections.length n2) (xs := []) (ys := a.sections) rfl (Cat.nil _ _ hbase) (by simp [Act.eval, Act.put]) H2.out (by first | exact Hbw.out | exact Hbw.out.drew) (by first | exact Nat.le_refl wk.heap.size | (simp; done)) hsum1 ?_; intro v5 w5 hc5 hb5 hz5 hk5; rw [List.nil_append] at hc5; obtain ⟨A5, c5, rfl, hcc5⟩ := hc5.slice; have hT5 : ∀ j, j < w.heap.size + 4 → w5.heap[j]? = wk.heap[j]? := (fun j hj => hk5 j (show j < wk.heap.size by omega) (by simp [Value.ownBlock])); have hS5 := (HT.out w5 hT5).1; have Hc5 := Lib.hid hc5; have HT5 := Lib.hid hT5; have Hb5 := Lib.hid hb5; have hz5' : wk.heap.size ≤ w5.heap.size := (hz5); clear hc5 hb5 hz5 hk5 hT5)
            | (refine step_app_cat _ rfl (.tmp 64) (.tmp 66) _ rfl Tryd.underlying23 (base := wk.heap.size) (w0 := w) (v := .slice A5 a.sections.length c5) (u := .slice A4 b.sections.length n4) (xs := a.sections) (ys := b.sections) (by simp [Act.eval, Act.put]) Hc5.out (by simp [Act.eval, Act.put]) H4.out Hb5.out hz5' hsum2 ?_; intro v6 w6 hc6 hb6 hz6 hk6; obtain ⟨A6, c6, rfl, hcc6⟩ := hc6.slice; rw [← HN5.out] at hc6 ⊢; have hT6 : ∀ j, j < w.heap.size + 4 → w6.heap[j]? = wk.heap[j]? := (fun j hj => (hk6 j (show j < w5.heap.size by omega) (fun e => by have := (Hc5.out.lt _ e).1; omega)).trans (HT5.out j hj)); obtain ⟨hS6, kq6, kf6⟩ := HT.out w6 hT6; obtain ⟨c0, c1, z0, z1⟩ := cells_of_block kq6; obtain ⟨d0, d1, y0, y1⟩ := cells_of_block kf6; have hS7 : ∀ x y, (fun W : World => W.cell? ⟨w.heap.size, 0, none⟩ = some (.slice A1 a.globals.length n1) ∧ W.cell? ⟨w.heap.size, 1, none⟩ = some (.slice A2 a.sections.length n2) ∧ W.cell? ⟨w.heap.size + 1, 1, none⟩ = some (.slice A4 b.sections.length n4)) ((w6.setCell ⟨w.heap.size + 1 + 1, 0, none⟩ x).setCell ⟨w.heap.size + 1 + 1, 1, none⟩ y) := (fun x y => HSt.out _ ⟨w.heap.size + 1 + 1, 1, none⟩ _ (Nat.lt_succ_self _) (HSt.out _ ⟨w.heap.size + 1 + 1, 0, none⟩ _ (Nat.lt_succ_self _) hS6)); have hS8 : ∀ x y z u, (fun W : World => W.cell? ⟨w.heap.size, 0, none⟩ = some (.slice A1 a.globals.length n1) ∧ W.cell? ⟨w.heap.size, 1, none⟩ = some (.slice A2 a.sections.length n2) ∧ W.cell? ⟨w.heap.size + 1, 1, none⟩ = some (.slice A4 b.sections.length n4)) ((((w6.setCell ⟨w.heap.size + 1 + 1, 0, none⟩ x).setCell ⟨w.heap.size + 1 + 1, 1, none⟩ y).setCell ⟨w.heap.size + 1 + 1 + 1, 0, none⟩ z).setCell ⟨w.heap.size + 1 + 1 + 1, 1, none⟩ u) := (fun x y z u => HSt.out _ ⟨w.heap.size + 1 + 1 + 1, 1, none⟩ _ (by show _ < w.heap.size + 1 + 1 + 1; omega) (HSt.out _ ⟨w.heap.size + 1 + 1 + 1, 0, none⟩ _ (by show _ < w.heap.size + 1 + 1 + 1; omega) (hS7 x y))); have KQ := Lib.hid kq6; have KF := Lib.hid kf6; have Hc6 := Lib.hid hc6; have Hb6 := Lib.hid hb6; have hq1 : w.heap.size + 1 + 1 < w6.heap.size := (by omega); have hq2 : w.heap.size + 1 + 1 + 1 < w6.heap.size := (by omega); clear hc6 hb6 hk6 hT6 kq6 kf6))
          all_goals
            go_wp2
            refine bodyPost_ret (v := .tuple #[.agg #[.slice A1 a.globals.length n1, .slice A6 N5 c6], .agg #[.int .i64 0, .int .i64 0]]) (res_ObjF (by rfl) (by rfl) (by rfl) (by repeat (first | with_reducible exact KQ.out | with_reducible refine blk_drew ?_ | with_reducible refine blk_drewN ?_ _ | with_reducible refine blk_alloc ?_ _ | with_reducible apply blk_set1 | with_reducible apply blk_set0 | with_reducible refine blk_other ?_ (by first | (simp; done) | omega | (simp; omega)) _)) (by repeat (first | with_reducible exact KF.out | with_reducible refine blk_drew ?_ | with_reducible refine blk_drewN ?_ _ | with_reducible refine blk_alloc ?_ _ | with_reducible apply blk_set1 | with_reducible apply blk_set0 | with_reducible refine blk_other ?_ (by first | (simp; done) | omega | (simp; omega)) _))) rfl ?_
            have hb := Hb6.out
            have hbf : Below w.heap.size w ((((w6.setCell ⟨w.heap.size + 1 + 1, 0, none⟩ (.slice A1 a.globals.length n1)).setCell ⟨w.heap.size + 1 + 1, 1, none⟩ (.slice A6 N5 c6)).setCell ⟨w.heap.size + 1 + 1 + 1, 0, none⟩ (.int .i64 0)).setCell ⟨w.heap.size + 1 + 1 + 1, 1, none⟩ (.int .i64 0)) := (by repeat (first | exact Below.refl _ _ | assumption | refine below_drewN ?_ _ | refine Below.drew ?_ | refine Below.setCell ?_ (by first | omega | (simp; done) | (simp; omega)) _ | refine Below.alloc ?_ (by first | omega | (simp; done) | (simp; omega)) _ | refine below_step (by assumption) ?_ (by first | omega | (simp; done) | (simp; omega))))
            refine Hret.out _ _ _ hbf (HL.out _ hbf).1 ?_
            exact ((((Hc6.out.set ⟨w.heap.size + 1 + 1, 0, none⟩ (by show w.heap.size + 1 + 1 < _; omega) _).set ⟨w.heap.size + 1 + 1, 1, none⟩ (by show w.heap.size + 1 + 1 < _; omega) _).set ⟨w.heap.size + 1 + 1 + 1, 0, none⟩ (by show w.heap.size + 1 + 1 + 1 < _; omega) _).set ⟨w.heap.size + 1 + 1 + 1, 1, none⟩ (by show w.heap.size + 1 + 1 + 1 < _; omega) _).SL hbf
end Go.Proofs.YtkodcoianakjoaaDoor
