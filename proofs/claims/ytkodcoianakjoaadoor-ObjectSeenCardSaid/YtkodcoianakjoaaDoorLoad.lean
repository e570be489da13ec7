/- object.Load: an object out of bytes, that may be. -/
import Derived.Test.YtkodcoianakjoaaDoorBase
import Derived.Test.YtkodcoianakjoaaDoorRows
import Derived.IntWalk
import Derived.Deep.LoopGhost
import Derived.Outline
import Derived.Test.YtkodcoianakjoaaDoorLoaded
import Derived.Test.YtkodcoianakjoaaDoorObjA
import Derived.Test.YtkodcoianakjoaaDoorCopyA
import Derived.Test.YtkodcoianakjoaaDoorPart1
namespace Go.Proofs.YtkodcoianakjoaaDoor
open Go.RowKit
set_option linter.unusedSimpArgs false
set_option linter.unusedVariables false

set_option maxRecDepth 100000 in
set_option maxHeartbeats 4000000 in
theorem Load_calls (v : Value) (bs : List UInt8) (w : World) (h : rpByte.SL w w.heap.size bs v) (hS : Shapes w) (R : Ending → World → Prop)
    (hR : ∀ w' u1 u2, Below w.heap.size w w' → rpGlobal.SLF w' w.heap.size w'.heap.size (loadO bs).globals u1 → rpSection.SLF w' w.heap.size w'.heap.size (loadO bs).sections u2 → R (.returned (.tuple #[.agg #[u1, u2], (.agg #[.int .i64 (loadF bs).1, .int .i64 (loadF bs).2])])) w') :
    Calls Tryd.prog 17 #[v] w R := by
  obtain ⟨A, c, rfl, hm, hcap, h⟩ := h.cases_
  have h0 := hS.1
  have HS := Lib.hid hS
  have HR := Lib.hid hR
  have H := Lib.hid h
  obtain ⟨W0, hW0⟩ : ∃ W0, W0 = (w.alloc (Obj.cells #[.slice none 0 0, .slice none 0 0] 25)).alloc (Obj.cells #[.int .i64 0, .int .i64 0] 27) := ⟨_, rfl⟩
  have hb0 : Below w.heap.size w W0 := by subst hW0; exact (by repeat (first | exact Below.refl _ _ | assumption | refine below_drewN ?_ _ | refine Below.drew ?_ | refine Below.setCell ?_ (by first | omega | (simp; done) | (simp; omega)) _ | refine Below.alloc ?_ (by first | omega | (simp; done) | (simp; omega)) _ | refine below_step (by assumption) ?_ (by first | omega | (simp; done) | (simp; omega))))
  have hz0 : W0.heap.size = w.heap.size + 2 := by subst hW0; simp
  have hQ : W0.heap[w.heap.size]? = some (.cells #[.slice none 0 0, .slice none 0 0] 25 (0, 0)) := by
    subst hW0
    exact blk_alloc (heap_alloc_new _ _) _
  have hF : W0.heap[w.heap.size + 1]? = some (.cells #[.int .i64 0, .int .i64 0] 27 (0, 0)) := by
    subst hW0
    have := heap_alloc_new (w.alloc (Obj.cells #[.slice none 0 0, .slice none 0 0] 25)) (Obj.cells #[.int .i64 0, .int .i64 0] 27)
    simpa using this
  have HQ := Lib.hid hQ
  have HF := Lib.hid hF
  have HW := Lib.hid hW0.symm
  have Hb0 := Lib.hid hb0
  have Hz0 := Lib.hid hz0
  obtain ⟨c0, c1, z0, z1⟩ := cells_of_block hQ
  obtain ⟨d0, d1, y0, y1⟩ := cells_of_block hF
  have hp1 : w.heap.size < W0.heap.size := by omega
  have hp2 : w.heap.size + 1 < W0.heap.size := by omega
  clear hR h hQ hF hW0 hb0 hz0 hS
  by_cases hmany : 90000 < bs.length
  · have hret := HR.out
    unfold loadO loadF at hret
    rw [if_pos hmany, if_pos hmany] at hret
    have Hret := Lib.hid hret
    have hmi : (90000 : Int) < (bs.length : Int) := by omega
    clear hret hmany
    go_enter Tryd.func17, Tryd.ntmps17
    go_wp2_with fail
    rw [HW.out]
    refine Fault_calls _ _ _ _ (fun w2 hb2 => ?_)
    have hQ2 := (hb2.block _ hp1).trans HQ.out
    have hF2 := (hb2.block _ hp2).trans HF.out
    obtain ⟨c0, c1, z0, z1⟩ := cells_of_block hQ2
    obtain ⟨d0, d1, y0, y1⟩ := cells_of_block hF2
    have hz2 := hb2.size
    have HQ2 := Lib.hid hQ2
    have HF2 := Lib.hid hF2
    have Hbw2 := Lib.hid (Hb0.out.trans (hb2.mono (by omega)))
    clear hb2 hQ2 hF2
    go_wp2
    refine bodyPost_ret (v := .tuple #[.agg #[.slice none 0 0, .slice none 0 0], .agg #[.int .i64 2, .int .i64 0]]) (res_ObjF (by rfl) (by rfl) (by rfl) (by repeat (first | with_reducible exact HQ2.out | with_reducible refine blk_drew ?_ | with_reducible refine blk_drewN ?_ _ | with_reducible refine blk_alloc ?_ _ | with_reducible apply blk_set1 | with_reducible apply blk_set0 | with_reducible refine blk_other ?_ (by first | (simp; done) | omega | (simp; omega)) _)) (by repeat (first | with_reducible exact HF2.out | with_reducible refine blk_drew ?_ | with_reducible refine blk_drewN ?_ _ | with_reducible refine blk_alloc ?_ _ | with_reducible apply blk_set1 | with_reducible apply blk_set0 | with_reducible refine blk_other ?_ (by first | (simp; done) | omega | (simp; omega)) _))) rfl ?_
    have hb := Hbw2.out
    refine Hret.out _ _ _ ?_ (Rp.SLF.nil _ _ _ _) (Rp.SLF.nil _ _ _ _)
    exact (by repeat (first | exact Below.refl _ _ | assumption | refine below_drewN ?_ _ | refine Below.drew ?_ | refine Below.setCell ?_ (by first | omega | (simp; done) | (simp; omega)) _ | refine Below.alloc ?_ (by first | omega | (simp; done) | (simp; omega)) _ | refine below_step (by assumption) ?_ (by first | omega | (simp; done) | (simp; omega))))
  · have hmi : ¬ (90000 : Int) < (bs.length : Int) := by omega
    have hret := HR.out
    unfold loadO loadF at hret
    rw [if_neg hmany, if_neg hmany] at hret
    have HRet := Lib.hid hret
    clear hret
    go_enter Tryd.func17, Tryd.ntmps17
    go_wp2_with fail
    rw [HW.out]
    refine Loaded_calls _ bs _ (H.out.up Hb0.out Hb0.out.size) (by omega) _ (fun o ho w1 u1 u2 hb1 hg1 hs1 => ?_) (fun hno w1 B1 m1 k1 B2 m2 k2 hb1 => ?_)
    rotate_left
    · have Hret := Lib.hid (by have h := HRet.out; rw [hno] at h; exact h)
      have hz1 := hb1.size
      have hQ1 := (hb1.block _ hp1).trans HQ.out
      have hF1 := (hb1.block _ hp2).trans HF.out
      obtain ⟨c0, c1, z0, z1⟩ := cells_of_block hQ1
      obtain ⟨d0, d1, y0, y1⟩ := cells_of_block hF1
      have HQ1 := Lib.hid hQ1
      have HF1 := Lib.hid hF1
      have Hb1 := Lib.hid (Hb0.out.trans (hb1.mono (by omega)))
      have hq1 : w.heap.size < w1.heap.size := by omega
      have hq2 : w.heap.size + 1 < w1.heap.size := by omega
      clear hb1 hQ1 hF1
      go_wp2_with fail
      refine Fault_calls _ _ _ _ (fun w2 hb2 => ?_)
      have hz2 := hb2.size
      simp at hz2
      have hQ2 := (hb2.block _ (by simp; omega)).trans (blk_alloc HQ1.out _)
      have hF2 := (hb2.block _ (by simp; omega)).trans (blk_alloc HF1.out _)
      obtain ⟨c0, c1, z0, z1⟩ := cells_of_block hQ2
      obtain ⟨d0, d1, y0, y1⟩ := cells_of_block hF2
      have HQ2 := Lib.hid hQ2
      have HF2 := Lib.hid hF2
      have Hbw2 := Lib.hid ((Hb1.out.alloc (by omega) _).trans (hb2.mono (by simp; omega)))
      clear hb2 hQ2 hF2
      go_wp2
      refine bodyPost_ret (v := .tuple #[.agg #[.slice none 0 0, .slice none 0 0], .agg #[.int .i64 1, .int .i64 0]]) (res_ObjF (by rfl) (by rfl) (by rfl) (by repeat (first | with_reducible exact HQ2.out | with_reducible refine blk_drew ?_ | with_reducible refine blk_drewN ?_ _ | with_reducible refine blk_alloc ?_ _ | with_reducible apply blk_set1 | with_reducible apply blk_set0 | with_reducible refine blk_other ?_ (by first | (simp; done) | omega | (simp; omega)) _)) (by repeat (first | with_reducible exact HF2.out | with_reducible refine blk_drew ?_ | with_reducible refine blk_drewN ?_ _ | with_reducible refine blk_alloc ?_ _ | with_reducible apply blk_set1 | with_reducible apply blk_set0 | with_reducible refine blk_other ?_ (by first | (simp; done) | omega | (simp; omega)) _))) rfl ?_
      have hb := Hbw2.out
      refine Hret.out _ _ _ ?_ (Rp.SLF.nil _ _ _ _) (Rp.SLF.nil _ _ _ _)
      exact (by repeat (first | exact Below.refl _ _ | assumption | refine below_drewN ?_ _ | refine Below.drew ?_ | refine Below.setCell ?_ (by first | omega | (simp; done) | (simp; omega)) _ | refine Below.alloc ?_ (by first | omega | (simp; done) | (simp; omega)) _ | refine below_step (by assumption) ?_ (by first | omega | (simp; done) | (simp; omega))))
    · have Hret := Lib.hid (by have h := HRet.out; rw [ho] at h; exact h)
      obtain ⟨B1, m1, rfl, _, _, hg1⟩ := hg1.cases_
      obtain ⟨B2, m2, rfl, _, _, hs1⟩ := hs1.cases_
      have hz1 := hb1.size
      have hQ1 := (hb1.block _ hp1).trans HQ.out
      have hF1 := (hb1.block _ hp2).trans HF.out
      obtain ⟨W1, hW1⟩ : ∃ W1, W1 = w1.alloc (Obj.cells #[.slice B1 o.globals.length m1, .slice B2 o.sections.length m2] 25) := ⟨_, rfl⟩
      have hzW1 : W1.heap.size = w1.heap.size + 1 := by subst hW1; simp
      have hQ2 : W1.heap[w.heap.size]? = some (.cells #[.slice none 0 0, .slice none 0 0] 25 (0, 0)) := by subst hW1; exact blk_alloc hQ1 _
      have hF2 : W1.heap[w.heap.size + 1]? = some (.cells #[.int .i64 0, .int .i64 0] 27 (0, 0)) := by subst hW1; exact blk_alloc hF1 _
      have hO2 : W1.heap[w1.heap.size]? = some (.cells #[.slice B1 o.globals.length m1, .slice B2 o.sections.length m2] 25 (0, 0)) := by subst hW1; exact heap_alloc_new _ _
      have hz0 := Hz0.out
      rw [hz0] at hg1 hs1 hb1
      have hg2 : rpGlobal.SLF W1 (w.heap.size + 2) w1.heap.size o.globals (.slice B1 o.globals.length m1) := by
        subst hW1
        exact hg1.keepB (w' := w1.alloc _) fun k _ hk => Below.heap_alloc _ _ _ hk
      have hs2 : rpSection.SLF W1 (w.heap.size + 2) w1.heap.size o.sections (.slice B2 o.sections.length m2) := by
        subst hW1
        exact hs1.keepB (w' := w1.alloc _) fun k _ hk => Below.heap_alloc _ _ _ hk
      have hbW1 : Below w.heap.size w W1 := by
        subst hW1
        exact (Hb0.out.trans (hb1.mono (by omega))).alloc (by omega) _
      obtain ⟨o0, o1, x0, x1⟩ := cells_of_block hO2
      have HQ2 := Lib.hid hQ2
      have HF2 := Lib.hid hF2
      have HO2 := Lib.hid hO2
      have Hg2 := Lib.hid hg2
      have Hs2 := Lib.hid hs2
      have HbW1 := Lib.hid hbW1
      have HW1 := Lib.hid hW1.symm
      have hlt1 : w1.heap.size < W1.heap.size := by omega
      clear hb1 hg1 hs1 hQ1 hF1 hQ2 hF2 hO2 hg2 hs2 hbW1 hW1 hz0
      go_wp2_with fail
      rw [HW1.out]
      refine objCheck_calls o _ _ _ (Hg2.out.SL.more (by omega)) (Hs2.out.SL.more (by omega)) (HS.out.up HbW1.out h0) _ (fun w2 hb2 => ?_)
      have hz2 := hb2.size
      have hQ3 := (hb2.block _ (by omega)).trans HQ2.out
      have hF3 := (hb2.block _ (by omega)).trans HF2.out
      have hO3 := (hb2.block _ (by omega)).trans HO2.out
      obtain ⟨o0, o1, x0, x1⟩ := cells_of_block hO3
      obtain ⟨c0, c1, z0, z1⟩ := cells_of_block hQ3
      obtain ⟨d0, d1, y0, y1⟩ := cells_of_block hF3
      have HQ3 := Lib.hid hQ3
      have HF3 := Lib.hid hF3
      have HO3 := Lib.hid hO3
      have Hg3 := Lib.hid (Hg2.out.keepB fun k _ hk => hb2.block k (by omega))
      have Hs3 := Lib.hid (Hs2.out.keepB fun k _ hk => hb2.block k (by omega))
      have Hb2 := Lib.hid (HbW1.out.trans (hb2.mono (by have := HbW1.out.size; omega)))
      have hl0 : w.heap.size < w2.heap.size := by omega
      have hl3 : w.heap.size + 1 < w2.heap.size := by omega
      have hl4 : w.heap.size < w1.heap.size := by omega
      have hl1 : w.heap.size + 1 < w1.heap.size := by omega
      have hl2 : w1.heap.size < w2.heap.size := by omega
      have hfz := objFault_fst o
      obtain ⟨⟨c, a⟩, hFa⟩ : ∃ F, F = objFault o := ⟨_, rfl⟩
      have HRt : Hid (∀ w' u1 u2, Below w.heap.size w w' → rpGlobal.SLF w' w.heap.size w'.heap.size (if c ≠ 0 then ⟨[], []⟩ else o).globals u1 → rpSection.SLF w' w.heap.size w'.heap.size (if c ≠ 0 then ⟨[], []⟩ else o).sections u2 → R (.returned (.tuple #[.agg #[u1, u2], .agg #[.int .i64 c, .int .i64 a]])) w') := Lib.hid (by
        have h := Hret.out
        simp only [← hFa] at h
        exact h)
      rw [← hFa] at hfz ⊢
      simp only [] at hfz ⊢
      clear hb2 hQ3 hF3 hO3 hFa Hret HRet
      by_cases hc : c = 0
      rotate_left
      · have hrt := Lib.hid (by have h := HRt.out; rw [if_pos hc] at h; exact h)
        have hq : ∀ w, (binOp .neq 27 (.agg #[.int .i64 c, .int .i64 a]) (.agg #[.int .i64 0, .int .i64 0])).run Tryd.prog w = .ok (.bool true) w := fun w => by
          rw [neq_Fault]
          simp [hc]
        clear hfz hc HRt
        go_wp2
        go_region
        all_goals
          go_wp2
          refine bodyPost_ret (v := .tuple #[.agg #[.slice none 0 0, .slice none 0 0], .agg #[.int .i64 c, .int .i64 a]]) (res_ObjF (by rfl) (by rfl) (by rfl) (by repeat (first | with_reducible exact HQ3.out | with_reducible refine blk_drew ?_ | with_reducible refine blk_drewN ?_ _ | with_reducible refine blk_alloc ?_ _ | with_reducible apply blk_set1 | with_reducible apply blk_set0 | with_reducible refine blk_other ?_ (by first | (simp; done) | omega | (simp; omega)) _)) (by repeat (first | with_reducible exact HF3.out | with_reducible refine blk_drew ?_ | with_reducible refine blk_drewN ?_ _ | with_reducible refine blk_alloc ?_ _ | with_reducible apply blk_set1 | with_reducible apply blk_set0 | with_reducible refine blk_other ?_ (by first | (simp; done) | omega | (simp; omega)) _))) rfl ?_
          refine hrt.out _ _ _ ?_ (Rp.SLF.nil _ _ _ _) (Rp.SLF.nil _ _ _ _)
          have hb := Hb2.out
          exact (by repeat (first | exact Below.refl _ _ | assumption | refine below_drewN ?_ _ | refine Below.drew ?_ | refine Below.setCell ?_ (by first | omega | (simp; done) | (simp; omega)) _ | refine Below.alloc ?_ (by first | omega | (simp; done) | (simp; omega)) _ | refine below_step (by assumption) ?_ (by first | omega | (simp; done) | (simp; omega))))
      · have hca := hfz hc
        simp only [Prod.mk.injEq] at hca
        obtain ⟨rfl, rfl⟩ := hca
        have hq : ∀ w, (binOp .neq 27 (.agg #[.int .i64 0, .int .i64 0]) (.agg #[.int .i64 0, .int .i64 0])).run Tryd.prog w = .ok (.bool false) w := fun w => neq_Fault 0 0 0 0 w
        have hrt := Lib.hid (by have h := HRt.out; rw [if_neg (by simp)] at h; exact h)
        clear hfz hc HRt
        go_wp2
        refine bodyPost_ret (v := .tuple #[.agg #[.slice B1 o.globals.length m1, .slice B2 o.sections.length m2], .agg #[.int .i64 0, .int .i64 0]]) (res_ObjF (by rfl) (by rfl) (by rfl) (by repeat (first | with_reducible exact HQ3.out | with_reducible refine blk_drew ?_ | with_reducible refine blk_drewN ?_ _ | with_reducible refine blk_alloc ?_ _ | with_reducible apply blk_set1 | with_reducible apply blk_set0 | with_reducible refine blk_other ?_ (by first | (simp; done) | omega | (simp; omega)) _)) (by repeat (first | with_reducible exact HF3.out | with_reducible refine blk_drew ?_ | with_reducible refine blk_drewN ?_ _ | with_reducible refine blk_alloc ?_ _ | with_reducible apply blk_set1 | with_reducible apply blk_set0 | with_reducible refine blk_other ?_ (by first | (simp; done) | omega | (simp; omega)) _))) rfl ?_
        refine hrt.out _ _ _ ?_ ?_ ?_
        · have hb := Hb2.out
          exact (by repeat (first | exact Below.refl _ _ | assumption | refine below_drewN ?_ _ | refine Below.drew ?_ | refine Below.setCell ?_ (by first | omega | (simp; done) | (simp; omega)) _ | refine Below.alloc ?_ (by first | omega | (simp; done) | (simp; omega)) _ | refine below_step (by assumption) ?_ (by first | omega | (simp; done) | (simp; omega))))
        · refine (Hg3.out.keepB fun k hk1 hk2 => ?_).more (by omega) (by simp [World.setCell]; omega)
          obtain ⟨X, hX⟩ : ∃ X, w2.heap[k]? = some X := ⟨_, Array.getElem?_eq_getElem (by omega)⟩
          rw [hX]
          exact (by repeat (first | with_reducible exact hX | with_reducible refine blk_drew ?_ | with_reducible refine blk_drewN ?_ _ | with_reducible refine blk_alloc ?_ _ | with_reducible apply blk_set1 | with_reducible apply blk_set0 | with_reducible refine blk_other ?_ (by first | (simp; done) | omega | (simp; omega)) _))
        · refine (Hs3.out.keepB fun k hk1 hk2 => ?_).more (by omega) (by simp [World.setCell]; omega)
          obtain ⟨X, hX⟩ : ∃ X, w2.heap[k]? = some X := ⟨_, Array.getElem?_eq_getElem (by omega)⟩
          rw [hX]
          exact (by repeat (first | with_reducible exact hX | with_reducible refine blk_drew ?_ | with_reducible refine blk_drewN ?_ _ | with_reducible refine blk_alloc ?_ _ | with_reducible apply blk_set1 | with_reducible apply blk_set0 | with_reducible refine blk_other ?_ (by first | (simp; done) | omega | (simp; omega)) _))
end Go.Proofs.YtkodcoianakjoaaDoor
