/- object.Part: a section of an object. -/
import Derived.Test.YtkodcoianakjoaaDoorBase
import Derived.Test.YtkodcoianakjoaaDoorRows
import Derived.IntWalk
import Derived.Deep.LoopGhost
import Derived.Deep.CutBlock
import Derived.Deep.DeepCutAuto
import Derived.Outline
import Derived.Test.YtkodcoianakjoaaDoorObjA
import Derived.Test.YtkodcoianakjoaaDoorPlainA
import Derived.Test.YtkodcoianakjoaaDoorCopyA
namespace Go.Proofs.YtkodcoianakjoaaDoor
open Go.RowKit
set_option linter.unusedSimpArgs false
set_option linter.unusedVariables false

set_option maxRecDepth 100000 in
set_option maxHeartbeats 4000000 in
theorem Part_calls (o : Object) (k : Int) (v1 v2 : Value) (w : World) (h1 : rpGlobal.SL w w.heap.size o.globals v1) (h2 : rpSection.SL w w.heap.size o.sections v2) (hS : Shapes w) (R : Ending → World → Prop)
    (hR : ∀ w' u1 u2, Below w.heap.size w w' → rpGlobal.SLF w' w.heap.size w'.heap.size (partO o k).globals u1 → rpSection.SLF w' w.heap.size w'.heap.size (partO o k).sections u2 → R (.returned (.tuple #[.agg #[u1, u2], (.agg #[.int .i64 (partF o k).1, .int .i64 (partF o k).2])])) w') :
    Calls Tryd.prog 12 #[.agg #[v1, v2], .int .i64 k] w R := by
  have h0 := hS.1
  obtain ⟨A1, n1, rfl, hm1, hcap1, h1⟩ := h1.cases_
  obtain ⟨A2, n2, rfl, hm2, hcap2, h2⟩ := h2.cases_
  have HS := Lib.hid hS
  have HR := Lib.hid hR
  have H1 := Lib.hid h1
  have H2 := Lib.hid h2
  obtain ⟨W0, hW0⟩ : ∃ W0, W0 = ((w.alloc (Obj.cells #[.slice A1 o.globals.length n1, .slice A2 o.sections.length n2] 25)).alloc (Obj.cells #[.slice none 0 0, .slice none 0 0] 25)).alloc (Obj.cells #[.int .i64 0, .int .i64 0] 27) := ⟨_, rfl⟩
  have hb0 : Below w.heap.size w W0 := by subst hW0; exact (by repeat (first | exact Below.refl _ _ | assumption | refine below_drewN ?_ _ | refine Below.drew ?_ | refine Below.setCell ?_ (by first | omega | (simp; done) | (simp; omega)) _ | refine Below.alloc ?_ (by first | omega | (simp; done) | (simp; omega)) _ | refine below_step (by assumption) ?_ (by first | omega | (simp; done) | (simp; omega))))
  have hz0 : W0.heap.size = w.heap.size + 3 := by subst hW0; simp
  have hP : W0.heap[w.heap.size]? = some (.cells #[.slice A1 o.globals.length n1, .slice A2 o.sections.length n2] 25 (0, 0)) := by
    subst hW0
    rw [Below.heap_alloc _ _ _ (by simp; omega), Below.heap_alloc _ _ _ (by simp)]
    exact heap_alloc_new _ _
  have hQ : W0.heap[w.heap.size + 1]? = some (.cells #[.slice none 0 0, .slice none 0 0] 25 (0, 0)) := by
    subst hW0
    rw [Below.heap_alloc _ _ _ (by simp)]
    have := heap_alloc_new (w.alloc (Obj.cells #[.slice A1 o.globals.length n1, .slice A2 o.sections.length n2] 25)) (Obj.cells #[.slice none 0 0, .slice none 0 0] 25)
    simpa using this
  have hF : W0.heap[w.heap.size + 2]? = some (.cells #[.int .i64 0, .int .i64 0] 27 (0, 0)) := by
    subst hW0
    have := heap_alloc_new ((w.alloc (Obj.cells #[.slice A1 o.globals.length n1, .slice A2 o.sections.length n2] 25)).alloc (Obj.cells #[.slice none 0 0, .slice none 0 0] 25)) (Obj.cells #[.int .i64 0, .int .i64 0] 27)
    simpa using this
  have HP := Lib.hid hP
  have HQ := Lib.hid hQ
  have HF := Lib.hid hF
  have HW := Lib.hid hW0.symm
  have Hb0 := Lib.hid hb0
  have Hz0 := Lib.hid hz0
  clear hS hR h1 h2 hP hQ hF hW0 hb0 hz0
  go_enter Tryd.func12, Tryd.ntmps12
  go_wp2_with fail
  rw [HW.out]
  refine objCheck_calls o _ _ _ (H1.out.up Hb0.out Hb0.out.size) (H2.out.up Hb0.out Hb0.out.size) (HS.out.up Hb0.out h0) _ (fun w1 hb1 => ?_)
  have hz1 := hb1.size
  rw [Hz0.out] at hb1 hz1
  have hP1 : w1.heap[w.heap.size]? = some (.cells #[.slice A1 o.globals.length n1, .slice A2 o.sections.length n2] 25 (0, 0)) := (hb1.block _ (by omega)).trans HP.out
  have hQ1 : w1.heap[w.heap.size + 1]? = some (.cells #[.slice none 0 0, .slice none 0 0] 25 (0, 0)) := (hb1.block _ (by omega)).trans HQ.out
  have hF1 : w1.heap[w.heap.size + 2]? = some (.cells #[.int .i64 0, .int .i64 0] 27 (0, 0)) := (hb1.block _ (by omega)).trans HF.out
  obtain ⟨p0, p1, _, _⟩ := cells_of_block hP1
  obtain ⟨c0, c1, z0, z1⟩ := cells_of_block hQ1
  obtain ⟨d0, d1, y0, y1⟩ := cells_of_block hF1
  have hp1 : w.heap.size < w1.heap.size := by omega
  have hp2 : w.heap.size + 1 < w1.heap.size := by omega
  have hp3 : w.heap.size + 2 < w1.heap.size := by omega
  have Hb1 := Lib.hid hb1
  have hfz := objFault_fst o
  obtain ⟨⟨c, a⟩, hFa⟩ : ∃ F, F = objFault o := ⟨_, rfl⟩
  rw [← hFa] at hfz ⊢
  have Hfa := Lib.hid hFa
  simp only [] at hfz ⊢
  have HP1 := Lib.hid hP1
  have HQ1 := Lib.hid hQ1
  have HF1 := Lib.hid hF1
  clear hb1 hP1 hQ1 hF1 hFa HW
  by_cases hc : c = 0
  rotate_left
  · have hq : ∀ w, (binOp .neq 27 (.agg #[.int .i64 c, .int .i64 a]) (.agg #[.int .i64 0, .int .i64 0])).run Tryd.prog w = .ok (.bool true) w := fun w => by
      rw [neq_Fault]
      simp [hc]
    have hret := HR.out
    unfold partO partF at hret
    rw [← Hfa.out, if_pos hc, if_pos hc] at hret
    have Hret := Lib.hid hret
    clear hfz hc hret
    go_wp2
    go_region
    all_goals
      go_wp2
      have hQ1 := HQ1.out
      have hF1 := HF1.out
      have hbw := Hb0.out.trans (Hb1.out.mono (by omega))
      refine bodyPost_ret (v := .tuple #[.agg #[.slice none 0 0, .slice none 0 0], .agg #[.int .i64 c, .int .i64 a]]) (res_ObjF (by rfl) (by rfl) (by rfl) (by repeat (first | with_reducible exact HQ1.out | with_reducible refine blk_drew ?_ | with_reducible refine blk_drewN ?_ _ | with_reducible refine blk_alloc ?_ _ | with_reducible apply blk_set1 | with_reducible apply blk_set0 | with_reducible refine blk_other ?_ (by first | (simp; done) | omega | (simp; omega)) _)) (by repeat (first | with_reducible exact HF1.out | with_reducible refine blk_drew ?_ | with_reducible refine blk_drewN ?_ _ | with_reducible refine blk_alloc ?_ _ | with_reducible apply blk_set1 | with_reducible apply blk_set0 | with_reducible refine blk_other ?_ (by first | (simp; done) | omega | (simp; omega)) _))) rfl ?_
      refine Hret.out _ _ _ ?_ (Rp.SLF.nil _ _ _ _) (Rp.SLF.nil _ _ _ _)
      exact (by repeat (first | exact Below.refl _ _ | assumption | refine below_drewN ?_ _ | refine Below.drew ?_ | refine Below.setCell ?_ (by first | omega | (simp; done) | (simp; omega)) _ | refine Below.alloc ?_ (by first | omega | (simp; done) | (simp; omega)) _ | refine below_step (by assumption) ?_ (by first | omega | (simp; done) | (simp; omega))))
  · have hq : ∀ w, (binOp .neq 27 (.agg #[.int .i64 0, .int .i64 0]) (.agg #[.int .i64 0, .int .i64 0])).run Tryd.prog w = .ok (.bool false) w := fun w => neq_Fault 0 0 0 0 w
    have hca := hfz hc
    simp only [Prod.mk.injEq] at hca
    obtain ⟨rfl, rfl⟩ := hca
    clear hfz hc
    have hm : IntKind.i64.wrap ((o.sections.length : Int) - 1) = (o.sections.length : Int) - 1 := IntWalk.i64_in _ (by omega)
    by_cases hk : k < 0 ∨ (o.sections.length : Int) ≤ k
    · have hret := HR.out
      unfold partO partF at hret
      rw [← Hfa.out, if_neg (by simp), if_pos hk, if_neg (by simp), if_pos hk] at hret
      have Hret := Lib.hid hret
      have hd : Hid (decide ((0 : Int) ≤ k ∧ k ≤ (o.sections.length : Int) - 1) = false) := Lib.hid (by simp; omega)
      clear hret hk
      go_wp2_with fail
      refine Within_calls _ _ _ _ _ ?_
      rw [hd.out]
      go_wp2_with fail
      refine Fault_calls _ _ _ _ (fun w2 hb2 => ?_)
      have hbw : Below (w.heap.size + 3) W0 w2 := (Hb1.out.alloc (by omega) _).trans (hb2.mono (by simp; omega))
      have hQ2 : w2.heap[w.heap.size + 1]? = some (.cells #[.slice none 0 0, .slice none 0 0] 25 (0, 0)) := (hbw.block _ (by omega)).trans HQ.out
      have hF2 : w2.heap[w.heap.size + 2]? = some (.cells #[.int .i64 0, .int .i64 0] 27 (0, 0)) := (hbw.block _ (by omega)).trans HF.out
      obtain ⟨c0, c1, z0, z1⟩ := cells_of_block hQ2
      obtain ⟨d0, d1, y0, y1⟩ := cells_of_block hF2
      have hz2 : w.heap.size + 2 < w2.heap.size := by have := hb2.size; simp at this; omega
      have HQ2 := Lib.hid hQ2
      have HF2 := Lib.hid hF2
      have hbw2 := Hb0.out.trans (hbw.mono (by omega))
      clear hb2 hbw hQ2 hF2 hm
      go_wp2
      refine bodyPost_ret (v := .tuple #[.agg #[.slice none 0 0, .slice none 0 0], .agg #[.int .i64 3, .int .i64 (-1)]]) (res_ObjF (by rfl) (by rfl) (by rfl) (by repeat (first | with_reducible exact HQ2.out | with_reducible refine blk_drew ?_ | with_reducible refine blk_drewN ?_ _ | with_reducible refine blk_alloc ?_ _ | with_reducible apply blk_set1 | with_reducible apply blk_set0 | with_reducible refine blk_other ?_ (by first | (simp; done) | omega | (simp; omega)) _)) (by repeat (first | with_reducible exact HF2.out | with_reducible refine blk_drew ?_ | with_reducible refine blk_drewN ?_ _ | with_reducible refine blk_alloc ?_ _ | with_reducible apply blk_set1 | with_reducible apply blk_set0 | with_reducible refine blk_other ?_ (by first | (simp; done) | omega | (simp; omega)) _))) rfl ?_
      refine Hret.out _ _ _ ?_ (Rp.SLF.nil _ _ _ _) (Rp.SLF.nil _ _ _ _)
      exact (by repeat (first | exact Below.refl _ _ | assumption | refine below_drewN ?_ _ | refine Below.drew ?_ | refine Below.setCell ?_ (by first | omega | (simp; done) | (simp; omega)) _ | refine Below.alloc ?_ (by first | omega | (simp; done) | (simp; omega)) _ | refine below_step (by assumption) ?_ (by first | omega | (simp; done) | (simp; omega))))
    · obtain ⟨kn, rfl⟩ : ∃ n : Nat, k = n := ⟨k.toNat, by omega⟩
      have hkn : kn < o.sections.length := by omega
      have hret := HR.out
      unfold partO partF at hret
      rw [← Hfa.out, if_neg (by simp), if_neg hk, if_neg (by simp), if_neg hk, Int.toNat_natCast] at hret
      have Hret := Lib.hid hret
      have hd : Hid (decide ((0 : Int) ≤ (kn : Int) ∧ (kn : Int) ≤ (o.sections.length : Int) - 1) = true) := Lib.hid (by simp; omega)
      have hok := (objOk_iff o).1 Hfa.out.symm
      have Hok := Lib.hid hok
      have i0 : (0 : Int) ≤ (kn : Int) := by omega
      have i1 : (kn : Int) < (o.sections.length : Int) := by omega
      have i2 : (kn : Int) + 1 ≤ (n2 : Int) := by omega
      have i3 : IntKind.i64.wrap ((kn : Int) + 1) = (kn : Int) + 1 := IntWalk.i64_in _ (by omega)
      have hne : ¬ n2 = kn := by omega
      obtain ⟨b, off, s, _, _, rfl, hb, _⟩ := H2.out.section_at hkn
      clear hret hk hok
      go_wp2_with fail
      refine Within_calls _ _ _ _ _ ?_
      rw [hd.out]
      have hbw1 : Below w.heap.size w w1 := Hb0.out.trans (Hb1.out.mono (by omega))
      have HG : Hid (∀ W, Below w1.heap.size w1 W → rpGlobal.SL W W.heap.size o.globals (.slice A1 o.globals.length n1)) := Lib.hid fun W h => H1.out.up (hbw1.trans (h.mono (by omega))) (by have := h.size; omega)
      have HT : Hid (∀ W, Below w1.heap.size w1 W → rpSection.SL W W.heap.size ((o.sections.drop kn).take 1) (.slice (some ⟨b, off + kn * 3, none⟩) 1 (n2 - kn))) := Lib.hid fun W h => by
        have h1 := H2.out.up (hbw1.trans (h.mono (by omega))) (B' := W.heap.size) (by have := h.size; omega)
        have h2 := h1.drop_ (k := kn) (by omega) (off + kn * 3) (fun _ => rfl)
        have h3 := h2.take_ (k := 1) (by rw [List.length_drop]; omega)
        exact h3
      have hgb : Hid (o.globals.length ≤ 1048576 ∧ ∀ g ∈ o.globals, g.init.length ≤ 1048576) := Lib.hid (by
        obtain ⟨a, b⟩ := globFault_ok Hok.out.glob
        exact ⟨by omega, fun g hg => by have := (b g hg).fits; have := (b g hg).high; omega⟩)
      have hsb : Hid (((o.sections.drop kn).take 1).length ≤ 1048576 ∧ ∀ s ∈ (o.sections.drop kn).take 1, s.code.length ≤ 1048576 ∧ s.mends.length ≤ 1048576) := Lib.hid (by
        refine ⟨by rw [List.length_take]; omega, fun s hs => ?_⟩
        obtain ⟨j, hj, e⟩ := List.mem_iff_getElem.1 (List.mem_of_mem_drop (List.mem_of_mem_take hs))
        obtain ⟨a, b, _⟩ := secF_ok (Hok.out.secs j s (by rw [List.getElem?_eq_getElem hj, e])).fine
        omega)
      have Hbw1 := Lib.hid hbw1
      clear hbw1
      go_wp2
      go_region_with (first | (go_at_call 27; refine Copy_calls ⟨o.globals, (o.sections.drop kn).take 1⟩ _ _ _ (HG.out _ (by repeat (first | exact Below.refl _ _ | assumption | refine below_drewN ?_ _ | refine Below.drew ?_ | refine Below.setCell ?_ (by first | omega | (simp; done) | (simp; omega)) _ | refine Below.alloc ?_ (by first | omega | (simp; done) | (simp; omega)) _ | refine below_step (by assumption) ?_ (by first | omega | (simp; done) | (simp; omega))))) (HT.out _ (by repeat (first | exact Below.refl _ _ | assumption | refine below_drewN ?_ _ | refine Below.drew ?_ | refine Below.setCell ?_ (by first | omega | (simp; done) | (simp; omega)) _ | refine Below.alloc ?_ (by first | omega | (simp; done) | (simp; omega)) _ | refine below_step (by assumption) ?_ (by first | omega | (simp; done) | (simp; omega))))) hgb.out hsb.out _ ?_; intro w5 u1 u2 hb5 hg5 hs5; obtain ⟨B1, m1, rfl, _, _, hg5⟩ := hg5.cases_; obtain ⟨B2, m2, rfl, _, _, hs5⟩ := hs5.cases_; have hQ5 : w5.heap[w.heap.size + 1]? = some (.cells #[.slice none 0 0, .slice none 0 0] 25 (0, 0)) := (hb5.block _ (by simp; omega)).trans (by repeat (first | with_reducible exact HQ1.out | with_reducible refine blk_drew ?_ | with_reducible refine blk_drewN ?_ _ | with_reducible refine blk_alloc ?_ _ | with_reducible apply blk_set1 | with_reducible apply blk_set0 | with_reducible refine blk_other ?_ (by first | (simp; done) | omega | (simp; omega)) _)); have hF5 : w5.heap[w.heap.size + 2]? = some (.cells #[.int .i64 0, .int .i64 0] 27 (0, 0)) := (hb5.block _ (by simp; omega)).trans (by repeat (first | with_reducible exact HF1.out | with_reducible refine blk_drew ?_ | with_reducible refine blk_drewN ?_ _ | with_reducible refine blk_alloc ?_ _ | with_reducible apply blk_set1 | with_reducible apply blk_set0 | with_reducible refine blk_other ?_ (by first | (simp; done) | omega | (simp; omega)) _)); have hz5 := hb5.size; obtain ⟨c0, c1, z0, z1⟩ := cells_of_block hQ5; obtain ⟨d0, d1, y0, y1⟩ := cells_of_block hF5; have HQ5 := Lib.hid hQ5; have HF5 := Lib.hid hF5; have Hb5 := Lib.hid hb5; have Hg5 := Lib.hid hg5; have Hs5 := Lib.hid hs5; clear hQ5 hF5 hb5 hg5 hs5))
      all_goals
        have hbw5 : Below w.heap.size w w5 := Hbw1.out.trans ((below_step Hb5.out (B := w1.heap.size) (((Below.refl _ _).alloc (Nat.le_refl _) (Obj.cells #[.int .i64 0, .int .i64 0] 27)).drew) (by simp)).mono (by omega))
        have hS1 : Hid (∀ x y z u, rpGlobal.SLF ((((w5.setCell ⟨w.heap.size + 1, 0, none⟩ x).setCell ⟨w.heap.size + 1, 1, none⟩ y).setCell ⟨w.heap.size + 2, 0, none⟩ z).setCell ⟨w.heap.size + 2, 1, none⟩ u) w.heap.size ((((w5.setCell ⟨w.heap.size + 1, 0, none⟩ x).setCell ⟨w.heap.size + 1, 1, none⟩ y).setCell ⟨w.heap.size + 2, 0, none⟩ z).setCell ⟨w.heap.size + 2, 1, none⟩ u).heap.size o.globals (.slice B1 o.globals.length m1)) := Lib.hid fun x y z u =>
          ((((Hg5.out.setCell ⟨w.heap.size + 1, 0, none⟩ (by simp; omega) x).setCell ⟨w.heap.size + 1, 1, none⟩ (by simp; omega) y).setCell ⟨w.heap.size + 2, 0, none⟩ (by simp; omega) z).setCell ⟨w.heap.size + 2, 1, none⟩ (by simp; omega) u).more (by simp; omega) (by simp [World.setCell])
        have hS2 : Hid (∀ x y z u, rpSection.SLF ((((w5.setCell ⟨w.heap.size + 1, 0, none⟩ x).setCell ⟨w.heap.size + 1, 1, none⟩ y).setCell ⟨w.heap.size + 2, 0, none⟩ z).setCell ⟨w.heap.size + 2, 1, none⟩ u) w.heap.size ((((w5.setCell ⟨w.heap.size + 1, 0, none⟩ x).setCell ⟨w.heap.size + 1, 1, none⟩ y).setCell ⟨w.heap.size + 2, 0, none⟩ z).setCell ⟨w.heap.size + 2, 1, none⟩ u).heap.size ((o.sections.drop kn).take 1) (.slice B2 ((o.sections.drop kn).take 1).length m2)) := Lib.hid fun x y z u =>
          ((((Hs5.out.setCell ⟨w.heap.size + 1, 0, none⟩ (by simp; omega) x).setCell ⟨w.heap.size + 1, 1, none⟩ (by simp; omega) y).setCell ⟨w.heap.size + 2, 0, none⟩ (by simp; omega) z).setCell ⟨w.heap.size + 2, 1, none⟩ (by simp; omega) u).more (by simp; omega) (by simp [World.setCell])
        have hlen : ((o.sections.drop kn).take 1).length = min 1 (o.sections.length - kn) := by simp
        rw [hlen] at hS2
        have Hbw5 := Lib.hid hbw5
        clear hbw5 hlen
        go_wp2
        refine bodyPost_ret (v := .tuple #[.agg #[.slice B1 o.globals.length m1, .slice B2 (min 1 (o.sections.length - kn)) m2], .agg #[.int .i64 0, .int .i64 0]]) (res_ObjF (by rfl) (by rfl) (by rfl) (by repeat (first | with_reducible exact HQ5.out | with_reducible refine blk_drew ?_ | with_reducible refine blk_drewN ?_ _ | with_reducible refine blk_alloc ?_ _ | with_reducible apply blk_set1 | with_reducible apply blk_set0 | with_reducible refine blk_other ?_ (by first | (simp; done) | omega | (simp; omega)) _)) (by repeat (first | with_reducible exact HF5.out | with_reducible refine blk_drew ?_ | with_reducible refine blk_drewN ?_ _ | with_reducible refine blk_alloc ?_ _ | with_reducible apply blk_set1 | with_reducible apply blk_set0 | with_reducible refine blk_other ?_ (by first | (simp; done) | omega | (simp; omega)) _))) rfl ?_
        refine Hret.out _ _ _ ?_ (hS1.out _ _ _ _) (hS2.out _ _ _ _)
        have hb := Hbw5.out
        exact (by repeat (first | exact Below.refl _ _ | assumption | refine below_drewN ?_ _ | refine Below.drew ?_ | refine Below.setCell ?_ (by first | omega | (simp; done) | (simp; omega)) _ | refine Below.alloc ?_ (by first | omega | (simp; done) | (simp; omega)) _ | refine below_step (by assumption) ?_ (by first | omega | (simp; done) | (simp; omega))))
end Go.Proofs.YtkodcoianakjoaaDoor
