/- The document's ObjectPart. -/
import Derived.Test.YtkodcoianakjoaaDoorLib
import Derived.Test.YtkodcoianakjoaaDoorRows
import Derived.IntWalk
import Derived.Deep.LoopGhost
import Derived.Deep.CutBlock
import Derived.Deep.DeepCutAuto
import Derived.Outline
import Derived.Test.YtkodcoianakjoaaDoorObj3
import Derived.Test.YtkodcoianakjoaaDoorObjOk
import Derived.Test.YtkodcoianakjoaaDoorCopy
import Derived.Test.YtkodcoianakjoaaDoorLib6
namespace Go.Proofs.YtkodcoianakjoaaDoor
open Go.RowKit
set_option linter.unusedSimpArgs false
set_option linter.unusedVariables false

set_option maxRecDepth 100000 in
set_option maxHeartbeats 4000000 in
theorem ObjectPart_calls (o : Object) (k : Int) (v1 v2 : Value) (w : World) (h1 : rpGlobal.SL w w.heap.size o.globals v1) (h2 : rpSection.SL w w.heap.size o.sections v2) (R : Ending → World → Prop)
    (hR : ∀ w' u1 u2, Below w.heap.size w w' → rpGlobal.SL w' w'.heap.size (partO o k).globals u1 → rpSection.SL w' w'.heap.size (partO o k).sections u2 → R (.returned (.tuple #[.agg #[u1, u2], (.agg #[.int .i64 (partF o k).1, .int .i64 (partF o k).2])])) w') :
    Calls Tryd.prog 13 #[.agg #[v1, v2], .int .i64 k] w R := by
  obtain ⟨A1, n1, rfl, hm1, hcap1, h1⟩ := h1.cases_
  obtain ⟨A2, n2, rfl, hm2, hcap2, h2⟩ := h2.cases_
  have HR := Lib.hid hR
  have H1 := Lib.hid h1
  have H2 := Lib.hid h2
  obtain ⟨W0, hW0⟩ : ∃ W0, W0 = ((w.alloc (Obj.cells #[.slice A1 o.globals.length n1, .slice A2 o.sections.length n2] 25)).alloc (Obj.cells #[.slice none 0 0, .slice none 0 0] 25)).alloc (Obj.cells #[.int .i64 0, .int .i64 0] 27) := ⟨_, rfl⟩
  have hb0 : Below w.heap.size w W0 := by subst hW0; exact (by repeat (first | exact Below.refl _ _ | assumption | refine below_drewN ?_ _ | refine Below.drew ?_ | refine Below.setCell ?_ (by first | omega | (simp; done) | (simp; omega)) _ | refine Below.alloc ?_ (by first | omega | (simp; done) | (simp; omega)) _ | refine below_step (by assumption) ?_ (by first | omega | (simp; done) | (simp; omega))))
  have hz0 : W0.heap.size = w.heap.size + 3 := by subst hW0; simp
  have hP : W0.heap[w.heap.size]? = some (.cells #[.slice A1 o.globals.length n1, .slice A2 o.sections.length n2] 25 (0, 0)) := by
    subst hW0
    rw [Below.heap_alloc _ _ _ (by simp; omega), Below.heap_alloc _ _ _ (by simp)]
    exact heap_alloc_new _ _
  have hQ : W0.heap[w.heap.size + 1]? = some (.cells #[.slice none 0 0, .slice none 0 0] 25 (0, 0)) := by
    subst hW0
    rw [Below.heap_alloc _ _ _ (by simp)]
    have := heap_alloc_new (w.alloc (Obj.cells #[.slice A1 o.globals.length n1, .slice A2 o.sections.length n2] 25)) (Obj.cells #[.slice none 0 0, .slice none 0 0] 25)
    simpa using this
  have hF : W0.heap[w.heap.size + 2]? = some (.cells #[.int .i64 0, .int .i64 0] 27 (0, 0)) := by
    subst hW0
    have := heap_alloc_new ((w.alloc (Obj.cells #[.slice A1 o.globals.length n1, .slice A2 o.sections.length n2] 25)).alloc (Obj.cells #[.slice none 0 0, .slice none 0 0] 25)) (Obj.cells #[.int .i64 0, .int .i64 0] 27)
    simpa using this
  have HP := Lib.hid hP
  have HQ := Lib.hid hQ
  have HF := Lib.hid hF
  have HW := Lib.hid hW0.symm
  have Hb0 := Lib.hid hb0
  have Hz0 := Lib.hid hz0
  clear hR h1 h2 hP hQ hF hW0 hb0 hz0
  go_enter Tryd.func13, Tryd.ntmps13
  go_wp2_with fail
  rw [HW.out]
  refine ObjectCheck_calls o _ _ _ (H1.out.up Hb0.out Hb0.out.size) (H2.out.up Hb0.out Hb0.out.size) _ (fun w1 hb1 => ?_)
  have hz1 := hb1.size
  rw [Hz0.out] at hb1 hz1
  have hP1 : w1.heap[w.heap.size]? = some (.cells #[.slice A1 o.globals.length n1, .slice A2 o.sections.length n2] 25 (0, 0)) := (hb1.block _ (by omega)).trans HP.out
  have hQ1 : w1.heap[w.heap.size + 1]? = some (.cells #[.slice none 0 0, .slice none 0 0] 25 (0, 0)) := (hb1.block _ (by omega)).trans HQ.out
  have hF1 : w1.heap[w.heap.size + 2]? = some (.cells #[.int .i64 0, .int .i64 0] 27 (0, 0)) := (hb1.block _ (by omega)).trans HF.out
  obtain ⟨p0, p1, _, _⟩ := cells_of_block hP1
  obtain ⟨c0, c1, z0, z1⟩ := cells_of_block hQ1
  obtain ⟨d0, d1, y0, y1⟩ := cells_of_block hF1
  have hp1 : w.heap.size < w1.heap.size := by omega
  have hp2 : w.heap.size + 1 < w1.heap.size := by omega
  have hp3 : w.heap.size + 2 < w1.heap.size := by omega
  have Hb1 := Lib.hid hb1
  have hfz := objFault_fst o
  obtain ⟨⟨c, a⟩, hFa⟩ : ∃ F, F = objFault o := ⟨_, rfl⟩
  rw [← hFa] at hfz ⊢
  have Hfa := Lib.hid hFa
  simp only [] at hfz ⊢
  have HP1 := Lib.hid hP1
  have HQ1 := Lib.hid hQ1
  have HF1 := Lib.hid hF1
  clear hb1 hP1 hQ1 hF1 hFa HW
  by_cases hc : c = 0
  rotate_left
  · have hq : (c != 0) = true := by simp [hc]
    have hret := HR.out
    unfold partO partF at hret
    rw [← Hfa.out, if_pos hc, if_pos hc] at hret
    have Hret := Lib.hid hret
    clear hfz hc hret
    go_wp2
    go_region
    all_goals
      go_wp2
      have hQ1 := HQ1.out
      have hF1 := HF1.out
      have hbw := Hb0.out.trans (Hb1.out.mono (by omega))
      refine bodyPost_ret (v := .tuple #[.agg #[.slice none 0 0, .slice none 0 0], .agg #[.int .i64 c, .int .i64 a]]) (res_ObjF (by rfl) (by rfl) (by rfl) (by repeat (first | with_reducible exact HQ1.out | with_reducible refine blk_drew ?_ | with_reducible refine blk_drewN ?_ _ | with_reducible refine blk_alloc ?_ _ | with_reducible apply blk_set1 | with_reducible apply blk_set0 | with_reducible refine blk_other ?_ (by first | (simp; done) | omega | (simp; omega)) _)) (by repeat (first | with_reducible exact HF1.out | with_reducible refine blk_drew ?_ | with_reducible refine blk_drewN ?_ _ | with_reducible refine blk_alloc ?_ _ | with_reducible apply blk_set1 | with_reducible apply blk_set0 | with_reducible refine blk_other ?_ (by first | (simp; done) | omega | (simp; omega)) _))) rfl ?_
      refine Hret.out _ _ _ ?_ (Rp.SL.nil _ _ _) (Rp.SL.nil _ _ _)
      exact (by repeat (first | exact Below.refl _ _ | assumption | refine below_drewN ?_ _ | refine Below.drew ?_ | refine Below.setCell ?_ (by first | omega | (simp; done) | (simp; omega)) _ | refine Below.alloc ?_ (by first | omega | (simp; done) | (simp; omega)) _ | refine below_step (by assumption) ?_ (by first | omega | (simp; done) | (simp; omega))))
  · have hca := hfz hc
    simp only [Prod.mk.injEq] at hca
    obtain ⟨rfl, rfl⟩ := hca
    clear hfz hc
    by_cases hk : k < 0 ∨ (o.sections.length : Int) ≤ k
    · have hret := HR.out
      unfold partO partF at hret
      rw [← Hfa.out, if_neg (by simp), if_pos hk, if_neg (by simp), if_pos hk] at hret
      have Hret := Lib.hid hret
      have Hk := Lib.hid hk
      have hbw : Below w.heap.size w w1 := Hb0.out.trans (Hb1.out.mono (by omega))
      have Hbw := Lib.hid hbw
      clear hret hk hbw
      by_cases hk0 : k < 0
      · go_wp2
        all_goals
          refine bodyPost_ret (v := .tuple #[.agg #[.slice none 0 0, .slice none 0 0], .agg #[.int .i64 3, .int .i64 (-1)]]) (res_ObjF (by rfl) (by rfl) (by rfl) (by repeat (first | with_reducible exact HQ1.out | with_reducible refine blk_drew ?_ | with_reducible refine blk_drewN ?_ _ | with_reducible refine blk_alloc ?_ _ | with_reducible apply blk_set1 | with_reducible apply blk_set0 | with_reducible refine blk_other ?_ (by first | (simp; done) | omega | (simp; omega)) _)) (by repeat (first | with_reducible exact HF1.out | with_reducible refine blk_drew ?_ | with_reducible refine blk_drewN ?_ _ | with_reducible refine blk_alloc ?_ _ | with_reducible apply blk_set1 | with_reducible apply blk_set0 | with_reducible refine blk_other ?_ (by first | (simp; done) | omega | (simp; omega)) _))) rfl ?_
          refine Hret.out _ _ _ ?_ (Rp.SL.nil _ _ _) (Rp.SL.nil _ _ _)
          have hb := Hbw.out
          exact (by repeat (first | exact Below.refl _ _ | assumption | refine below_drewN ?_ _ | refine Below.drew ?_ | refine Below.setCell ?_ (by first | omega | (simp; done) | (simp; omega)) _ | refine Below.alloc ?_ (by first | omega | (simp; done) | (simp; omega)) _ | refine below_step (by assumption) ?_ (by first | omega | (simp; done) | (simp; omega))))
      · have hk1 : (o.sections.length : Int) ≤ k := by have := Hk.out; omega
        go_wp2
        all_goals
          refine bodyPost_ret (v := .tuple #[.agg #[.slice none 0 0, .slice none 0 0], .agg #[.int .i64 3, .int .i64 (-1)]]) (res_ObjF (by rfl) (by rfl) (by rfl) (by repeat (first | with_reducible exact HQ1.out | with_reducible refine blk_drew ?_ | with_reducible refine blk_drewN ?_ _ | with_reducible refine blk_alloc ?_ _ | with_reducible apply blk_set1 | with_reducible apply blk_set0 | with_reducible refine blk_other ?_ (by first | (simp; done) | omega | (simp; omega)) _)) (by repeat (first | with_reducible exact HF1.out | with_reducible refine blk_drew ?_ | with_reducible refine blk_drewN ?_ _ | with_reducible refine blk_alloc ?_ _ | with_reducible apply blk_set1 | with_reducible apply blk_set0 | with_reducible refine blk_other ?_ (by first | (simp; done) | omega | (simp; omega)) _))) rfl ?_
          refine Hret.out _ _ _ ?_ (Rp.SL.nil _ _ _) (Rp.SL.nil _ _ _)
          have hb := Hbw.out
          exact (by repeat (first | exact Below.refl _ _ | assumption | refine below_drewN ?_ _ | refine Below.drew ?_ | refine Below.setCell ?_ (by first | omega | (simp; done) | (simp; omega)) _ | refine Below.alloc ?_ (by first | omega | (simp; done) | (simp; omega)) _ | refine below_step (by assumption) ?_ (by first | omega | (simp; done) | (simp; omega))))
    · obtain ⟨kn, rfl⟩ : ∃ n : Nat, k = n := ⟨k.toNat, by omega⟩
      have hkn : kn < o.sections.length := by omega
      have hret := HR.out
      unfold partO partF at hret
      rw [← Hfa.out, if_neg (by simp), if_neg hk, if_neg (by simp), if_neg hk, Int.toNat_natCast] at hret
      have Hret := Lib.hid hret
      have i0 : (0 : Int) ≤ (kn : Int) := by omega
      have i1 : (kn : Int) < (o.sections.length : Int) := by omega
      have i2 : (kn : Int) + 1 ≤ (n2 : Int) := by omega
      have i3 : IntKind.i64.wrap ((kn : Int) + 1) = (kn : Int) + 1 := IntWalk.i64_in _ (by omega)
      have hne : ¬ n2 = kn := by omega
      have hlt : ¬ (kn : Int) < 0 := by omega
      have hge : ¬ (o.sections.length : Int) ≤ (kn : Int) := by omega
      obtain ⟨b, off, s, _, _, rfl, hb, _⟩ := H2.out.section_at hkn
      have hbw1 : Below w.heap.size w w1 := Hb0.out.trans (Hb1.out.mono (by omega))
      have HG : Hid (∀ W, Below w.heap.size w W → rpGlobal.SL W W.heap.size o.globals (.slice A1 o.globals.length n1)) := Lib.hid fun W h => H1.out.up h h.size
      have HT : Hid (∀ W, Below w.heap.size w W → rpSection.SL W W.heap.size ((o.sections.drop kn).take 1) (.slice (some ⟨b, off + kn * 3, none⟩) 1 (n2 - kn))) := Lib.hid fun W h => by
        have h1 := H2.out.up h (B' := W.heap.size) (by have := h.size; omega)
        have h2 := h1.drop_ (k := kn) (by omega) (off + kn * 3) (fun _ => rfl)
        exact h2.take_ (k := 1) (by rw [List.length_drop]; omega)
      have Hbw := Lib.hid hbw1
      clear hret hk hbw1
      go_wp2
      go_region
      all_goals
        go_wp2
        refine bodyPost_ret (v := .tuple #[.agg #[.slice A1 o.globals.length n1, .slice (some ⟨b, off + kn * 3, none⟩) 1 (n2 - kn)], .agg #[.int .i64 0, .int .i64 0]]) (res_ObjF (by rfl) (by rfl) (by rfl) (by repeat (first | with_reducible exact HQ1.out | with_reducible refine blk_drew ?_ | with_reducible refine blk_drewN ?_ _ | with_reducible refine blk_alloc ?_ _ | with_reducible apply blk_set1 | with_reducible apply blk_set0 | with_reducible refine blk_other ?_ (by first | (simp; done) | omega | (simp; omega)) _)) (by repeat (first | with_reducible exact HF1.out | with_reducible refine blk_drew ?_ | with_reducible refine blk_drewN ?_ _ | with_reducible refine blk_alloc ?_ _ | with_reducible apply blk_set1 | with_reducible apply blk_set0 | with_reducible refine blk_other ?_ (by first | (simp; done) | omega | (simp; omega)) _))) rfl ?_
        have hb := Hbw.out
        refine (fun h => Hret.out _ _ _ h (HG.out _ h) (HT.out _ h)) ?_
        exact (by repeat (first | exact Below.refl _ _ | assumption | refine below_drewN ?_ _ | refine Below.drew ?_ | refine Below.setCell ?_ (by first | omega | (simp; done) | (simp; omega)) _ | refine Below.alloc ?_ (by first | omega | (simp; done) | (simp; omega)) _ | refine below_step (by assumption) ?_ (by first | omega | (simp; done) | (simp; omega))))
end Go.Proofs.YtkodcoianakjoaaDoor
