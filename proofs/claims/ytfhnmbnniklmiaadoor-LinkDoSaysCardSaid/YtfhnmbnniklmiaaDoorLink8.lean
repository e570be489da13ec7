/- link.Reach and link.Undone, compared with the document's answer. -/
import Derived.Test.YtfhnmbnniklmiaaDoorBase
import Derived.Test.YtfhnmbnniklmiaaDoorRows
import Derived.IntWalk
import Derived.Outline
import Derived.Deep.CutBlock
import Derived.Deep.DeepCutAuto
import Derived.Test.YtfhnmbnniklmiaaDoorLink7
namespace Go.Proofs.YtfhnmbnniklmiaaDoor
open Go.RowKit
set_option linter.unusedSimpArgs false
set_option linter.unusedVariables false

theorem metO_bad {l : List Object} (h : (metF l).1 ≠ 0) : metO l = ([], []) := by
  unfold metO
  rw [if_pos h]

set_option maxRecDepth 100000 in
set_option maxHeartbeats 4000000 in
theorem Reach_calls (l : List Object) (v : Value) (w : World) (h : rpObject.SL w w.heap.size l v) (hS : Shapes w) (R : Ending → World → Prop)
    (hR : ∀ w' v1, Below w.heap.size w w' → rpStr.SL w' w'.heap.size (metO l).1 v1 → R (.returned (.tuple #[v1, (.agg #[.int .i64 (metF l).1, .int .i64 (metF l).2])])) w') :
    Calls Tryd.prog 13 #[v] w R := by
  have h0 := hS.1
  obtain ⟨A, c, rfl, hm, hcap, h⟩ := h.cases_
  have HR := Lib.hid hR
  have H := Lib.hid h
  have HSh := Lib.hid hS
  obtain ⟨W0, hW0⟩ : ∃ W0, W0 = w.alloc (Obj.cells #[.int .i64 0, .int .i64 0] 25) := ⟨_, rfl⟩
  have hb0 : Below w.heap.size w W0 := by subst hW0; exact (by repeat (first | exact Below.refl _ _ | assumption | refine below_drewN ?_ _ | refine Below.drew ?_ | refine Below.setCell ?_ (by first | omega | (simp; done) | (simp; omega)) _ | refine Below.alloc ?_ (by first | omega | (simp; done) | (simp; omega)) _ | refine below_step (by assumption) ?_ (by first | omega | (simp; done) | (simp; omega))))
  have hz0 : W0.heap.size = w.heap.size + 1 := by subst hW0; simp
  have hQ : W0.heap[w.heap.size]? = some (.cells #[.int .i64 0, .int .i64 0] 25 (0, 0)) := by subst hW0; exact heap_alloc_new _ _
  have HW := Lib.hid hW0.symm
  have HQ := Lib.hid hQ
  have Hb0 := Lib.hid hb0
  have hl0 : w.heap.size < W0.heap.size := by omega
  clear hR h hS hW0 hb0 hQ hz0
  go_enter Tryd.func13, Tryd.ntmps13
  go_upto_region 1 with fail
  rw [HW.out]
  go_wp2_with fail
  refine reach_calls l _ _ (H.out.up Hb0.out Hb0.out.size) (HSh.out.up Hb0.out h0) _ (fun hc w1 hb1 => ?_) (fun hc w1 X G gc base vo vu hlk hg => ?_)
  · have hmO := metO_bad hc
    obtain ⟨F, hF⟩ : ∃ F, F = metF l := ⟨_, rfl⟩
    rw [← hF] at hc ⊢
    obtain ⟨fc, fa⟩ := F
    simp only [] at hc ⊢
    have hq : ∀ w, (binOp .neq 25 (.agg #[.int .i64 fc, .int .i64 fa]) (.agg #[.int .i64 0, .int .i64 0])).run Tryd.prog w = .ok (.bool true) w := fun w => by
      rw [neq_Fault]
      simp [hc]
    have hfin : Hid (∀ W, Below w.heap.size w W → R (.returned (.tuple #[.slice none 0 0, .agg #[.int .i64 fc, .int .i64 fa]])) W) := Lib.hid fun W hb => by
      have := HR.out W (.slice none 0 0) hb (by rw [hmO]; exact Rp.SL.nil _ _ _)
      rw [← hF] at this
      exact this
    have hQ1 := (hb1.block _ hl0).trans HQ.out
    have HQ1 := Lib.hid hQ1
    have Hb1 := Lib.hid (Hb0.out.trans (hb1.mono Hb0.out.size))
    obtain ⟨q0, q1, z0, z1⟩ := cells_of_block hQ1
    have hl1 := blk_lt hQ1
    clear hc hF hmO hb1 hQ1
    go_wp2
    go_region
    all_goals
      go_wp2
      exact bodyPost_ret (v := .tuple #[.slice none 0 0, .agg #[.int .i64 fc, .int .i64 fa]]) (res_slice_Fault (by rfl) (by rfl) (by rfl) (cells_blk (by repeat (first | with_reducible exact HQ1.out | with_reducible refine blk_drew ?_ | with_reducible refine blk_drewN ?_ _ | with_reducible refine blk_alloc ?_ _ | with_reducible apply blk_set1 | with_reducible apply blk_set0 | with_reducible refine blk_other ?_ (by first | (simp; done) | omega | (simp; omega)) _)))) rfl (hfin.out _ (by
        have hb := Hb1.out
        exact (by repeat (first | exact Below.refl _ _ | assumption | refine below_drewN ?_ _ | refine Below.drew ?_ | refine Below.setCell ?_ (by first | omega | (simp; done) | (simp; omega)) _ | refine Below.alloc ?_ (by first | omega | (simp; done) | (simp; omega)) _ | refine below_step (by assumption) ?_ (by first | omega | (simp; done) | (simp; omega))))))
  · have hq : ∀ w, (binOp .neq 25 (.agg #[.int .i64 0, .int .i64 0]) (.agg #[.int .i64 0, .int .i64 0])).run Tryd.prog w = .ok (.bool false) w := fun w => neq_Fault 0 0 0 0 w
    obtain ⟨hlf, hmain, hmF, hmO⟩ := metF_cases l hc
    obtain ⟨A6, c6, hs6⟩ := own_slice hlk.two.ord
    obtain ⟨A7, c7, hs7⟩ := own_slice hlk.two.und
    subst hs6 hs7
    obtain ⟨W1, hW1⟩ : ∃ W1, W1 = w1.alloc (Obj.cells #[.int .i64 0, .int .i64 0] 25) := ⟨_, rfl⟩
    have hbW1 : Below w1.heap.size w1 W1 := by subst hW1; exact (by repeat (first | exact Below.refl _ _ | assumption | refine below_drewN ?_ _ | refine Below.drew ?_ | refine Below.setCell ?_ (by first | omega | (simp; done) | (simp; omega)) _ | refine Below.alloc ?_ (by first | omega | (simp; done) | (simp; omega)) _ | refine below_step (by assumption) ?_ (by first | omega | (simp; done) | (simp; omega))))
    have hV1 : W1.heap[w1.heap.size]? = some (.cells #[.int .i64 0, .int .i64 0] 25 (0, 0)) := by subst hW1; exact heap_alloc_new _ _
    have hlk1 := hlk.below hbW1
    have hbw1 := Hb0.out.trans (hlk1.bel.mono Hb0.out.size)
    have hQ1 := (hlk1.bel.block _ hl0).trans HQ.out
    have hbs : w.heap.size < base := by have := hlk.low; omega
    have htw := (hlk1.two.set ⟨w.heap.size, 0, none⟩ hbs (.int .i64 0)).set ⟨w.heap.size, 1, none⟩ hbs (.int .i64 0)
    have hend := HR.out ((W1.setCell ⟨w.heap.size, 0, none⟩ (.int .i64 0)).setCell ⟨w.heap.size, 1, none⟩ (.int .i64 0)) _ ((hbw1.setCell (p := ⟨w.heap.size, 0, none⟩) (Nat.le_refl _) _).setCell (p := ⟨w.heap.size, 1, none⟩) (Nat.le_refl _) _) (by rw [hmO]; exact SLstr_own htw.ord (Nat.le_refl _))
    rw [hmF] at hend
    have Hend := Lib.hid hend
    have HW1 := Lib.hid hW1.symm
    have HQ1 := Lib.hid hQ1
    obtain ⟨x0, x1, x2, x3, xz⟩ := four_cells hlk1.blk
    obtain ⟨v0, v1, _, _⟩ := cells_of_block hV1
    obtain ⟨q0, q1, z0, z1⟩ := cells_of_block hQ1
    have hlX := blk_lt hlk1.blk
    have hlV := blk_lt hV1
    have hlQ := blk_lt hQ1
    clear hlk hlk1 hg hlf hmain hmF hmO hend htw hbw1 hW1 hbW1 hV1 hQ1 hc
    go_upto_region 2 with fail
    rw [HW1.out]
    go_wp2
    exact bodyPost_ret (v := .tuple #[_, .agg #[.int .i64 0, .int .i64 0]]) (res_slice_Fault (by rfl) (by rfl) (by rfl) (cells_blk (by repeat (first | with_reducible exact HQ1.out | with_reducible refine blk_drew ?_ | with_reducible refine blk_drewN ?_ _ | with_reducible refine blk_alloc ?_ _ | with_reducible apply blk_set1 | with_reducible apply blk_set0 | with_reducible refine blk_other ?_ (by first | (simp; done) | omega | (simp; omega)) _)))) rfl Hend.out

set_option maxRecDepth 100000 in
set_option maxHeartbeats 4000000 in
theorem LinkReachSays_calls (l : List Object) (v : Value) (w : World) (h : rpObject.SL w w.heap.size l v) (hS : Shapes w) (R : Ending → World → Prop)
    (hR : ∀ w', Below w.heap.size w w' → R (.returned (.bool true)) w') :
    Calls Tryd.prog 3 #[v] w R := by
  have h0 := hS.1
  obtain ⟨A, c, rfl, hm, hcap, h⟩ := h.cases_
  have HR := Lib.hid hR
  have H := Lib.hid h
  have HSh := Lib.hid hS
  clear hR h hS
  go_enter Tryd.func3, Tryd.ntmps3
  go_wp2_with fail
  refine Reach_calls l _ _ H.out HSh.out _ (fun w1 v1 hb1 hv1 => ?_)
  obtain ⟨A1, c1, rfl, _, _, hv1⟩ := hv1.cases_
  obtain ⟨F, hF⟩ : ∃ F, F = metF l := ⟨_, rfl⟩
  rw [← hF]
  have HF := Lib.hid hF
  obtain ⟨fc, fa⟩ := F
  simp only []
  obtain ⟨W1, hW1⟩ : ∃ W1, W1 = w1.alloc (Obj.cells #[.int .i64 fc, .int .i64 fa] 25) := ⟨_, rfl⟩
  have hbW1 : Below w1.heap.size w1 W1 := by subst hW1; exact (by repeat (first | exact Below.refl _ _ | assumption | refine below_drewN ?_ _ | refine Below.drew ?_ | refine Below.setCell ?_ (by first | omega | (simp; done) | (simp; omega)) _ | refine Below.alloc ?_ (by first | omega | (simp; done) | (simp; omega)) _ | refine below_step (by assumption) ?_ (by first | omega | (simp; done) | (simp; omega))))
  have hV1 : W1.heap[w1.heap.size]? = some (.cells #[.int .i64 fc, .int .i64 fa] 25 (0, 0)) := by subst hW1; exact heap_alloc_new _ _
  have HW1 := Lib.hid hW1.symm
  have HV1 := Lib.hid hV1
  have Hv1 := Lib.hid (hv1.up hbW1 hbW1.size)
  have Hb1 := Lib.hid (hb1.trans (hbW1.mono hb1.size))
  clear hF hb1 hv1 hW1 hbW1 hV1
  go_upto_region 2 with fail
  rw [HW1.out]
  go_wp2_with fail
  refine LinkMet_calls l _ _ (H.out.up Hb1.out Hb1.out.size) _ (fun w2 v2 v3 hb2 hv2 hv3 => ?_)
  rw [← HF.out]
  obtain ⟨A2, c2, rfl, _, _, hv2⟩ := hv2.cases_
  obtain ⟨A3, c3, rfl, _, _, hv3⟩ := hv3.cases_
  obtain ⟨W2, hW2⟩ : ∃ W2, W2 = w2.alloc (Obj.cells #[.int .i64 fc, .int .i64 fa] 25) := ⟨_, rfl⟩
  have hbW2 : Below w2.heap.size w2 W2 := by subst hW2; exact (by repeat (first | exact Below.refl _ _ | assumption | refine below_drewN ?_ _ | refine Below.drew ?_ | refine Below.setCell ?_ (by first | omega | (simp; done) | (simp; omega)) _ | refine Below.alloc ?_ (by first | omega | (simp; done) | (simp; omega)) _ | refine below_step (by assumption) ?_ (by first | omega | (simp; done) | (simp; omega))))
  have hV2 : W2.heap[w2.heap.size]? = some (.cells #[.int .i64 fc, .int .i64 fa] 25 (0, 0)) := by subst hW2; exact heap_alloc_new _ _
  have hbb := hb2.trans (hbW2.mono hb2.size)
  have HW2 := Lib.hid hW2.symm
  have HV2 := Lib.hid hV2
  have HVV := Lib.hid ((hbb.block _ (blk_lt HV1.out)).trans HV1.out)
  have Hx1 := Lib.hid (Hv1.out.up hbb hbb.size)
  have Hx2 := Lib.hid (hv2.up hbW2 hbW2.size)
  have Hb2 := Lib.hid (Hb1.out.trans (hbb.mono Hb1.out.size))
  clear hb2 hv2 hv3 hW2 hbW2 hV2 hbb
  go_upto_region 3 with fail
  rw [HW2.out]
  go_wp2_with fail
  refine SameN_calls (metO l).1 _ _ _ Hx1.out Hx2.out _ (fun w3 hb3 => ?_)
  obtain ⟨e0, e1⟩ := cells_blk ((hb3.block _ (blk_lt HVV.out)).trans HVV.out)
  obtain ⟨f0, f1⟩ := cells_blk ((hb3.block _ (blk_lt HV2.out)).trans HV2.out)
  have hl1 : w1.heap.size < w3.heap.size := Nat.lt_of_lt_of_le (blk_lt HVV.out) hb3.size
  have hl2 : w2.heap.size < w3.heap.size := Nat.lt_of_lt_of_le (blk_lt HV2.out) hb3.size
  have hq : ∀ w, (binOp .eql 25 (.agg #[.int .i64 fc, .int .i64 fa]) (.agg #[.int .i64 fc, .int .i64 fa])).run Tryd.prog w = .ok (.bool true) w := fun w => by rw [eql_Fault]; simp
  have hend := Lib.hid (HR.out _ (Hb2.out.trans (hb3.mono Hb2.out.size)))
  clear hb3
  go_wp2
  exact hend.out

set_option maxRecDepth 100000 in
set_option maxHeartbeats 4000000 in
theorem Undone_calls (l : List Object) (v : Value) (w : World) (h : rpObject.SL w w.heap.size l v) (hS : Shapes w) (R : Ending → World → Prop)
    (hR : ∀ w' v1, Below w.heap.size w w' → rpStr.SL w' w'.heap.size (metO l).2 v1 → R (.returned (.tuple #[v1, (.agg #[.int .i64 (metF l).1, .int .i64 (metF l).2])])) w') :
    Calls Tryd.prog 16 #[v] w R := by
  have h0 := hS.1
  obtain ⟨A, c, rfl, hm, hcap, h⟩ := h.cases_
  have HR := Lib.hid hR
  have H := Lib.hid h
  have HSh := Lib.hid hS
  obtain ⟨W0, hW0⟩ : ∃ W0, W0 = w.alloc (Obj.cells #[.int .i64 0, .int .i64 0] 25) := ⟨_, rfl⟩
  have hb0 : Below w.heap.size w W0 := by subst hW0; exact (by repeat (first | exact Below.refl _ _ | assumption | refine below_drewN ?_ _ | refine Below.drew ?_ | refine Below.setCell ?_ (by first | omega | (simp; done) | (simp; omega)) _ | refine Below.alloc ?_ (by first | omega | (simp; done) | (simp; omega)) _ | refine below_step (by assumption) ?_ (by first | omega | (simp; done) | (simp; omega))))
  have hz0 : W0.heap.size = w.heap.size + 1 := by subst hW0; simp
  have hQ : W0.heap[w.heap.size]? = some (.cells #[.int .i64 0, .int .i64 0] 25 (0, 0)) := by subst hW0; exact heap_alloc_new _ _
  have HW := Lib.hid hW0.symm
  have HQ := Lib.hid hQ
  have Hb0 := Lib.hid hb0
  have hl0 : w.heap.size < W0.heap.size := by omega
  clear hR h hS hW0 hb0 hQ hz0
  go_enter Tryd.func16, Tryd.ntmps16
  go_upto_region 1 with fail
  rw [HW.out]
  go_wp2_with fail
  refine reach_calls l _ _ (H.out.up Hb0.out Hb0.out.size) (HSh.out.up Hb0.out h0) _ (fun hc w1 hb1 => ?_) (fun hc w1 X G gc base vo vu hlk hg => ?_)
  · have hmO := metO_bad hc
    obtain ⟨F, hF⟩ : ∃ F, F = metF l := ⟨_, rfl⟩
    rw [← hF] at hc ⊢
    obtain ⟨fc, fa⟩ := F
    simp only [] at hc ⊢
    have hq : ∀ w, (binOp .neq 25 (.agg #[.int .i64 fc, .int .i64 fa]) (.agg #[.int .i64 0, .int .i64 0])).run Tryd.prog w = .ok (.bool true) w := fun w => by
      rw [neq_Fault]
      simp [hc]
    have hfin : Hid (∀ W, Below w.heap.size w W → R (.returned (.tuple #[.slice none 0 0, .agg #[.int .i64 fc, .int .i64 fa]])) W) := Lib.hid fun W hb => by
      have := HR.out W (.slice none 0 0) hb (by rw [hmO]; exact Rp.SL.nil _ _ _)
      rw [← hF] at this
      exact this
    have hQ1 := (hb1.block _ hl0).trans HQ.out
    have HQ1 := Lib.hid hQ1
    have Hb1 := Lib.hid (Hb0.out.trans (hb1.mono Hb0.out.size))
    obtain ⟨q0, q1, z0, z1⟩ := cells_of_block hQ1
    have hl1 := blk_lt hQ1
    clear hc hF hmO hb1 hQ1
    go_wp2
    go_region
    all_goals
      go_wp2
      exact bodyPost_ret (v := .tuple #[.slice none 0 0, .agg #[.int .i64 fc, .int .i64 fa]]) (res_slice_Fault (by rfl) (by rfl) (by rfl) (cells_blk (by repeat (first | with_reducible exact HQ1.out | with_reducible refine blk_drew ?_ | with_reducible refine blk_drewN ?_ _ | with_reducible refine blk_alloc ?_ _ | with_reducible apply blk_set1 | with_reducible apply blk_set0 | with_reducible refine blk_other ?_ (by first | (simp; done) | omega | (simp; omega)) _)))) rfl (hfin.out _ (by
        have hb := Hb1.out
        exact (by repeat (first | exact Below.refl _ _ | assumption | refine below_drewN ?_ _ | refine Below.drew ?_ | refine Below.setCell ?_ (by first | omega | (simp; done) | (simp; omega)) _ | refine Below.alloc ?_ (by first | omega | (simp; done) | (simp; omega)) _ | refine below_step (by assumption) ?_ (by first | omega | (simp; done) | (simp; omega))))))
  · have hq : ∀ w, (binOp .neq 25 (.agg #[.int .i64 0, .int .i64 0]) (.agg #[.int .i64 0, .int .i64 0])).run Tryd.prog w = .ok (.bool false) w := fun w => neq_Fault 0 0 0 0 w
    obtain ⟨hlf, hmain, hmF, hmO⟩ := metF_cases l hc
    obtain ⟨A6, c6, hs6⟩ := own_slice hlk.two.ord
    obtain ⟨A7, c7, hs7⟩ := own_slice hlk.two.und
    subst hs6 hs7
    obtain ⟨W1, hW1⟩ : ∃ W1, W1 = w1.alloc (Obj.cells #[.int .i64 0, .int .i64 0] 25) := ⟨_, rfl⟩
    have hbW1 : Below w1.heap.size w1 W1 := by subst hW1; exact (by repeat (first | exact Below.refl _ _ | assumption | refine below_drewN ?_ _ | refine Below.drew ?_ | refine Below.setCell ?_ (by first | omega | (simp; done) | (simp; omega)) _ | refine Below.alloc ?_ (by first | omega | (simp; done) | (simp; omega)) _ | refine below_step (by assumption) ?_ (by first | omega | (simp; done) | (simp; omega))))
    have hV1 : W1.heap[w1.heap.size]? = some (.cells #[.int .i64 0, .int .i64 0] 25 (0, 0)) := by subst hW1; exact heap_alloc_new _ _
    have hlk1 := hlk.below hbW1
    have hbw1 := Hb0.out.trans (hlk1.bel.mono Hb0.out.size)
    have hQ1 := (hlk1.bel.block _ hl0).trans HQ.out
    have hbs : w.heap.size < base := by have := hlk.low; omega
    have htw := (hlk1.two.set ⟨w.heap.size, 0, none⟩ hbs (.int .i64 0)).set ⟨w.heap.size, 1, none⟩ hbs (.int .i64 0)
    have hend := HR.out ((W1.setCell ⟨w.heap.size, 0, none⟩ (.int .i64 0)).setCell ⟨w.heap.size, 1, none⟩ (.int .i64 0)) _ ((hbw1.setCell (p := ⟨w.heap.size, 0, none⟩) (Nat.le_refl _) _).setCell (p := ⟨w.heap.size, 1, none⟩) (Nat.le_refl _) _) (by rw [hmO]; exact SLstr_own htw.und (Nat.le_refl _))
    rw [hmF] at hend
    have Hend := Lib.hid hend
    have HW1 := Lib.hid hW1.symm
    have HQ1 := Lib.hid hQ1
    obtain ⟨x0, x1, x2, x3, xz⟩ := four_cells hlk1.blk
    obtain ⟨v0, v1, _, _⟩ := cells_of_block hV1
    obtain ⟨q0, q1, z0, z1⟩ := cells_of_block hQ1
    have hlX := blk_lt hlk1.blk
    have hlV := blk_lt hV1
    have hlQ := blk_lt hQ1
    clear hlk hlk1 hg hlf hmain hmF hmO hend htw hbw1 hW1 hbW1 hV1 hQ1 hc
    go_upto_region 2 with fail
    rw [HW1.out]
    go_wp2
    exact bodyPost_ret (v := .tuple #[_, .agg #[.int .i64 0, .int .i64 0]]) (res_slice_Fault (by rfl) (by rfl) (by rfl) (cells_blk (by repeat (first | with_reducible exact HQ1.out | with_reducible refine blk_drew ?_ | with_reducible refine blk_drewN ?_ _ | with_reducible refine blk_alloc ?_ _ | with_reducible apply blk_set1 | with_reducible apply blk_set0 | with_reducible refine blk_other ?_ (by first | (simp; done) | omega | (simp; omega)) _)))) rfl Hend.out

set_option maxRecDepth 100000 in
set_option maxHeartbeats 4000000 in
theorem LinkUndoneSays_calls (l : List Object) (v : Value) (w : World) (h : rpObject.SL w w.heap.size l v) (hS : Shapes w) (R : Ending → World → Prop)
    (hR : ∀ w', Below w.heap.size w w' → R (.returned (.bool true)) w') :
    Calls Tryd.prog 4 #[v] w R := by
  have h0 := hS.1
  obtain ⟨A, c, rfl, hm, hcap, h⟩ := h.cases_
  have HR := Lib.hid hR
  have H := Lib.hid h
  have HSh := Lib.hid hS
  clear hR h hS
  go_enter Tryd.func4, Tryd.ntmps4
  go_wp2_with fail
  refine Undone_calls l _ _ H.out HSh.out _ (fun w1 v1 hb1 hv1 => ?_)
  obtain ⟨A1, c1, rfl, _, _, hv1⟩ := hv1.cases_
  obtain ⟨F, hF⟩ : ∃ F, F = metF l := ⟨_, rfl⟩
  rw [← hF]
  have HF := Lib.hid hF
  obtain ⟨fc, fa⟩ := F
  simp only []
  obtain ⟨W1, hW1⟩ : ∃ W1, W1 = w1.alloc (Obj.cells #[.int .i64 fc, .int .i64 fa] 25) := ⟨_, rfl⟩
  have hbW1 : Below w1.heap.size w1 W1 := by subst hW1; exact (by repeat (first | exact Below.refl _ _ | assumption | refine below_drewN ?_ _ | refine Below.drew ?_ | refine Below.setCell ?_ (by first | omega | (simp; done) | (simp; omega)) _ | refine Below.alloc ?_ (by first | omega | (simp; done) | (simp; omega)) _ | refine below_step (by assumption) ?_ (by first | omega | (simp; done) | (simp; omega))))
  have hV1 : W1.heap[w1.heap.size]? = some (.cells #[.int .i64 fc, .int .i64 fa] 25 (0, 0)) := by subst hW1; exact heap_alloc_new _ _
  have HW1 := Lib.hid hW1.symm
  have HV1 := Lib.hid hV1
  have Hv1 := Lib.hid (hv1.up hbW1 hbW1.size)
  have Hb1 := Lib.hid (hb1.trans (hbW1.mono hb1.size))
  clear hF hb1 hv1 hW1 hbW1 hV1
  go_upto_region 2 with fail
  rw [HW1.out]
  go_wp2_with fail
  refine LinkMet_calls l _ _ (H.out.up Hb1.out Hb1.out.size) _ (fun w2 v2 v3 hb2 hv2 hv3 => ?_)
  rw [← HF.out]
  obtain ⟨A2, c2, rfl, _, _, hv2⟩ := hv2.cases_
  obtain ⟨A3, c3, rfl, _, _, hv3⟩ := hv3.cases_
  obtain ⟨W2, hW2⟩ : ∃ W2, W2 = w2.alloc (Obj.cells #[.int .i64 fc, .int .i64 fa] 25) := ⟨_, rfl⟩
  have hbW2 : Below w2.heap.size w2 W2 := by subst hW2; exact (by repeat (first | exact Below.refl _ _ | assumption | refine below_drewN ?_ _ | refine Below.drew ?_ | refine Below.setCell ?_ (by first | omega | (simp; done) | (simp; omega)) _ | refine Below.alloc ?_ (by first | omega | (simp; done) | (simp; omega)) _ | refine below_step (by assumption) ?_ (by first | omega | (simp; done) | (simp; omega))))
  have hV2 : W2.heap[w2.heap.size]? = some (.cells #[.int .i64 fc, .int .i64 fa] 25 (0, 0)) := by subst hW2; exact heap_alloc_new _ _
  have hbb := hb2.trans (hbW2.mono hb2.size)
  have HW2 := Lib.hid hW2.symm
  have HV2 := Lib.hid hV2
  have HVV := Lib.hid ((hbb.block _ (blk_lt HV1.out)).trans HV1.out)
  have Hx1 := Lib.hid (Hv1.out.up hbb hbb.size)
  have Hx2 := Lib.hid (hv3.up hbW2 hbW2.size)
  have Hb2 := Lib.hid (Hb1.out.trans (hbb.mono Hb1.out.size))
  clear hb2 hv2 hv3 hW2 hbW2 hV2 hbb
  go_upto_region 3 with fail
  rw [HW2.out]
  go_wp2_with fail
  refine SameN_calls (metO l).2 _ _ _ Hx1.out Hx2.out _ (fun w3 hb3 => ?_)
  obtain ⟨e0, e1⟩ := cells_blk ((hb3.block _ (blk_lt HVV.out)).trans HVV.out)
  obtain ⟨f0, f1⟩ := cells_blk ((hb3.block _ (blk_lt HV2.out)).trans HV2.out)
  have hl1 : w1.heap.size < w3.heap.size := Nat.lt_of_lt_of_le (blk_lt HVV.out) hb3.size
  have hl2 : w2.heap.size < w3.heap.size := Nat.lt_of_lt_of_le (blk_lt HV2.out) hb3.size
  have hq : ∀ w, (binOp .eql 25 (.agg #[.int .i64 fc, .int .i64 fa]) (.agg #[.int .i64 fc, .int .i64 fa])).run Tryd.prog w = .ok (.bool true) w := fun w => by rw [eql_Fault]; simp
  have hend := Lib.hid (HR.out _ (Hb2.out.trans (hb3.mono Hb2.out.size)))
  clear hb3
  go_wp2
  exact hend.out
end Go.Proofs.YtfhnmbnniklmiaaDoor
