/- link.Reach and link.Undone, compared with the document's answer. -/
import Derived.Test.YtemakpjickbmnaaDoorBase
import Derived.Test.YtemakpjickbmnaaDoorRows
import Derived.IntWalk
import Derived.Outline
import Derived.Deep.CutBlock
import Derived.Deep.DeepCutAuto
import Derived.Test.YtemakpjickbmnaaDoorLinkB
namespace Go.Proofs.YtemakpjickbmnaaDoor
open Go.RowKit
set_option linter.unusedSimpArgs false
set_option linter.unusedVariables false

theorem metO_bad {l : List Object} (h : (metF l).1 ≠ 0) : metO l = ([], []) := by
  unfold metO
  rw [if_pos h]

set_option maxRecDepth 100000 in
set_option maxHeartbeats 4000000 in
theorem Undone_calls (l : List Object) (v : Value) (w : World) (h : rpObject.SL w w.heap.size l v) (hS : Shapes w) (R : Ending → World → Prop)
    (hR : ∀ w' v1, Below w.heap.size w w' → rpStr.SL w' w'.heap.size (metO l).2 v1 → R (.returned (.tuple #[v1, (.agg #[.int .i64 (metF l).1, .int .i64 (metF l).2])])) w') :
    Calls Tryd.prog 26 #[v] w R := by
  have h0 := hS.1
  obtain ⟨A, c, rfl, hm, hcap, h⟩ := h.cases_
  have HR := Lib.hid hR
  have H := Lib.hid h
  have HSh := Lib.hid hS
  obtain ⟨W0, hW0⟩ : ∃ W0, W0 = w.alloc (Obj.cells #[.int .i64 0, .int .i64 0] 25) := ⟨_, rfl⟩
  have hb0 : Below w.heap.size w W0 := by subst hW0; exact bl0
  have hz0 : W0.heap.size = w.heap.size + 1 := by subst hW0; simp
  have hQ : W0.heap[w.heap.size]? = some (.cells #[.int .i64 0, .int .i64 0] 25 (0, 0)) := by subst hW0; exact heap_alloc_new _ _
  have HW := Lib.hid hW0.symm
  have HQ := Lib.hid hQ
  have Hb0 := Lib.hid hb0
  have hl0 : w.heap.size < W0.heap.size := by omega
  clear hR h hS hW0 hb0 hQ hz0
  go_enter Tryd.func26, Tryd.ntmps26
  go_upto_region 1 with fail
  rw [HW.out]
  go_wp2_with fail
  refine reach_calls l _ _ (H.out.up Hb0.out Hb0.out.size) (HSh.out.up Hb0.out h0) _ (fun hc w1 hb1 => ?_) (fun hc w1 X G gc base vo vu hlk hg => ?_)
  · have hmO := metO_bad hc
    obtain ⟨F, hF⟩ : ∃ F, F = metF l := ⟨_, rfl⟩
    rw [← hF] at hc ⊢
    obtain ⟨fc, fa⟩ := F
    simp only [] at hc ⊢
    have hq : ∀ w, (binOp .neq 25 (.agg #[.int .i64 fc, .int .i64 fa]) (.agg #[.int .i64 0, .int .i64 0])).run Tryd.prog w = .ok (.bool true) w := fun w => by
      rw [neq_Fault]
      simp [hc]
    have hfin : Hid (∀ W, Below w.heap.size w W → R (.returned (.tuple #[.slice none 0 0, .agg #[.int .i64 fc, .int .i64 fa]])) W) := Lib.hid fun W hb => by
      have := HR.out W (.slice none 0 0) hb (by rw [hmO]; exact Rp.SL.nil _ _ _)
      rw [← hF] at this
      exact this
    have hQ1 := (hb1.block _ hl0).trans HQ.out
    have HQ1 := Lib.hid hQ1
    have Hb1 := Lib.hid (Hb0.out.trans (hb1.mono Hb0.out.size))
    obtain ⟨q0, q1, z0, z1⟩ := cells_of_block hQ1
    have hl1 := blk_lt hQ1
    clear hc hF hmO hb1 hQ1
    go_wp2
    go_region
    all_goals
      go_wp2
      exact bodyPost_ret (v := .tuple #[.slice none 0 0, .agg #[.int .i64 fc, .int .i64 fa]]) (res_slice_Fault (by rfl) (by rfl) (by rfl) (cells_blk (blkp HQ1.out))) rfl (hfin.out _ (by
        have hb := Hb1.out
        exact bl0))
  · have hq : ∀ w, (binOp .neq 25 (.agg #[.int .i64 0, .int .i64 0]) (.agg #[.int .i64 0, .int .i64 0])).run Tryd.prog w = .ok (.bool false) w := fun w => neq_Fault 0 0 0 0 w
    obtain ⟨hlf, hmain, hmF, hmO⟩ := metF_cases l hc
    obtain ⟨A6, c6, hs6⟩ := own_slice hlk.two.ord
    obtain ⟨A7, c7, hs7⟩ := own_slice hlk.two.und
    subst hs6 hs7
    obtain ⟨W1, hW1⟩ : ∃ W1, W1 = w1.alloc (Obj.cells #[.int .i64 0, .int .i64 0] 25) := ⟨_, rfl⟩
    have hbW1 : Below w1.heap.size w1 W1 := by subst hW1; exact bl0
    have hV1 : W1.heap[w1.heap.size]? = some (.cells #[.int .i64 0, .int .i64 0] 25 (0, 0)) := by subst hW1; exact heap_alloc_new _ _
    have hlk1 := hlk.below hbW1
    have hbw1 := Hb0.out.trans (hlk1.bel.mono Hb0.out.size)
    have hQ1 := (hlk1.bel.block _ hl0).trans HQ.out
    have hbs : w.heap.size < base := by have := hlk.low; omega
    have htw := (hlk1.two.set ⟨w.heap.size, 0, none⟩ hbs (.int .i64 0)).set ⟨w.heap.size, 1, none⟩ hbs (.int .i64 0)
    have hend := HR.out ((W1.setCell ⟨w.heap.size, 0, none⟩ (.int .i64 0)).setCell ⟨w.heap.size, 1, none⟩ (.int .i64 0)) _ ((hbw1.setCell (p := ⟨w.heap.size, 0, none⟩) (Nat.le_refl _) _).setCell (p := ⟨w.heap.size, 1, none⟩) (Nat.le_refl _) _) (by rw [hmO]; exact SLstr_own htw.und (Nat.le_refl _))
    rw [hmF] at hend
    have Hend := Lib.hid hend
    have HW1 := Lib.hid hW1.symm
    have HQ1 := Lib.hid hQ1
    obtain ⟨x0, x1, x2, x3, xz⟩ := four_cells hlk1.blk
    obtain ⟨v0, v1, _, _⟩ := cells_of_block hV1
    obtain ⟨q0, q1, z0, z1⟩ := cells_of_block hQ1
    have hlX := blk_lt hlk1.blk
    have hlV := blk_lt hV1
    have hlQ := blk_lt hQ1
    clear hlk hlk1 hg hlf hmain hmF hmO hend htw hbw1 hW1 hbW1 hV1 hQ1 hc
    go_upto_region 2 with fail
    rw [HW1.out]
    go_wp2
    exact bodyPost_ret (v := .tuple #[_, .agg #[.int .i64 0, .int .i64 0]]) (res_slice_Fault (by rfl) (by rfl) (by rfl) (cells_blk (blkp HQ1.out))) rfl Hend.out

end Go.Proofs.YtemakpjickbmnaaDoor
