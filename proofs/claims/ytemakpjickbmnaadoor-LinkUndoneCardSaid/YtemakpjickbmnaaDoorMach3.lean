/- machine.Check, of an image that may be. -/
import Derived.Test.YtemakpjickbmnaaDoorBase
import Derived.Test.YtemakpjickbmnaaDoorRows
import Derived.IntWalk
import Derived.Outline
import Derived.Test.YtemakpjickbmnaaDoorMachC
namespace Go.Proofs.YtemakpjickbmnaaDoor
open Go.RowKit
set_option linter.unusedSimpArgs false
set_option linter.unusedVariables false

set_option maxHeartbeats 1000000 in
theorem MachCheck_calls (im : Image) (v1 v2 : Value) (w : World) (h1 : rpGlobal.SL w w.heap.size im.globals v1) (h2 : rpRoutine.SL w w.heap.size im.routines v2) (ok : ImgOk im) (hS : Shapes w) (R : Ending → World → Prop)
    (hR : ∀ w', Below w.heap.size w w' → R (.returned (.agg #[.int .i64 0, .int .i64 0])) w') :
    Calls Tryd.prog 29 #[.agg #[v1, v2]] w R := by
  have h0 := hS.1
  obtain ⟨A1, c1, rfl, _, _, h1⟩ := h1.cases_
  obtain ⟨A2, c2, rfl, _, hcap2, h2⟩ := h2.cases_
  have HR := Lib.hid hR
  have HSh := Lib.hid hS
  have Hok := Lib.hid ok
  have HG := Lib.hid h1
  have HT := Lib.hid h2
  obtain ⟨W0, hW0⟩ : ∃ W0, W0 = (w.alloc (Obj.cells #[.slice A1 im.globals.length c1, .slice A2 im.routines.length c2] 50)).alloc (Obj.cells #[.int .i64 0, .int .i64 0] 25) := ⟨_, rfl⟩
  have hb0 : Below w.heap.size w W0 := by subst hW0; exact bl0
  have hI : W0.heap[w.heap.size]? = some (.cells #[.slice A1 im.globals.length c1, .slice A2 im.routines.length c2] 50 (0, 0)) := by
    subst hW0
    exact blk_alloc (heap_alloc_new _ _) _
  have hF : W0.heap[w.heap.size + 1]? = some (.cells #[.int .i64 0, .int .i64 0] 25 (0, 0)) := by
    subst hW0
    have := heap_alloc_new (w.alloc (Obj.cells #[.slice A1 im.globals.length c1, .slice A2 im.routines.length c2] 50)) (Obj.cells #[.int .i64 0, .int .i64 0] 25)
    simpa using this
  obtain ⟨i0, i1⟩ := cells_blk hI
  have hlF := blk_lt hF
  have HW0 := Lib.hid hW0.symm
  have Hb0 := Lib.hid hb0
  have HF := Lib.hid hF
  clear hR hS ok h1 h2 hW0 hb0 hI hF
  go_enter Tryd.func29, Tryd.ntmps29
  go_upto_region 1 with fail
  rw [HW0.out]
  go_wp2_with fail
  refine load_calls im _ _ _ (HG.out.up Hb0.out Hb0.out.size) (HT.out.up Hb0.out Hb0.out.size) Hok.out (HSh.out.up Hb0.out h0) _ (fun w1 v hb1 hv => ?_)
  obtain ⟨W1, hW1⟩ : ∃ W1, W1 = w1.alloc (Obj.cells #[.int .i64 0, .int .i64 0] 25) := ⟨_, rfl⟩
  have hbW1 : Below w1.heap.size w1 W1 := by subst hW1; exact bl0
  have hE : W1.heap[w1.heap.size]? = some (.cells #[.int .i64 0, .int .i64 0] 25 (0, 0)) := by subst hW1; exact heap_alloc_new _ _
  have hbb := hb1.trans (hbW1.mono hb1.size)
  have hFW := (hbb.block _ hlF).trans HF.out
  have HFW := Lib.hid hFW
  obtain ⟨f0, f1, z0, z1⟩ := cells_of_block hFW
  have hlF1 := blk_lt hFW
  obtain ⟨e0, e1⟩ := cells_blk hE
  have hlE := blk_lt hE
  have hne : w1.heap.size ≠ w.heap.size + 1 := by have := hb1.size; omega
  have hbw := Hb0.out.trans (hbb.mono Hb0.out.size)
  have Hend := Lib.hid (HR.out _ ((hbw.setCell (p := ⟨w.heap.size + 1, 0, none⟩) (by simp) (.int .i64 0)).setCell (p := ⟨w.heap.size + 1, 1, none⟩) (by simp) (.int .i64 0)))
  have HW1 := Lib.hid hW1.symm
  clear hb1 hv hW1 hbW1 hE hbb hFW hbw
  go_upto_region 2 with fail
  rw [HW1.out]
  go_wp2
  exact bodyPost_ret (v := .agg #[.int .i64 0, .int .i64 0]) (res_Fault (by rfl) (by rfl) (cells_blk (blkp HFW.out))) rfl Hend.out
end Go.Proofs.YtemakpjickbmnaaDoor
