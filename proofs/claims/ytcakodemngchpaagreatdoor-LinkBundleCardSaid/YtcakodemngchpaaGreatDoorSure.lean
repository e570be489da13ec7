/- linkSure: main that tells 7, linked and run. -/
import Derived.Test.YtcakodemngchpaaGreatDoorBase
import Derived.Test.YtcakodemngchpaaGreatDoorRows
import Derived.IntWalk
import Derived.Outline
import Derived.Test.YtcakodemngchpaaGreatDoorLinkC
import Derived.Test.YtcakodemngchpaaGreatDoorKitW
import Derived.Test.YtcakodemngchpaaGreatDoorLawA
import Derived.Test.YtcakodemngchpaaGreatDoorMachD
namespace Go.Proofs.YtcakodemngchpaaGreatDoor
open Go.RowKit
set_option linter.unusedSimpArgs false
set_option linter.unusedVariables false

set_option maxHeartbeats 4000000 in
theorem linkSure_calls (w : World) (hS : Shapes w) (R : Ending → World → Prop) (hR : ∀ w', Below w.heap.size w w' → R (.returned (.bool true)) w') : Calls Tryz.prog 7 #[] w R := by
  have h0 := hS.1
  have HR := Lib.hid hR
  have HSh := Lib.hid hS
  obtain ⟨W0, hW0⟩ : ∃ W0, W0 = w.alloc (Obj.cells #[.int .i64 1, .int .i64 0, .int .i64 0, .int .i64 0, .int .i64 7, .int .i64 45, .int .i64 0, .int .i64 0, .int .i64 0, .int .i64 0] 54) := ⟨_, rfl⟩
  have hb0 : Below w.heap.size w W0 := by subst hW0; exact bl0
  have hM : W0.heap[w.heap.size]? = some (.cells #[.int .i64 1, .int .i64 0, .int .i64 0, .int .i64 0, .int .i64 7, .int .i64 45, .int .i64 0, .int .i64 0, .int .i64 0, .int .i64 0] 54 (0, 0)) := by subst hW0; exact heap_alloc_new _ _
  have hSL : rpMac.SL W0 W0.heap.size sureC (.slice (some ⟨w.heap.size, 0, none⟩) 2 2) := by
    refine SLMac_own (base := w.heap.size) (e := 54) ⟨rfl, .inr ⟨w.heap.size, 2, _, rfl, Nat.le_refl _, hM, Nat.le_refl _, by unfold maxLen; decide, rfl, rfl⟩⟩ (Nat.le_refl _)
  have HW0 := Lib.hid hW0.symm
  have Hb0 := Lib.hid hb0
  have HSL := Lib.hid hSL
  clear hR hS hW0 hb0 hM hSL
  go_enter Tryz.func7, Tryz.ntmps7
  go_wp2_with fail
  rw [HW0.out]
  refine CodeBytes_calls sureC _ _ HSL.out sure_good (by decide) _ (fun w1 v9 hb1 hbuf => ?_)
  obtain ⟨A9, n9, rfl⟩ := hbuf.slice
  obtain ⟨W2, hW2⟩ : ∃ W2, W2 = (w1.alloc (Obj.cells #[.string ⟨#[109, 97, 105, 110]⟩, .slice A9 (codeB sureC).length n9, .slice none 0 0] 58)).alloc (Obj.cells #[.slice none 0 0, .slice (some ⟨w1.heap.size, 0, none⟩) 1 1] 40) := ⟨_, rfl⟩
  have hbW2 : Below w1.heap.size w1 W2 := by subst hW2; exact bl0
  have hz2 : W2.heap.size = w1.heap.size + 2 := by subst hW2; simp
  have hS2 : W2.heap[w1.heap.size]? = some (.cells #[.string ⟨#[109, 97, 105, 110]⟩, .slice A9 (codeB sureC).length n9, .slice none 0 0] 58 (0, 0)) := by subst hW2; exact blk_alloc (heap_alloc_new _ _) _
  have hO2 : W2.heap[w1.heap.size + 1]? = some (.cells #[.slice none 0 0, .slice (some ⟨w1.heap.size, 0, none⟩) 1 1] 40 (0, 0)) := by
    subst hW2
    have := heap_alloc_new (w1.alloc (Obj.cells #[.string ⟨#[109, 97, 105, 110]⟩, .slice A9 (codeB sureC).length n9, .slice none 0 0] 58)) (Obj.cells #[.slice none 0 0, .slice (some ⟨w1.heap.size, 0, none⟩) 1 1] 40)
    simpa using this
  have hcode : rpByte.SL W2 W2.heap.size (codeB sureC) (.slice A9 (codeB sureC).length n9) := (hbuf.SL (Nat.le_refl _)).up hbW2 hbW2.size
  have hsec : rpSection.SL W2 W2.heap.size [⟨mainB, codeB sureC, []⟩] (.slice (some ⟨w1.heap.size, 0, none⟩) 1 1) := SL_one (cs := [.string ⟨#[109, 97, 105, 110]⟩, .slice A9 (codeB sureC).length n9, .slice none 0 0]) hS2 (by omega) (rpSection_mk hcode (Rp.SL.nil _ _ _))
  have hobj : rpObject.SL W2 W2.heap.size [sureO] (.slice (some ⟨w1.heap.size + 1, 0, none⟩) 1 1) := SL_one (cs := [.slice none 0 0, .slice (some ⟨w1.heap.size, 0, none⟩) 1 1]) hO2 (by omega) (rpObject_mk (Rp.SL.nil _ _ _) hsec)
  have HW2 := Lib.hid hW2.symm
  have HB2 := Lib.hid (Hb0.out.trans ((hb1.trans (hbW2.mono hb1.size)).mono Hb0.out.size))
  have Hobj := Lib.hid hobj
  clear hb1 hbuf hW2 hbW2 hz2 hS2 hO2 hcode hsec hobj
  have HShW := Lib.hid (HSh.out.up HB2.out h0)
  go_wp2_with fail
  rw [HW2.out]
  refine Do_calls [sureO] _ _ Hobj.out HShW.out _ (fun w3 v1 v2 hb3 hg3 hr3 => ?_)
  rw [sure_do] at hg3 hr3 ⊢
  have hg3' : rpGlobal.SL w3 w3.heap.size sureI.globals v1 := hg3
  have hr3' : rpRoutine.SL w3 w3.heap.size sureI.routines v2 := hr3
  obtain ⟨A1, n1, rfl, _, _, hg3'⟩ := hg3'.cases_
  obtain ⟨A2, n2, rfl, _, _, hr3'⟩ := hr3'.cases_
  obtain ⟨W4, hW4⟩ : ∃ W4, W4 = (w3.alloc (Obj.cells #[.slice A1 sureI.globals.length n1, .slice A2 sureI.routines.length n2] 43)).alloc (Obj.cells #[.int .i64 0, .int .i64 0] 27) := ⟨_, rfl⟩
  have hbW4 : Below w3.heap.size w3 W4 := by subst hW4; exact bl0
  have hI4 : W4.heap[w3.heap.size]? = some (.cells #[.slice A1 sureI.globals.length n1, .slice A2 sureI.routines.length n2] 43 (0, 0)) := by subst hW4; exact blk_alloc (heap_alloc_new _ _) _
  have hF4 : W4.heap[w3.heap.size + 1]? = some (.cells #[.int .i64 0, .int .i64 0] 27 (0, 0)) := by
    subst hW4
    have := heap_alloc_new (w3.alloc (Obj.cells #[.slice A1 sureI.globals.length n1, .slice A2 sureI.routines.length n2] 43)) (Obj.cells #[.int .i64 0, .int .i64 0] 27)
    simpa using this
  obtain ⟨i0, i1⟩ := cells_blk hI4
  obtain ⟨f0, f1⟩ := cells_blk hF4
  have hb4 := HB2.out.trans ((hb3.trans (hbW4.mono hb3.size)).mono HB2.out.size)
  have HW4 := Lib.hid hW4.symm
  have Hb4 := Lib.hid hb4
  have HG4 := Lib.hid (hg3'.up hbW4 hbW4.size)
  have HR4 := Lib.hid (hr3'.up hbW4 hbW4.size)
  have HS4 := Lib.hid (HSh.out.up hb4 h0)
  have l1 : ((sureI.routines.length : Int) == 1) = true := by decide
  have l2 : (sureI.routines.length : Int) = 1 := by decide
  clear hb3 hg3 hr3 hg3' hr3' hW4 hbW4 hI4 hF4 hb4
  go_upto_region 2 with fail
  rw [HW4.out]
  go_wp2_with fail
  refine Run_calls sureI _ _ _ [] 9 _ HG4.out HR4.out sure_img HS4.out (Rp.SL.nil _ _ _) (by decide) (by decide) _ (fun w5 vo hb5 hvo => ?_)
  rw [sure_run]
  obtain ⟨A5, n5, rfl, _, _, _⟩ := hvo.cases_
  have Hb5 := Lib.hid (Hb4.out.trans (hb5.mono Hb4.out.size))
  clear hvo hb5 i0 i1 f0 f1
  go_wp2
  exact HR.out _ ((Hb5.out.alloc Hb5.out.size _).alloc (by have := Hb5.out.size; simp; omega) _)
end Go.Proofs.YtcakodemngchpaaGreatDoor
