/- turnerykit.Sure: main that tells 7. -/
import Derived.Test.YtemakpjickbmnaaDoorBase
import Derived.Test.YtemakpjickbmnaaDoorRows
import Derived.IntWalk
import Derived.Outline
import Derived.Test.YtemakpjickbmnaaDoorKm2
namespace Go.Proofs.YtemakpjickbmnaaDoor
open Go.RowKit
set_option linter.unusedSimpArgs false
set_option linter.unusedVariables false

theorem sure_two : runO sureI [] 2 = ⟨0, 7, [], 2⟩ := by
  have h1 : (runO sureI [] 2).st = 0 := by unfold runO; rw [sure_codes]; decide +kernel
  have h2 : (runO sureI [] 2).val = 7 := by unfold runO; rw [sure_codes]; decide +kernel
  have h3 : (runO sureI [] 2).out = [] := by unfold runO; rw [sure_codes]; decide +kernel
  have h4 : (runO sureI [] 2).steps = 2 := by unfold runO; rw [sure_codes]; decide +kernel
  generalize runO sureI [] 2 = O at *
  obtain ⟨a, b, c, d⟩ := O
  simp only at h1 h2 h3 h4
  rw [h1, h2, h3, h4]
set_option maxRecDepth 100000 in
set_option maxHeartbeats 4000000 in
theorem KSure_calls (w : World) (hS : Shapes w) (R : Ending → World → Prop) (hR : ∀ w', Below w.heap.size w w' → R (.returned (.bool true)) w') : Calls Tryd.prog 21 #[] w R := by
  have h0 := hS.1
  have HR := Lib.hid hR
  have HSh := Lib.hid hS
  obtain ⟨W0, hW0⟩ : ∃ W0, W0 = w.alloc (Obj.cells #[.int .i64 1, .int .i64 0, .int .i64 0, .int .i64 0, .int .i64 7, .int .i64 45, .int .i64 0, .int .i64 0, .int .i64 0, .int .i64 0] 36) := ⟨_, rfl⟩
  have hb0 : Below w.heap.size w W0 := by subst hW0; exact bl0
  have hM : W0.heap[w.heap.size]? = some (.cells #[.int .i64 1, .int .i64 0, .int .i64 0, .int .i64 0, .int .i64 7, .int .i64 45, .int .i64 0, .int .i64 0, .int .i64 0, .int .i64 0] 36 (0, 0)) := by subst hW0; exact heap_alloc_new _ _
  have hSL : rpMac.SL W0 W0.heap.size sureC (.slice (some ⟨w.heap.size, 0, none⟩) 2 2) := by
    refine SLMac_own (base := w.heap.size) (e := 36) ⟨rfl, .inr ⟨w.heap.size, 2, _, rfl, Nat.le_refl _, hM, Nat.le_refl _, by unfold maxLen; decide, rfl, rfl⟩⟩ (Nat.le_refl _)
  have HW0 := Lib.hid hW0.symm
  have Hb0 := Lib.hid hb0
  have HSL := Lib.hid hSL
  clear hR hS hW0 hb0 hM hSL
  go_enter Tryd.func21, Tryd.ntmps21
  go_wp2_with fail
  rw [HW0.out]
  refine CodeP_calls sureC _ _ HSL.out (by decide +kernel) sure_good (by decide) (HSh.out.up Hb0.out h0) _ (fun w1 v9 hb1 hbuf => ?_)
  obtain ⟨A9, n9, rfl, _, _, hbuf⟩ := hbuf.cases_
  have hN : (codeB sureC).length = 4 := by decide +kernel
  rw [hN] at hbuf ⊢
  obtain ⟨W2, hW2⟩ : ∃ W2, W2 = (w1.alloc (Obj.cells #[.int .i64 0, .int .i64 0] 25)).alloc (Obj.cells #[.string ⟨#[109, 97, 105, 110]⟩, .slice A9 4 n9] 75) := ⟨_, rfl⟩
  have hbW2 : Below w1.heap.size w1 W2 := by subst hW2; exact bl0
  have hz2 : W2.heap.size = w1.heap.size + 2 := by subst hW2; simp
  have hS2 : W2.heap[w1.heap.size + 1]? = some (.cells #[.string ⟨#[109, 97, 105, 110]⟩, .slice A9 4 n9] 75 (0, 0)) := by
    subst hW2
    have := heap_alloc_new (w1.alloc (Obj.cells #[.int .i64 0, .int .i64 0] 25)) (Obj.cells #[.string ⟨#[109, 97, 105, 110]⟩, .slice A9 4 n9] 75)
    simpa using this
  have hcode : rpByte.SL W2 W2.heap.size (codeB sureC) (.slice A9 4 n9) := hbuf.up hbW2 hbW2.size
  have hr2 : rpRoutine.SL W2 W2.heap.size [⟨mainB, codeB sureC⟩] (.slice (some ⟨w1.heap.size + 1, 0, none⟩) 1 1) := SL_one (cs := [.string ⟨#[109, 97, 105, 110]⟩, .slice A9 4 n9]) hS2 (by omega) (rpRoutine_mk hcode)
  have HW2 := Lib.hid hW2.symm
  have HB2 := Lib.hid (Hb0.out.trans ((hb1.trans (hbW2.mono hb1.size)).mono Hb0.out.size))
  have Hr2 := Lib.hid hr2
  clear hb1 hbuf hW2 hbW2 hz2 hS2 hcode hr2 hN
  have HShW := Lib.hid (HSh.out.up HB2.out h0)
  go_wp2_with fail
  rw [HW2.out]
  refine Run_calls sureI _ _ _ [] 2 _ (Rp.SL.nil _ _ _) Hr2.out sure_img HShW.out (Rp.SL.nil _ _ _) (by decide) (by decide) _ (fun w5 vo hb5 hvo => ?_)
  rw [sure_two] at hvo ⊢
  obtain ⟨A5, n5, rfl, _, _, _⟩ := hvo.cases_
  have Hb5 := Lib.hid (HB2.out.trans (hb5.mono HB2.out.size))
  clear hvo hb5
  go_wp2
  exact HR.out _ ((Hb5.out.alloc Hb5.out.size _).alloc (by have := Hb5.out.size; simp; omega) _)
end Go.Proofs.YtemakpjickbmnaaDoor
