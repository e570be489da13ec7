/- The laws of package frame: for every frame, Enter and Leave tell what the references tell. -/
import Derived.Test.YtmlmnhhgdcfchaaLib
import Derived.Test.YtmlmnhhgdcfchaaRows
import Derived.IntWalk
import Derived.Test.YtmlmnhhgdcfchaaFrame3
namespace Go.Proofs.Ytmlmnhhgdcfchaa
open Go.RowKit
set_option linter.unusedSimpArgs false
set_option linter.unusedVariables false

set_option maxHeartbeats 400000 in
theorem EnterSays_calls (s : Int) (v : Value) (xs : List Int) (w : World) (h : rpInt.SL w w.heap.size xs v) (R : Ending → World → Prop)
    (hR : ∀ w', Below w.heap.size w w' → R (.returned (.bool true)) w') :
    Calls Try.prog 3 #[.agg #[.int .i64 s, v]] w R := by
  have hms : Try.prog.eqGuardType Try.prog.depth 27 = false := by kernel_rfl
  by_cases hf : (frameFault s xs).1 = 0
  · obtain ⟨h1, hs0, hs1, hn⟩ := frameFault_ok hf
    have heq := eql_Fault 0 0 0 0
    rw [decide_eq_true ⟨rfl, rfl⟩] at heq
    have hrf := RefFault_calls s v xs
    rw [h1] at hrf
    have Hr := Lib.hid hrf
    have H1 := Lib.hid h1
    clear hf hrf h1
    go_enter Try.func3, Try.ntmps3
    go_wp2_with fail
    refine Enter_good _ _ _ _ (h.up (by repeat (first | exact Below.refl _ _ | assumption | refine below_drewN ?_ _ | refine Below.drew ?_ | refine Below.setCell ?_ (by first | omega | (simp; done) | (simp; omega)) _ | refine Below.alloc ?_ (by first | omega | (simp; done) | (simp; omega)) _ | refine below_step (by assumption) ?_ (by first | omega | (simp; done) | (simp; omega)))) (by first | omega | (simp; done) | (simp; omega))) H1.out hs0 hs1 hn _ ?_
    intro w1 v1 hb1 ho1
    obtain ⟨hc1, hf1⟩ := bcell hb1
    have hz : w.heap.size < w1.heap.size := by have := hb1.size; simp at this; omega
    go_wp2_with fail
    refine Hr.out _ (h.up (by repeat (first | exact Below.refl _ _ | assumption | refine below_drewN ?_ _ | refine Below.drew ?_ | refine Below.setCell ?_ (by first | omega | (simp; done) | (simp; omega)) _ | refine Below.alloc ?_ (by first | omega | (simp; done) | (simp; omega)) _ | refine below_step (by assumption) ?_ (by first | omega | (simp; done) | (simp; omega)))) (by first | omega | (simp; done) | (simp; omega))) _ ?_
    intro w2 hb2
    obtain ⟨hc2, hf2⟩ := bcell hb2
    have hy : w1.heap.size < w2.heap.size := by have := hb2.size; simp at this; omega
    have hy0 : w.heap.size < w2.heap.size := by omega
    go_wp2_with fail
    refine FrameEnter_calls _ _ _ _ (h.up (by repeat (first | exact Below.refl _ _ | assumption | refine below_drewN ?_ _ | refine Below.drew ?_ | refine Below.setCell ?_ (by first | omega | (simp; done) | (simp; omega)) _ | refine Below.alloc ?_ (by first | omega | (simp; done) | (simp; omega)) _ | refine below_step (by assumption) ?_ (by first | omega | (simp; done) | (simp; omega)))) (by first | omega | (simp; done) | (simp; omega))) hs0 hs1 hn _ ?_
    intro w3 v3 hb3 ho3
    have hy3 : w1.heap.size ≤ w3.heap.size := by have := hb3.size; simp at this; omega
    go_wp2_with fail
    refine SameMacs_calls _ _ (entered s xs) (entered s xs) _ w3.heap.size (Rp.SL.up (B := w1.heap.size) (SLMac_own (by rw [entered_length]; exact ho1) (Nat.le_refl _)) (by repeat (first | exact Below.refl _ _ | assumption | refine below_drewN ?_ _ | refine Below.drew ?_ | refine Below.setCell ?_ (by first | omega | (simp; done) | (simp; omega)) _ | refine Below.alloc ?_ (by first | omega | (simp; done) | (simp; omega)) _ | refine below_step (by assumption) ?_ (by first | omega | (simp; done) | (simp; omega)))) (by first | omega | (simp; done) | (simp; omega))) (SLMac_own (by rw [entered_length]; exact ho3) (Nat.le_refl _)) _ ?_
    intro n
    go_wp2
    first | exact (by repeat (first | exact Below.refl _ _ | assumption | refine below_drewN ?_ _ | refine Below.drew ?_ | refine Below.setCell ?_ (by first | omega | (simp; done) | (simp; omega)) _ | refine Below.alloc ?_ (by first | omega | (simp; done) | (simp; omega)) _ | refine below_step (by assumption) ?_ (by first | omega | (simp; done) | (simp; omega)))) | exact hR _ (by repeat (first | exact Below.refl _ _ | assumption | refine below_drewN ?_ _ | refine Below.drew ?_ | refine Below.setCell ?_ (by first | omega | (simp; done) | (simp; omega)) _ | refine Below.alloc ?_ (by first | omega | (simp; done) | (simp; omega)) _ | refine below_step (by assumption) ?_ (by first | omega | (simp; done) | (simp; omega))))
  · have hfe : ((frameFault s xs).1 != 0) = true := by simp [hf]
    generalize hff : frameFault s xs = f at *
    have heq := eql_Fault f.1 f.2 f.1 f.2
    rw [decide_eq_true ⟨rfl, rfl⟩] at heq
    have hrf := RefFault_calls s v xs
    rw [hff] at hrf
    have Hr := Lib.hid hrf
    have H1 := Lib.hid hff
    have H0 := Lib.hid hf
    clear hf hff hrf
    go_enter Try.func3, Try.ntmps3
    go_wp2_with fail
    refine Enter_bad _ _ _ _ (h.up (by repeat (first | exact Below.refl _ _ | assumption | refine below_drewN ?_ _ | refine Below.drew ?_ | refine Below.setCell ?_ (by first | omega | (simp; done) | (simp; omega)) _ | refine Below.alloc ?_ (by first | omega | (simp; done) | (simp; omega)) _ | refine below_step (by assumption) ?_ (by first | omega | (simp; done) | (simp; omega)))) (by first | omega | (simp; done) | (simp; omega))) _ H1.out H0.out _ ?_
    intro w1 hb1
    obtain ⟨hc1, hf1⟩ := bcell hb1
    have hz : w.heap.size < w1.heap.size := by have := hb1.size; simp at this; omega
    go_wp2_with fail
    refine Hr.out _ (h.up (by repeat (first | exact Below.refl _ _ | assumption | refine below_drewN ?_ _ | refine Below.drew ?_ | refine Below.setCell ?_ (by first | omega | (simp; done) | (simp; omega)) _ | refine Below.alloc ?_ (by first | omega | (simp; done) | (simp; omega)) _ | refine below_step (by assumption) ?_ (by first | omega | (simp; done) | (simp; omega)))) (by first | omega | (simp; done) | (simp; omega))) _ ?_
    intro w2 hb2
    obtain ⟨hc2, hf2⟩ := bcell hb2
    have hy : w1.heap.size < w2.heap.size := by have := hb2.size; simp at this; omega
    have hy0 : w.heap.size < w2.heap.size := by omega
    go_wp2
    first | exact (by repeat (first | exact Below.refl _ _ | assumption | refine below_drewN ?_ _ | refine Below.drew ?_ | refine Below.setCell ?_ (by first | omega | (simp; done) | (simp; omega)) _ | refine Below.alloc ?_ (by first | omega | (simp; done) | (simp; omega)) _ | refine below_step (by assumption) ?_ (by first | omega | (simp; done) | (simp; omega)))) | exact hR _ (by repeat (first | exact Below.refl _ _ | assumption | refine below_drewN ?_ _ | refine Below.drew ?_ | refine Below.setCell ?_ (by first | omega | (simp; done) | (simp; omega)) _ | refine Below.alloc ?_ (by first | omega | (simp; done) | (simp; omega)) _ | refine below_step (by assumption) ?_ (by first | omega | (simp; done) | (simp; omega))))

set_option maxHeartbeats 400000 in
theorem LeaveSays_calls (s : Int) (v : Value) (xs : List Int) (w : World) (h : rpInt.SL w w.heap.size xs v) (R : Ending → World → Prop)
    (hR : ∀ w', Below w.heap.size w w' → R (.returned (.bool true)) w') :
    Calls Try.prog 4 #[.agg #[.int .i64 s, v]] w R := by
  have hms : Try.prog.eqGuardType Try.prog.depth 27 = false := by kernel_rfl
  by_cases hf : (frameFault s xs).1 = 0
  · obtain ⟨h1, hs0, hs1, hn⟩ := frameFault_ok hf
    have heq := eql_Fault 0 0 0 0
    rw [decide_eq_true ⟨rfl, rfl⟩] at heq
    have hrf := RefFault_calls s v xs
    rw [h1] at hrf
    have Hr := Lib.hid hrf
    have H1 := Lib.hid h1
    clear hf hrf h1
    go_enter Try.func4, Try.ntmps4
    go_wp2_with fail
    refine Leave_good _ _ _ _ (h.up (by repeat (first | exact Below.refl _ _ | assumption | refine below_drewN ?_ _ | refine Below.drew ?_ | refine Below.setCell ?_ (by first | omega | (simp; done) | (simp; omega)) _ | refine Below.alloc ?_ (by first | omega | (simp; done) | (simp; omega)) _ | refine below_step (by assumption) ?_ (by first | omega | (simp; done) | (simp; omega)))) (by first | omega | (simp; done) | (simp; omega))) H1.out hs0 hs1 hn _ ?_
    intro w1 v1 hb1 ho1
    obtain ⟨hc1, hf1⟩ := bcell hb1
    have hz : w.heap.size < w1.heap.size := by have := hb1.size; simp at this; omega
    go_wp2_with fail
    refine Hr.out _ (h.up (by repeat (first | exact Below.refl _ _ | assumption | refine below_drewN ?_ _ | refine Below.drew ?_ | refine Below.setCell ?_ (by first | omega | (simp; done) | (simp; omega)) _ | refine Below.alloc ?_ (by first | omega | (simp; done) | (simp; omega)) _ | refine below_step (by assumption) ?_ (by first | omega | (simp; done) | (simp; omega)))) (by first | omega | (simp; done) | (simp; omega))) _ ?_
    intro w2 hb2
    obtain ⟨hc2, hf2⟩ := bcell hb2
    have hy : w1.heap.size < w2.heap.size := by have := hb2.size; simp at this; omega
    have hy0 : w.heap.size < w2.heap.size := by omega
    go_wp2_with fail
    refine FrameLeave_calls _ _ _ _ (h.up (by repeat (first | exact Below.refl _ _ | assumption | refine below_drewN ?_ _ | refine Below.drew ?_ | refine Below.setCell ?_ (by first | omega | (simp; done) | (simp; omega)) _ | refine Below.alloc ?_ (by first | omega | (simp; done) | (simp; omega)) _ | refine below_step (by assumption) ?_ (by first | omega | (simp; done) | (simp; omega)))) (by first | omega | (simp; done) | (simp; omega))) hs0 hs1 hn _ ?_
    intro w3 v3 hb3 ho3
    have hy3 : w1.heap.size ≤ w3.heap.size := by have := hb3.size; simp at this; omega
    go_wp2_with fail
    refine SameMacs_calls _ _ (left s xs ++ [macReturn]) (left s xs ++ [macReturn]) _ w3.heap.size (Rp.SL.up (B := w1.heap.size) (SLMac_own (by rw [List.length_append, left_length]; exact ho1) (Nat.le_refl _)) (by repeat (first | exact Below.refl _ _ | assumption | refine below_drewN ?_ _ | refine Below.drew ?_ | refine Below.setCell ?_ (by first | omega | (simp; done) | (simp; omega)) _ | refine Below.alloc ?_ (by first | omega | (simp; done) | (simp; omega)) _ | refine below_step (by assumption) ?_ (by first | omega | (simp; done) | (simp; omega)))) (by first | omega | (simp; done) | (simp; omega))) (SLMac_own (by rw [List.length_append, left_length]; exact ho3) (Nat.le_refl _)) _ ?_
    intro n
    go_wp2
    first | exact (by repeat (first | exact Below.refl _ _ | assumption | refine below_drewN ?_ _ | refine Below.drew ?_ | refine Below.setCell ?_ (by first | omega | (simp; done) | (simp; omega)) _ | refine Below.alloc ?_ (by first | omega | (simp; done) | (simp; omega)) _ | refine below_step (by assumption) ?_ (by first | omega | (simp; done) | (simp; omega)))) | exact hR _ (by repeat (first | exact Below.refl _ _ | assumption | refine below_drewN ?_ _ | refine Below.drew ?_ | refine Below.setCell ?_ (by first | omega | (simp; done) | (simp; omega)) _ | refine Below.alloc ?_ (by first | omega | (simp; done) | (simp; omega)) _ | refine below_step (by assumption) ?_ (by first | omega | (simp; done) | (simp; omega))))
  · have hfe : ((frameFault s xs).1 != 0) = true := by simp [hf]
    generalize hff : frameFault s xs = f at *
    have heq := eql_Fault f.1 f.2 f.1 f.2
    rw [decide_eq_true ⟨rfl, rfl⟩] at heq
    have hrf := RefFault_calls s v xs
    rw [hff] at hrf
    have Hr := Lib.hid hrf
    have H1 := Lib.hid hff
    have H0 := Lib.hid hf
    clear hf hff hrf
    go_enter Try.func4, Try.ntmps4
    go_wp2_with fail
    refine Leave_bad _ _ _ _ (h.up (by repeat (first | exact Below.refl _ _ | assumption | refine below_drewN ?_ _ | refine Below.drew ?_ | refine Below.setCell ?_ (by first | omega | (simp; done) | (simp; omega)) _ | refine Below.alloc ?_ (by first | omega | (simp; done) | (simp; omega)) _ | refine below_step (by assumption) ?_ (by first | omega | (simp; done) | (simp; omega)))) (by first | omega | (simp; done) | (simp; omega))) _ H1.out H0.out _ ?_
    intro w1 hb1
    obtain ⟨hc1, hf1⟩ := bcell hb1
    have hz : w.heap.size < w1.heap.size := by have := hb1.size; simp at this; omega
    go_wp2_with fail
    refine Hr.out _ (h.up (by repeat (first | exact Below.refl _ _ | assumption | refine below_drewN ?_ _ | refine Below.drew ?_ | refine Below.setCell ?_ (by first | omega | (simp; done) | (simp; omega)) _ | refine Below.alloc ?_ (by first | omega | (simp; done) | (simp; omega)) _ | refine below_step (by assumption) ?_ (by first | omega | (simp; done) | (simp; omega)))) (by first | omega | (simp; done) | (simp; omega))) _ ?_
    intro w2 hb2
    obtain ⟨hc2, hf2⟩ := bcell hb2
    have hy : w1.heap.size < w2.heap.size := by have := hb2.size; simp at this; omega
    have hy0 : w.heap.size < w2.heap.size := by omega
    go_wp2
    first | exact (by repeat (first | exact Below.refl _ _ | assumption | refine below_drewN ?_ _ | refine Below.drew ?_ | refine Below.setCell ?_ (by first | omega | (simp; done) | (simp; omega)) _ | refine Below.alloc ?_ (by first | omega | (simp; done) | (simp; omega)) _ | refine below_step (by assumption) ?_ (by first | omega | (simp; done) | (simp; omega)))) | exact hR _ (by repeat (first | exact Below.refl _ _ | assumption | refine below_drewN ?_ _ | refine Below.drew ?_ | refine Below.setCell ?_ (by first | omega | (simp; done) | (simp; omega)) _ | refine Below.alloc ?_ (by first | omega | (simp; done) | (simp; omega)) _ | refine below_step (by assumption) ?_ (by first | omega | (simp; done) | (simp; omega))))
end Go.Proofs.Ytmlmnhhgdcfchaa
