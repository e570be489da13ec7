/- Moves: the law on rows. -/
import Derived.Test.YtmlmnhhgdcfchaaLib
import Derived.Test.YtmlmnhhgdcfchaaRows
import Derived.IntWalk
import Derived.Test.YtmlmnhhgdcfchaaMoves6
namespace Go.Proofs.Ytmlmnhhgdcfchaa
open Go.RowKit
set_option linter.unusedSimpArgs false
set_option linter.unusedVariables false

set_option maxHeartbeats 400000 in
theorem RowSays_calls (v : Value) (xs : List Move) (spare : Int) (w : World) (h : rpMove.SL w w.heap.size xs v) (R : Ending → World → Prop)
    (hR : ∀ w', Below w.heap.size w w' → R (.returned (.bool true)) w') :
    Calls Try.prog 5 #[v, .int .i64 spare] w R := by
  have hms : Try.prog.eqGuardType Try.prog.depth 27 = false := by kernel_rfl
  by_cases hf : (movesFault xs spare).1 = 0
  · obtain ⟨h1, hn, hfine⟩ := movesFault_ok hf
    have heq := eql_Fault 0 0 0 0
    rw [decide_eq_true ⟨rfl, rfl⟩] at heq
    have hrf := RefMovesFault_calls v xs spare
    rw [h1] at hrf
    have Hr := Lib.hid hrf
    have H1 := Lib.hid h1
    have Hfine := Lib.hid hfine
    clear hf hrf h1 hfine
    go_enter Try.func5, Try.ntmps5
    go_wp2_with fail
    refine Row_good _ _ _ _ h H1.out hn Hfine.out _ ?_
    intro w1 v1 hb1 ho1
    obtain ⟨hc1, hf1⟩ := bcell hb1
    have hz : w.heap.size ≤ w1.heap.size := hb1.size
    go_wp2_with fail
    refine Hr.out _ (h.up (by repeat (first | exact Below.refl _ _ | assumption | refine below_drewN ?_ _ | refine Below.drew ?_ | refine Below.setCell ?_ (by first | omega | (simp; done) | (simp; omega)) _ | refine Below.alloc ?_ (by first | omega | (simp; done) | (simp; omega)) _ | refine below_step (by assumption) ?_ (by first | omega | (simp; done) | (simp; omega)))) (by first | omega | (simp; done) | (simp; omega))) _ ?_
    intro w2 hb2
    obtain ⟨hc2, hf2⟩ := bcell hb2
    have hy : w1.heap.size < w2.heap.size := by have := hb2.size; simp at this; omega
    have hy0 : w.heap.size ≤ w2.heap.size := by omega
    go_wp2_with fail
    refine MovesRow_calls _ _ _ _ (h.up (by repeat (first | exact Below.refl _ _ | assumption | refine below_drewN ?_ _ | refine Below.drew ?_ | refine Below.setCell ?_ (by first | omega | (simp; done) | (simp; omega)) _ | refine Below.alloc ?_ (by first | omega | (simp; done) | (simp; omega)) _ | refine below_step (by assumption) ?_ (by first | omega | (simp; done) | (simp; omega)))) (by first | omega | (simp; done) | (simp; omega))) (by omega) (fine_movers Hfine.out) _ ?_
    intro w3 v3 hb3 ho3
    have hy3 : w1.heap.size ≤ w3.heap.size := by have := hb3.size; simp at this; omega
    have hs1 : rpMove.SL w3 w3.heap.size (row spare xs) v1 := Rp.SL.up (B := w1.heap.size) (SLMove_own ho1 (Nat.le_refl _)) (by repeat (first | exact Below.refl _ _ | assumption | refine below_drewN ?_ _ | refine Below.drew ?_ | refine Below.setCell ?_ (by first | omega | (simp; done) | (simp; omega)) _ | refine Below.alloc ?_ (by first | omega | (simp; done) | (simp; omega)) _ | refine below_step (by assumption) ?_ (by first | omega | (simp; done) | (simp; omega)))) (by first | omega | (simp; done) | (simp; omega))
    have hs3 : rpMove.SL w3 w3.heap.size (row spare xs) v3 := SLMove_own ho3 (Nat.le_refl _)
    generalize row spare xs = rr at *
    go_wp2_with fail
    refine SameMoves_calls _ _ rr rr _ w3.heap.size hs1 hs3 _ ?_
    intro n
    go_wp2
    first | exact (by repeat (first | exact Below.refl _ _ | assumption | refine below_drewN ?_ _ | refine Below.drew ?_ | refine Below.setCell ?_ (by first | omega | (simp; done) | (simp; omega)) _ | refine Below.alloc ?_ (by first | omega | (simp; done) | (simp; omega)) _ | refine below_step (by assumption) ?_ (by first | omega | (simp; done) | (simp; omega)))) | exact hR _ (by repeat (first | exact Below.refl _ _ | assumption | refine below_drewN ?_ _ | refine Below.drew ?_ | refine Below.setCell ?_ (by first | omega | (simp; done) | (simp; omega)) _ | refine Below.alloc ?_ (by first | omega | (simp; done) | (simp; omega)) _ | refine below_step (by assumption) ?_ (by first | omega | (simp; done) | (simp; omega))))
  · have hfe : ((movesFault xs spare).1 != 0) = true := by simp [hf]
    generalize hff : movesFault xs spare = f at *
    have heq := eql_Fault f.1 f.2 f.1 f.2
    rw [decide_eq_true ⟨rfl, rfl⟩] at heq
    have hrf := RefMovesFault_calls v xs spare
    rw [hff] at hrf
    have Hr := Lib.hid hrf
    have H1 := Lib.hid hff
    have H0 := Lib.hid hf
    clear hf hff hrf
    go_enter Try.func5, Try.ntmps5
    go_wp2_with fail
    refine Row_bad _ _ _ _ h _ H1.out H0.out _ ?_
    intro w1 hb1
    obtain ⟨hc1, hf1⟩ := bcell hb1
    have hz : w.heap.size ≤ w1.heap.size := hb1.size
    go_wp2_with fail
    refine Hr.out _ (h.up (by repeat (first | exact Below.refl _ _ | assumption | refine below_drewN ?_ _ | refine Below.drew ?_ | refine Below.setCell ?_ (by first | omega | (simp; done) | (simp; omega)) _ | refine Below.alloc ?_ (by first | omega | (simp; done) | (simp; omega)) _ | refine below_step (by assumption) ?_ (by first | omega | (simp; done) | (simp; omega)))) (by first | omega | (simp; done) | (simp; omega))) _ ?_
    intro w2 hb2
    obtain ⟨hc2, hf2⟩ := bcell hb2
    have hy : w1.heap.size < w2.heap.size := by have := hb2.size; simp at this; omega
    have hy0 : w.heap.size ≤ w2.heap.size := by omega
    go_wp2
    first | exact (by repeat (first | exact Below.refl _ _ | assumption | refine below_drewN ?_ _ | refine Below.drew ?_ | refine Below.setCell ?_ (by first | omega | (simp; done) | (simp; omega)) _ | refine Below.alloc ?_ (by first | omega | (simp; done) | (simp; omega)) _ | refine below_step (by assumption) ?_ (by first | omega | (simp; done) | (simp; omega)))) | exact hR _ (by repeat (first | exact Below.refl _ _ | assumption | refine below_drewN ?_ _ | refine Below.drew ?_ | refine Below.setCell ?_ (by first | omega | (simp; done) | (simp; omega)) _ | refine Below.alloc ?_ (by first | omega | (simp; done) | (simp; omega)) _ | refine below_step (by assumption) ?_ (by first | omega | (simp; done) | (simp; omega))))
end Go.Proofs.Ytmlmnhhgdcfchaa
