/- Package peep: jumps, what is quiet, what asks. -/
import Derived.Test.YtkcmijnaheapdaaDoorBase
import Derived.Test.YtkcmijnaheapdaaDoorRows
import Derived.IntWalk
import Derived.Outline
import Derived.Deep.LoopGhost
import Derived.Test.YtkcmijnaheapdaaDoorPk3
namespace Go.Proofs.YtkcmijnaheapdaaDoor
open Go.RowKit
set_option linter.unusedSimpArgs false
set_option linter.unusedVariables false

set_option maxHeartbeats 400000 in
theorem jumps_calls (m : Mac) (w : World) (R : Ending → World → Prop) (hR : ∀ w', Below w.heap.size w w' → R (.returned (.bool (jumpsM m))) w') :
    Calls Tryd.prog 143 #[.agg #[.int .i64 m.op, .int .i64 m.dst, .int .i64 m.a, .int .i64 m.b, .int .i64 m.n]] w R := by
  unfold jumpsM at hR
  have HR := Lib.hid hR
  clear hR
  go_enter Tryd.func143, Tryd.ntmps143
  go_wp2_with fail
  refine Within_calls _ _ _ _ _ ?_
  generalize decide (37 ≤ m.op ∧ m.op ≤ 43) = x at *
  go_wp2
  exact HR.out _ bl0
set_option maxHeartbeats 400000 in
theorem quietM_calls (m : Mac) (w : World) (R : Ending → World → Prop) (hR : ∀ w', Below w.heap.size w w' → R (.returned (.bool (quietM m))) w') :
    Calls Tryd.prog 146 #[.agg #[.int .i64 m.op, .int .i64 m.dst, .int .i64 m.a, .int .i64 m.b, .int .i64 m.n]] w R := by
  unfold quietM at hR
  by_cases h1 : 1 ≤ m.op ∧ m.op ≤ 4
  · rw [if_pos h1] at hR
    have HR := Lib.hid hR
    have hd : decide (1 ≤ m.op ∧ m.op ≤ 4) = true := decide_eq_true h1
    clear hR h1
    go_enter Tryd.func146, Tryd.ntmps146
    go_wp2_with (go_at_call 80; refine Within_calls _ _ _ _ _ ?_; rw [hd])
    exact HR.out _ bl0
  rw [if_neg h1] at hR
  have hd1 : decide (1 ≤ m.op ∧ m.op ≤ 4) = false := decide_eq_false h1
  clear h1
  by_cases h35 : m.op = 35
  · rw [if_pos h35] at hR
    have HR := Lib.hid hR
    have i35 : (m.op == 35) = true := by simpa using h35
    clear hR h35
    go_enter Tryd.func146, Tryd.ntmps146
    go_wp2_with (go_at_call 80; refine Within_calls _ _ _ _ _ ?_; rw [hd1])
    exact HR.out _ bl0
  rw [if_neg h35] at hR
  have i35 : (m.op == 35) = false := by simpa using h35
  clear h35
  by_cases h22 : m.op = 22 ∨ m.op = 23
  · rw [if_pos h22] at hR
    have HR := Lib.hid hR
    clear hR
    rcases h22 with h22 | h23
    · have i22 : (m.op == 22) = true := by simpa using h22
      clear h22
      go_enter Tryd.func146, Tryd.ntmps146
      go_wp2_with (go_at_call 80; refine Within_calls _ _ _ _ _ ?_; rw [hd1])
      exact HR.out _ bl0
    · have i22 : (m.op == 22) = false := by simp; omega
      have i23 : (m.op == 23) = true := by simpa using h23
      clear h23
      go_enter Tryd.func146, Tryd.ntmps146
      go_wp2_with (go_at_call 80; refine Within_calls _ _ _ _ _ ?_; rw [hd1])
      exact HR.out _ bl0
  rw [if_neg h22] at hR
  have i22 : (m.op == 22) = false := by simp; omega
  have i23 : (m.op == 23) = false := by simp; omega
  have HR := Lib.hid hR
  clear hR h22
  by_cases h5 : 5 ≤ m.op ∧ m.op ≤ 32
  · have hd5 : decide (5 ≤ m.op ∧ m.op ≤ 32) = true := decide_eq_true h5
    rw [hd5, Bool.true_and] at HR
    clear h5
    by_cases h8 : m.op = 8
    · have i8 : (m.op != 8) = false := by simpa using h8
      rw [decide_eq_true h8, Bool.not_true, Bool.false_and] at HR
      clear h8
      go_enter Tryd.func146, Tryd.ntmps146
      go_wp2_with (go_at_call 80; refine Within_calls _ _ _ _ _ ?_; first | rw [hd1] | rw [hd5])
      exact HR.out _ bl0
    · have i8 : (m.op != 8) = true := by simpa using h8
      rw [decide_eq_false h8, Bool.not_false, Bool.true_and] at HR
      clear h8
      by_cases h9 : m.op = 9
      · have i9 : (m.op != 9) = false := by simpa using h9
        rw [decide_eq_true h9, Bool.not_true] at HR
        clear h9
        go_enter Tryd.func146, Tryd.ntmps146
        go_wp2_with (go_at_call 80; refine Within_calls _ _ _ _ _ ?_; first | rw [hd1] | rw [hd5])
        exact HR.out _ bl0
      · have i9 : (m.op != 9) = true := by simpa using h9
        rw [decide_eq_false h9, Bool.not_false] at HR
        clear h9
        go_enter Tryd.func146, Tryd.ntmps146
        go_wp2_with (go_at_call 80; refine Within_calls _ _ _ _ _ ?_; first | rw [hd1] | rw [hd5])
        exact HR.out _ bl0
  · have hd5 : decide (5 ≤ m.op ∧ m.op ≤ 32) = false := decide_eq_false h5
    rw [hd5, Bool.false_and, Bool.false_and] at HR
    clear h5
    go_enter Tryd.func146, Tryd.ntmps146
    go_wp2_with (go_at_call 80; refine Within_calls _ _ _ _ _ ?_; first | rw [hd1] | rw [hd5])
    exact HR.out _ bl0
end Go.Proofs.YtkcmijnaheapdaaDoor
