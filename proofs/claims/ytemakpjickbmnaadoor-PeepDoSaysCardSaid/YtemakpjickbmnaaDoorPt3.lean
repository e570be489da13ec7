/- The document's rules: a comparison that a jump asks for; what does nothing. -/
import Derived.Test.YtemakpjickbmnaaDoorBase
import Derived.Test.YtemakpjickbmnaaDoorRows
import Derived.IntWalk
import Derived.Outline
import Derived.Deep.LoopGhost
import Derived.Test.YtemakpjickbmnaaDoorPtP
import Derived.Test.YtemakpjickbmnaaDoorPrB
namespace Go.Proofs.YtemakpjickbmnaaDoor
open Go.RowKit
set_option linter.unusedSimpArgs false
set_option linter.unusedVariables false

set_option maxRecDepth 100000 in
set_option maxHeartbeats 2000000 in
theorem ifs_calls (m o : Mac) (h1 : 15 ≤ m.op) (h2 : m.op ≤ 18) (ho : o.op = 38 ∨ o.op = 39) (w : World) (R : Ending → World → Prop)
    (hR : ∀ w', Below w.heap.size w w' → R (.returned (.agg #[.int .i64 (ifsM m o).op, .int .i64 (ifsM m o).dst, .int .i64 (ifsM m o).a, .int .i64 (ifsM m o).b, .int .i64 (ifsM m o).n])) w') :
    Calls Tryd.prog 109 #[.agg #[.int .i64 m.op, .int .i64 m.dst, .int .i64 m.a, .int .i64 m.b, .int .i64 m.n], .agg #[.int .i64 o.op, .int .i64 o.dst, .int .i64 o.a, .int .i64 o.b, .int .i64 o.n]] w R := by
  obtain ⟨op, dst, a, b, n⟩ := m
  obtain ⟨oop, odst, oa, ob, on⟩ := o
  simp only at h1 h2 ho hR ⊢
  have h15 : op = 15 ∨ op = 16 ∨ op = 17 ∨ op = 18 := by omega
  rcases ho with rfl | rfl <;> rcases h15 with rfl | rfl | rfl | rfl <;> simp [ifsM] at hR
  all_goals
    have HR := Lib.hid hR
    clear hR h1 h2
    go_enter Tryd.func109, Tryd.ntmps109
    go_wp2
    refine bodyPost_ret (v := .agg #[.int .i64 _, .int .i64 _, .int .i64 _, .int .i64 _, .int .i64 _]) (by simp [results, Tryd.results109, go_sem]; exact ⟨rfl, rfl, rfl, rfl, rfl⟩) rfl ?_
    exact HR.out _ bl0
set_option maxRecDepth 100000 in
set_option maxHeartbeats 2000000 in
theorem ridle_calls (m : Mac) (w : World) (R : Ending → World → Prop) (hR : ∀ w', Below w.heap.size w w' → R (.returned (.bool (idleM m))) w') :
    Calls Tryd.prog 66 #[.agg #[.int .i64 m.op, .int .i64 m.dst, .int .i64 m.a, .int .i64 m.b, .int .i64 m.n]] w R := by
  by_cases hs : m.op = 21 ∨ m.op = 22
  · rw [show idleM m = decide (m.n = 1) from by unfold idleM; rw [if_pos hs]] at hR
    by_cases hn : m.n = 1
    · have jn : (m.n == 1) = true := by simpa using hn
      rw [decide_eq_true hn] at hR
      have HR := Lib.hid hR
      clear hR hn
      rcases hs with e | e
      · have j21 : (m.op == 21) = true := by simpa using e
        clear e
        go_enter Tryd.func66, Tryd.ntmps66
        go_wp2
        exact HR.out _ bl0
      · have j21 : (m.op == 21) = false := by simp; omega
        have j22 : (m.op == 22) = true := by simpa using e
        clear e
        go_enter Tryd.func66, Tryd.ntmps66
        go_wp2
        exact HR.out _ bl0
    · have jn : (m.n == 1) = false := by simpa using hn
      rw [decide_eq_false hn] at hR
      have HR := Lib.hid hR
      clear hR hn
      rcases hs with e | e
      · have j21 : (m.op == 21) = true := by simpa using e
        clear e
        go_enter Tryd.func66, Tryd.ntmps66
        go_wp2
        exact HR.out _ bl0
      · have j21 : (m.op == 21) = false := by simp; omega
        have j22 : (m.op == 22) = true := by simpa using e
        clear e
        go_enter Tryd.func66, Tryd.ntmps66
        go_wp2
        exact HR.out _ bl0
  · have hid : idleM m = (decide (m.n = 0) && decide (m.op = 19 ∨ m.op = 20 ∨ m.op = 25 ∨ m.op = 26 ∨ m.op = 27 ∨ m.op = 28)) := by unfold idleM; rw [if_neg hs]
    have j21 : (m.op == 21) = false := by simp; omega
    have j22 : (m.op == 22) = false := by simp; omega
    rw [hid] at hR
    clear hid
    by_cases hn : m.n = 0
    · have jn : (m.n == 0) = true := by simpa using hn
      rw [decide_eq_true hn, Bool.true_and] at hR
      clear hn
      by_cases h6 : m.op = 19 ∨ m.op = 20 ∨ m.op = 25 ∨ m.op = 26 ∨ m.op = 27 ∨ m.op = 28
      · rw [decide_eq_true h6] at hR
        have HR := Lib.hid hR
        clear hR hs
        rcases h6 with e | e | e | e | e | e
        · have j19 : (m.op == 19) = true := by simpa using e
          clear e
          go_enter Tryd.func66, Tryd.ntmps66
          go_wp2
          exact HR.out _ bl0
        · have j19 : (m.op == 19) = false := by simp; omega
          have j20 : (m.op == 20) = true := by simpa using e
          clear e
          go_enter Tryd.func66, Tryd.ntmps66
          go_wp2
          exact HR.out _ bl0
        · have j19 : (m.op == 19) = false := by simp; omega
          have j20 : (m.op == 20) = false := by simp; omega
          have j25 : (m.op == 25) = true := by simpa using e
          clear e
          go_enter Tryd.func66, Tryd.ntmps66
          go_wp2
          exact HR.out _ bl0
        · have j19 : (m.op == 19) = false := by simp; omega
          have j20 : (m.op == 20) = false := by simp; omega
          have j25 : (m.op == 25) = false := by simp; omega
          have j26 : (m.op == 26) = true := by simpa using e
          clear e
          go_enter Tryd.func66, Tryd.ntmps66
          go_wp2
          exact HR.out _ bl0
        · have j19 : (m.op == 19) = false := by simp; omega
          have j20 : (m.op == 20) = false := by simp; omega
          have j25 : (m.op == 25) = false := by simp; omega
          have j26 : (m.op == 26) = false := by simp; omega
          have j27 : (m.op == 27) = true := by simpa using e
          clear e
          go_enter Tryd.func66, Tryd.ntmps66
          go_wp2
          exact HR.out _ bl0
        · have j19 : (m.op == 19) = false := by simp; omega
          have j20 : (m.op == 20) = false := by simp; omega
          have j25 : (m.op == 25) = false := by simp; omega
          have j26 : (m.op == 26) = false := by simp; omega
          have j27 : (m.op == 27) = false := by simp; omega
          have j28 : (m.op == 28) = true := by simpa using e
          clear e
          go_enter Tryd.func66, Tryd.ntmps66
          go_wp2
          exact HR.out _ bl0
      · rw [decide_eq_false h6] at hR
        have HR := Lib.hid hR
        have j19 : (m.op == 19) = false := by simp; omega
        have j20 : (m.op == 20) = false := by simp; omega
        have j25 : (m.op == 25) = false := by simp; omega
        have j26 : (m.op == 26) = false := by simp; omega
        have j27 : (m.op == 27) = false := by simp; omega
        have j28 : (m.op == 28) = false := by simp; omega
        clear hR hs h6
        go_enter Tryd.func66, Tryd.ntmps66
        go_wp2
        exact HR.out _ bl0
    · have jn : (m.n == 0) = false := by simpa using hn
      rw [decide_eq_false hn, Bool.false_and] at hR
      have HR := Lib.hid hR
      clear hR hn hs
      go_enter Tryd.func66, Tryd.ntmps66
      go_wp2
      exact HR.out _ bl0
end Go.Proofs.YtemakpjickbmnaaDoor
