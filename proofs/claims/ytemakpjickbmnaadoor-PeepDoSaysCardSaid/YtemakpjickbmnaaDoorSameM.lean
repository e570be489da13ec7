/- turneryref7.SameMacs. -/
import Derived.Test.YtemakpjickbmnaaDoorBase
import Derived.Test.YtemakpjickbmnaaDoorRows
import Derived.IntWalk
import Derived.Test.YtemakpjickbmnaaDoorPlainA
namespace Go.Proofs.YtemakpjickbmnaaDoor
open Go.RowKit
set_option linter.unusedSimpArgs false
set_option linter.unusedVariables false

theorem take_same {α : Type} {xs ys : List α} {k : Nat} {x y : α} (h : xs.take k = ys.take k) (hx : xs[k]? = some x) (hy : ys[k]? = some y) (e : x = y) : xs.take (k + 1) = ys.take (k + 1) := by
  rw [List.take_add_one, List.take_add_one, h, hx, hy, e]

set_option maxHeartbeats 400000 in
theorem SameMacs_calls (v1 v2 : Value) (xs ys : List Mac) (w : World) (B : Nat) (h1 : rpMac.SL w B xs v1) (h2 : rpMac.SL w B ys v2) (R : Ending → World → Prop)
    (hR : ∀ n, R (.returned (.bool (decide (xs = ys)))) (w.drewN n)) :
    Calls Tryd.prog 15 #[v1, v2] w R := by
  obtain ⟨A1, c1, rfl, hm1, _, h1⟩ := h1.cases_
  obtain ⟨A2, c2, rfl, hm2, _, h2⟩ := h2.cases_
  have hms : Tryd.prog.eqGuardType Tryd.prog.depth 36 = false := by kernel_rfl
  by_cases hn : xs.length = ys.length
  · have hnb : ((xs.length : Int) != (ys.length : Int)) = false := by simp [hn]
    have hn1 : xs.length ≤ ys.length := by omega
    have Hn := Lib.hid hn
    clear hn
    go_enter Tryd.func15, Tryd.ntmps15
    go_wp2
    go_loopw [5] (fun i wr => ∃ k : Nat, k ≤ xs.length ∧ i = .int .i64 k ∧ xs.take k = ys.take k ∧ ∃ n, wr = w.drewN n) (fun i _ => xs.length - (intOf i).toNat)
    case atStart => exact ⟨0, Nat.zero_le _, rfl, rfl, 0, rfl⟩
    case round =>
      obtain ⟨k, hk, rfl, ht, n, rfl⟩ := hrel
      have Ht := Lib.hid ht
      clear ht
      by_cases hlt : k < xs.length
      · obtain ⟨b1, o1, m1, rfl, hb1, e1, p0, p1, p2, p3, p4⟩ := h1.mac_at hlt
        obtain ⟨b2, o2, m2, rfl, hb2, e2, q0, q1, q2, q3, q4⟩ := h2.mac_at (k := k) (by omega)
        have E1 := Lib.hid e1
        have E2 := Lib.hid e2
        have i1 : (0 : Int) ≤ (k : Int) := Int.natCast_nonneg _
        have i2 : (k : Int) < (xs.length : Int) := by omega
        have i3 : (k : Int) < (ys.length : Int) := by omega
        have hne := neq_Mac m1 m2
        clear h1 h2 e1 e2
        by_cases hmm : m1 = m2
        · rw [decide_eq_true hmm] at hne
          have Hmm := Lib.hid hmm
          clear hmm
          go_wp2_with fail
          go_quiet (fail)
          go_wp2
          go_roundw
          case rel => exact ⟨k + 1, by omega, by go_num, take_same Ht.out E1.out E2.out Hmm.out, _, rfl⟩
          case measure => simp [intOf]; omega
        · rw [decide_eq_false hmm] at hne
          have Hmm := Lib.hid hmm
          clear hmm
          go_wp2_with fail
          go_quiet (fail)
          go_wp2
          rw [show decide (xs = ys) = false from decide_eq_false (fun e => Hmm.out (by have e1 := E1.out; rw [e, E2.out] at e1; exact (Option.some.inj e1).symm))] at hR
          have hR' := hR (n + nq)
          rw [← World.drewN_drewN] at hR'
          exact hR'
      · obtain rfl : k = xs.length := by omega
        go_wp2
        rw [show decide (xs = ys) = true from decide_eq_true (by have := Ht.out; rw [List.take_of_length_le (Nat.le_refl _), List.take_of_length_le (by rw [Hn.out]; exact Nat.le_refl _)] at this; exact this)] at hR
        exact hR _
  · have hnb : ((xs.length : Int) != (ys.length : Int)) = true := by simp; omega
    rw [show decide (xs = ys) = false from decide_eq_false (fun e => hn (by rw [e]))] at hR
    clear hn
    go_enter Tryd.func15, Tryd.ntmps15
    go_wp2
    exact hR 0

end Go.Proofs.YtemakpjickbmnaaDoor
