/- Package mac: what an Op speaks of; what is wrong with a field. -/
import Derived.Test.YtkodcoianakjoaaDoorLib
import Derived.Test.YtkodcoianakjoaaDoorRows
import Derived.IntWalk
import Derived.Test.YtkodcoianakjoaaDoorObjPlain
namespace Go.Proofs.YtkodcoianakjoaaDoor
open Go.RowKit
set_option linter.unusedSimpArgs false
set_option linter.unusedVariables false

def Shape.val (s : Shape) : Value := .agg #[.bool s.d, .bool s.a, .bool s.b, .int .i64 s.n]
/-- The table of shapes, as it lies (block 0): the rows that are asked for. -/
def Shapes (w : World) : Prop := 0 < w.heap.size ∧ ∀ k : Nat, k < 48 → (k < 5 ∨ 32 < k) → (k < 40 ∨ 43 < k) →
  w.cell? ⟨0, k * 4, none⟩ = some (.bool (shapeTab.getD k ⟨false, false, false, 0⟩).d) ∧ w.cell? ⟨0, k * 4 + 1, none⟩ = some (.bool (shapeTab.getD k ⟨false, false, false, 0⟩).a) ∧
  w.cell? ⟨0, k * 4 + 2, none⟩ = some (.bool (shapeTab.getD k ⟨false, false, false, 0⟩).b) ∧ w.cell? ⟨0, k * 4 + 3, none⟩ = some (.int .i64 (shapeTab.getD k ⟨false, false, false, 0⟩).n)
theorem Shapes.up {w w' : World} {B : Nat} (h : Shapes w) (hb : Below B w w') (hB : 0 < B) : Shapes w' := by
  refine ⟨Nat.lt_of_lt_of_le h.1 hb.size, fun k h1 h2 h3 => ?_⟩
  obtain ⟨a, b, c, d⟩ := h.2 k h1 h2 h3
  exact ⟨(hb.cell hB).trans a, (hb.cell hB).trans b, (hb.cell hB).trans c, (hb.cell hB).trans d⟩

theorem Shape.ext' {s t : Shape} (h : s.d = t.d ∧ s.a = t.a ∧ s.b = t.b ∧ s.n = t.n) : s = t := by
  cases s; cases t; simpa using h
theorem shape_mid1 (k : Nat) (h : 5 ≤ k) (h' : k ≤ 18) : shapeTab.getD k ⟨false, false, false, 0⟩ = ⟨true, true, true, 0⟩ := by
  have key : ∀ k : Nat, k < 48 → 5 ≤ k → k ≤ 18 → (shapeTab.getD k ⟨false, false, false, 0⟩).d = true ∧ (shapeTab.getD k ⟨false, false, false, 0⟩).a = true ∧ (shapeTab.getD k ⟨false, false, false, 0⟩).b = true ∧ (shapeTab.getD k ⟨false, false, false, 0⟩).n = 0 := by decide
  exact Shape.ext' (key k (by omega) h h')
theorem shape_mid2 (k : Nat) (h : 19 ≤ k) (h' : k ≤ 32) : shapeTab.getD k ⟨false, false, false, 0⟩ = ⟨true, true, false, 1⟩ := by
  have key : ∀ k : Nat, k < 48 → 19 ≤ k → k ≤ 32 → (shapeTab.getD k ⟨false, false, false, 0⟩).d = true ∧ (shapeTab.getD k ⟨false, false, false, 0⟩).a = true ∧ (shapeTab.getD k ⟨false, false, false, 0⟩).b = false ∧ (shapeTab.getD k ⟨false, false, false, 0⟩).n = 1 := by decide
  exact Shape.ext' (key k (by omega) h h')
theorem shape_mid3 (k : Nat) (h : 40 ≤ k) (h' : k ≤ 43) : shapeTab.getD k ⟨false, false, false, 0⟩ = ⟨false, true, true, 2⟩ := by
  have key : ∀ k : Nat, k < 48 → 40 ≤ k → k ≤ 43 → (shapeTab.getD k ⟨false, false, false, 0⟩).d = false ∧ (shapeTab.getD k ⟨false, false, false, 0⟩).a = true ∧ (shapeTab.getD k ⟨false, false, false, 0⟩).b = true ∧ (shapeTab.getD k ⟨false, false, false, 0⟩).n = 2 := by decide
  exact Shape.ext' (key k (by omega) h h')

set_option maxHeartbeats 400000 in
theorem Of_calls (op : Int) (w : World) (hS : Shapes w) (R : Ending → World → Prop)
    (hR : ∀ w', Below w.heap.size w w' → R (.returned (.tuple #[(shapeOf op).val, .bool (known op)])) w') :
    Calls Tryd.prog 101 #[.int .i64 op] w R := by
  have h0 := hS.1
  by_cases h1 : op < 1
  · have HR : Hid (∀ w', Below w.heap.size w w' → R (.returned (.tuple #[.agg #[.bool false, .bool false, .bool false, .int .i64 0], .bool false])) w') := by
      have e1 : shapeOf op = ⟨false, false, false, 0⟩ := by rw [shapeOf, if_neg (by omega)]
      have e2 : known op = false := by simp [known]; omega
      rw [e1, e2] at hR
      exact hR
    clear hR hS
    go_enter Tryd.func101, Tryd.ntmps101
    go_wp2
    refine bodyPost_ret (v := .tuple #[.agg #[.bool false, .bool false, .bool false, .int .i64 0], .bool false]) (by simp [results, Tryd.results101, go_sem]) rfl ?_
    exact HR.out _ (by repeat (first | exact Below.refl _ _ | assumption | refine below_drewN ?_ _ | refine Below.drew ?_ | refine Below.setCell ?_ (by first | omega | (simp; done) | (simp; omega)) _ | refine Below.alloc ?_ (by first | omega | (simp; done) | (simp; omega)) _ | refine below_step (by assumption) ?_ (by first | omega | (simp; done) | (simp; omega))))
  by_cases h2 : 47 < op
  · have HR : Hid (∀ w', Below w.heap.size w w' → R (.returned (.tuple #[.agg #[.bool false, .bool false, .bool false, .int .i64 0], .bool false])) w') := by
      have e1 : shapeOf op = ⟨false, false, false, 0⟩ := by rw [shapeOf, if_neg (by omega)]
      have e2 : known op = false := by simp [known]; omega
      rw [e1, e2] at hR
      exact hR
    clear hR hS
    have h3 : 1 ≤ op := by omega
    go_enter Tryd.func101, Tryd.ntmps101
    go_wp2
    refine bodyPost_ret (v := .tuple #[.agg #[.bool false, .bool false, .bool false, .int .i64 0], .bool false]) (by simp [results, Tryd.results101, go_sem]) rfl ?_
    exact HR.out _ (by repeat (first | exact Below.refl _ _ | assumption | refine below_drewN ?_ _ | refine Below.drew ?_ | refine Below.setCell ?_ (by first | omega | (simp; done) | (simp; omega)) _ | refine Below.alloc ?_ (by first | omega | (simp; done) | (simp; omega)) _ | refine below_step (by assumption) ?_ (by first | omega | (simp; done) | (simp; omega))))
  obtain ⟨k, rfl⟩ : ∃ k : Nat, op = (k : Int) := ⟨op.toNat, by omega⟩
  have h3 : 1 ≤ (k : Int) := by omega
  have h4 : (k : Int) ≤ 47 := by omega
  have he : shapeOf (k : Int) = shapeTab.getD k ⟨false, false, false, 0⟩ := by rw [shapeOf, if_pos (by omega)]; rfl
  have He := Lib.hid he
  clear he
  by_cases hc1 : 5 ≤ (k : Int) ∧ (k : Int) ≤ 18
  · have HR : Hid (∀ w', Below w.heap.size w w' → R (.returned (.tuple #[.agg #[.bool true, .bool true, .bool true, .int .i64 0], .bool true])) w') := by
      have e1 : shapeOf (k : Int) = ⟨true, true, true, 0⟩ := by rw [He.out, shape_mid1 k (by omega) (by omega)]
      have e2 : known (k : Int) = true := by simp [known]; omega
      rw [e1, e2] at hR
      exact hR
    clear hR hS
    have g1 : 5 ≤ (k : Int) := hc1.1
    have g2 : (k : Int) ≤ 18 := hc1.2
    clear hc1
    go_enter Tryd.func101, Tryd.ntmps101
    go_wp2
    refine bodyPost_ret (v := .tuple #[.agg #[.bool true, .bool true, .bool true, .int .i64 0], .bool true]) (by simp [results, Tryd.results101, go_sem]) rfl ?_
    exact HR.out _ (by repeat (first | exact Below.refl _ _ | assumption | refine below_drewN ?_ _ | refine Below.drew ?_ | refine Below.setCell ?_ (by first | omega | (simp; done) | (simp; omega)) _ | refine Below.alloc ?_ (by first | omega | (simp; done) | (simp; omega)) _ | refine below_step (by assumption) ?_ (by first | omega | (simp; done) | (simp; omega))))
  by_cases hc2 : 19 ≤ (k : Int) ∧ (k : Int) ≤ 32
  · have HR : Hid (∀ w', Below w.heap.size w w' → R (.returned (.tuple #[.agg #[.bool true, .bool true, .bool false, .int .i64 1], .bool true])) w') := by
      have e1 : shapeOf (k : Int) = ⟨true, true, false, 1⟩ := by rw [He.out, shape_mid2 k (by omega) (by omega)]
      have e2 : known (k : Int) = true := by simp [known]; omega
      rw [e1, e2] at hR
      exact hR
    clear hR hS
    have g1 : 19 ≤ (k : Int) := hc2.1
    have g2 : (k : Int) ≤ 32 := hc2.2
    have q1 : ¬ ((k : Int) ≤ 18) := by omega
    have q4 : 5 ≤ (k : Int) := by omega
    clear hc2
    go_enter Tryd.func101, Tryd.ntmps101
    go_wp2
    refine bodyPost_ret (v := .tuple #[.agg #[.bool true, .bool true, .bool false, .int .i64 1], .bool true]) (by simp [results, Tryd.results101, go_sem]) rfl ?_
    exact HR.out _ (by repeat (first | exact Below.refl _ _ | assumption | refine below_drewN ?_ _ | refine Below.drew ?_ | refine Below.setCell ?_ (by first | omega | (simp; done) | (simp; omega)) _ | refine Below.alloc ?_ (by first | omega | (simp; done) | (simp; omega)) _ | refine below_step (by assumption) ?_ (by first | omega | (simp; done) | (simp; omega))))
  by_cases hc3 : 40 ≤ (k : Int) ∧ (k : Int) ≤ 43
  · have HR : Hid (∀ w', Below w.heap.size w w' → R (.returned (.tuple #[.agg #[.bool false, .bool true, .bool true, .int .i64 2], .bool true])) w') := by
      have e1 : shapeOf (k : Int) = ⟨false, true, true, 2⟩ := by rw [He.out, shape_mid3 k (by omega) (by omega)]
      have e2 : known (k : Int) = true := by simp [known]; omega
      rw [e1, e2] at hR
      exact hR
    clear hR hS
    have g1 : 40 ≤ (k : Int) := hc3.1
    have g2 : (k : Int) ≤ 43 := hc3.2
    have q1 : ¬ ((k : Int) ≤ 18) := by omega
    have q4 : 5 ≤ (k : Int) := by omega
    have q5 : 19 ≤ (k : Int) := by omega
    have q2 : ¬ ((k : Int) ≤ 32) := by omega
    clear hc3
    go_enter Tryd.func101, Tryd.ntmps101
    go_wp2
    refine bodyPost_ret (v := .tuple #[.agg #[.bool false, .bool true, .bool true, .int .i64 2], .bool true]) (by simp [results, Tryd.results101, go_sem]) rfl ?_
    exact HR.out _ (by repeat (first | exact Below.refl _ _ | assumption | refine below_drewN ?_ _ | refine Below.drew ?_ | refine Below.setCell ?_ (by first | omega | (simp; done) | (simp; omega)) _ | refine Below.alloc ?_ (by first | omega | (simp; done) | (simp; omega)) _ | refine below_step (by assumption) ?_ (by first | omega | (simp; done) | (simp; omega))))
  have e2 : known (k : Int) = true := by simp [known]; omega
  obtain ⟨c0, c1, c2, c3⟩ := hS.2 k (by omega) (by omega) (by omega)
  have g1 : (k : Int) < 5 ∨ (32 < (k : Int) ∧ (k : Int) < 40) ∨ 43 < (k : Int) := by omega
  rw [He.out, e2] at hR
  have HR := Lib.hid hR
  clear hc1 hc2 hc3 e2 hR hS
  unfold Shape.val at HR
  generalize shapeTab.getD k ⟨false, false, false, 0⟩ = s at *
  obtain ⟨sd, sa, sb, sn⟩ := s
  rcases g1 with g1 | ⟨g1, g2⟩ | g1
  · have q1 : ¬ (5 ≤ (k : Int)) := by omega
    have q2 : ¬ (19 ≤ (k : Int)) := by omega
    have q3 : ¬ (40 ≤ (k : Int)) := by omega
    go_enter Tryd.func101, Tryd.ntmps101
    go_wp2
    refine bodyPost_ret (v := .tuple #[.agg #[.bool sd, .bool sa, .bool sb, .int .i64 sn], .bool true]) (by simp [results, Tryd.results101, go_sem]) rfl ?_
    exact HR.out _ (by repeat (first | exact Below.refl _ _ | assumption | refine below_drewN ?_ _ | refine Below.drew ?_ | refine Below.setCell ?_ (by first | omega | (simp; done) | (simp; omega)) _ | refine Below.alloc ?_ (by first | omega | (simp; done) | (simp; omega)) _ | refine below_step (by assumption) ?_ (by first | omega | (simp; done) | (simp; omega))))
  · have q1 : ¬ ((k : Int) ≤ 18) := by omega
    have q2 : ¬ ((k : Int) ≤ 32) := by omega
    have q3 : ¬ (40 ≤ (k : Int)) := by omega
    have q4 : 5 ≤ (k : Int) := by omega
    have q5 : 19 ≤ (k : Int) := by omega
    go_enter Tryd.func101, Tryd.ntmps101
    go_wp2
    refine bodyPost_ret (v := .tuple #[.agg #[.bool sd, .bool sa, .bool sb, .int .i64 sn], .bool true]) (by simp [results, Tryd.results101, go_sem]) rfl ?_
    exact HR.out _ (by repeat (first | exact Below.refl _ _ | assumption | refine below_drewN ?_ _ | refine Below.drew ?_ | refine Below.setCell ?_ (by first | omega | (simp; done) | (simp; omega)) _ | refine Below.alloc ?_ (by first | omega | (simp; done) | (simp; omega)) _ | refine below_step (by assumption) ?_ (by first | omega | (simp; done) | (simp; omega))))
  · have q1 : ¬ ((k : Int) ≤ 18) := by omega
    have q2 : ¬ ((k : Int) ≤ 32) := by omega
    have q3 : ¬ ((k : Int) ≤ 43) := by omega
    have q4 : 5 ≤ (k : Int) := by omega
    have q5 : 19 ≤ (k : Int) := by omega
    have q6 : 40 ≤ (k : Int) := by omega
    go_enter Tryd.func101, Tryd.ntmps101
    go_wp2
    refine bodyPost_ret (v := .tuple #[.agg #[.bool sd, .bool sa, .bool sb, .int .i64 sn], .bool true]) (by simp [results, Tryd.results101, go_sem]) rfl ?_
    exact HR.out _ (by repeat (first | exact Below.refl _ _ | assumption | refine below_drewN ?_ _ | refine Below.drew ?_ | refine Below.setCell ?_ (by first | omega | (simp; done) | (simp; omega)) _ | refine Below.alloc ?_ (by first | omega | (simp; done) | (simp; omega)) _ | refine below_step (by assumption) ?_ (by first | omega | (simp; done) | (simp; omega))))

theorem fieldF_calls (used : Bool) (r : Int) (w : World) (R : Ending → World → Prop) (hR : R (.returned (.int .i64 (fieldF used r))) w) :
    Calls Tryd.prog 108 #[.bool used, .int .i64 r] w R := by
  unfold fieldF at hR
  cases used
  · rw [if_neg (by simp)] at hR
    by_cases h : r = 0
    · subst h
      rw [if_neg (by simp)] at hR
      have HR := Lib.hid hR
      clear hR
      go_enter Tryd.func108, Tryd.ntmps108
      go_wp2
      exact HR.out
    · rw [if_pos h] at hR
      have HR := Lib.hid hR
      have h' : (r != 0) = true := by simp [h]
      clear hR
      go_enter Tryd.func108, Tryd.ntmps108
      go_wp2
      exact HR.out
  · rw [if_pos rfl] at hR
    by_cases h : r < 0 ∨ 15 < r
    · rw [if_pos h] at hR
      have HR := Lib.hid hR
      clear hR
      by_cases h1 : r < 0
      · go_enter Tryd.func108, Tryd.ntmps108
        go_wp2
        exact HR.out
      · have h2 : 16 ≤ r := by omega
        go_enter Tryd.func108, Tryd.ntmps108
        go_wp2
        exact HR.out
    · rw [if_neg h] at hR
      have HR := Lib.hid hR
      have h1 : ¬ r < 0 := by omega
      have h2 : ¬ 16 ≤ r := by omega
      clear hR h
      go_enter Tryd.func108, Tryd.ntmps108
      go_wp2
      exact HR.out

theorem numberF_calls (kind n many : Int) (w : World) (R : Ending → World → Prop) (hR : R (.returned (.int .i64 (numberF kind n many))) w) :
    Calls Tryd.prog 109 #[.int .i64 kind, .int .i64 n, .int .i64 many] w R := by
  unfold numberF at hR
  by_cases k1 : kind = 1
  · subst k1
    rw [if_pos rfl] at hR
    have HR := Lib.hid hR
    clear hR
    go_enter Tryd.func109, Tryd.ntmps109
    go_wp2
    exact HR.out
  rw [if_neg k1] at hR
  by_cases k0 : kind = 0
  · subst k0
    rw [if_pos rfl] at hR
    clear k1
    by_cases h : n = 0
    · subst h
      rw [if_neg (by simp)] at hR
      have HR := Lib.hid hR
      clear hR
      go_enter Tryd.func109, Tryd.ntmps109
      go_wp2
      exact HR.out
    · rw [if_pos h] at hR
      have HR := Lib.hid hR
      have h' : (n != 0) = true := by simp [h]
      clear hR
      go_enter Tryd.func109, Tryd.ntmps109
      go_wp2
      exact HR.out
  rw [if_neg k0] at hR
  by_cases k4 : kind = 4
  · subst k4
    rw [if_pos rfl] at hR
    clear k1 k0
    by_cases h : n < 0
    · rw [if_pos h] at hR
      have HR := Lib.hid hR
      clear hR
      go_enter Tryd.func109, Tryd.ntmps109
      go_wp2
      exact HR.out
    · rw [if_neg h] at hR
      have HR := Lib.hid hR
      clear hR
      go_enter Tryd.func109, Tryd.ntmps109
      go_wp2
      exact HR.out
  rw [if_neg k4] at hR
  have b1 : (kind == 1) = false := by simp [k1]
  have b0 : (kind == 0) = false := by simp [k0]
  have b4 : (kind == 4) = false := by simp [k4]
  by_cases k3 : kind = 3
  · rw [if_pos k3] at hR
    have b3 : (kind == 3) = true := by simp [k3]
    clear k0 k1 k4 k3
    by_cases h : n < 0 ∨ 120 ≤ n
    · rw [if_pos h] at hR
      have HR := Lib.hid hR
      clear hR
      by_cases h1 : n < 0
      · go_enter Tryd.func109, Tryd.ntmps109
        go_wp2
        exact HR.out
      · have h2 : 120 ≤ n := by omega
        go_enter Tryd.func109, Tryd.ntmps109
        go_wp2
        exact HR.out
    · rw [if_neg h] at hR
      have HR := Lib.hid hR
      have h1 : ¬ n < 0 := by omega
      have h2 : ¬ 120 ≤ n := by omega
      clear hR h
      go_enter Tryd.func109, Tryd.ntmps109
      go_wp2
      exact HR.out
  · rw [if_neg k3] at hR
    have b3 : (kind == 3) = false := by simp [k3]
    clear k0 k1 k4 k3
    by_cases h : n < 0 ∨ many ≤ n
    · rw [if_pos h] at hR
      have HR := Lib.hid hR
      clear hR
      by_cases h1 : n < 0
      · go_enter Tryd.func109, Tryd.ntmps109
        go_wp2
        exact HR.out
      · have h2 : many ≤ n := by omega
        go_enter Tryd.func109, Tryd.ntmps109
        go_wp2
        exact HR.out
    · rw [if_neg h] at hR
      have HR := Lib.hid hR
      have h1 : ¬ n < 0 := by omega
      have h2 : ¬ many ≤ n := by omega
      clear hR h
      go_enter Tryd.func109, Tryd.ntmps109
      go_wp2
      exact HR.out
end Go.Proofs.YtkodcoianakjoaaDoor
