/- Package mac: what an Op speaks of; what is wrong with a field. slices.Contains, slices.Max at numbers; what is wrong with an instruction. What is wrong with an instruction. mac.Check: what is wrong with a list of instructions. -/
import Derived.Test.YtcakodemngchpaaGreatDoorBase
import Derived.Test.YtcakodemngchpaaGreatDoorRows
import Derived.IntWalk
import Derived.Test.YtcakodemngchpaaGreatDoorPlainA
import Derived.Deep.LoopGhost
import Derived.StillTailTactics
/- Package mac: what an Op speaks of; what is wrong with a field. -/
namespace Go.Proofs.YtcakodemngchpaaGreatDoor
open Go.RowKit
set_option linter.unusedSimpArgs false
set_option linter.unusedVariables false

def Shape.val (s : Shape) : Value := .agg #[.bool s.d, .bool s.a, .bool s.b, .int .i64 s.n]
/-- The table of shapes, as it lies (block 0): the rows that are asked for. -/
def Shapes (w : World) : Prop := 0 < w.heap.size ∧ ∀ k : Nat, k < 48 → (k < 5 ∨ 32 < k) → (k < 40 ∨ 43 < k) →
  w.cell? ⟨0, k * 4, none⟩ = some (.bool (shapeTab.getD k ⟨false, false, false, 0⟩).d) ∧ w.cell? ⟨0, k * 4 + 1, none⟩ = some (.bool (shapeTab.getD k ⟨false, false, false, 0⟩).a) ∧
  w.cell? ⟨0, k * 4 + 2, none⟩ = some (.bool (shapeTab.getD k ⟨false, false, false, 0⟩).b) ∧ w.cell? ⟨0, k * 4 + 3, none⟩ = some (.int .i64 (shapeTab.getD k ⟨false, false, false, 0⟩).n)
theorem Shapes.up {w w' : World} {B : Nat} (h : Shapes w) (hb : Below B w w') (hB : 0 < B) : Shapes w' := by
  refine ⟨Nat.lt_of_lt_of_le h.1 hb.size, fun k h1 h2 h3 => ?_⟩
  obtain ⟨a, b, c, d⟩ := h.2 k h1 h2 h3
  exact ⟨(hb.cell hB).trans a, (hb.cell hB).trans b, (hb.cell hB).trans c, (hb.cell hB).trans d⟩

theorem Shape.ext' {s t : Shape} (h : s.d = t.d ∧ s.a = t.a ∧ s.b = t.b ∧ s.n = t.n) : s = t := by
  cases s; cases t; simpa using h
theorem shape_mid1 (k : Nat) (h : 5 ≤ k) (h' : k ≤ 18) : shapeTab.getD k ⟨false, false, false, 0⟩ = ⟨true, true, true, 0⟩ := by
  have key : ∀ k : Nat, k < 48 → 5 ≤ k → k ≤ 18 → (shapeTab.getD k ⟨false, false, false, 0⟩).d = true ∧ (shapeTab.getD k ⟨false, false, false, 0⟩).a = true ∧ (shapeTab.getD k ⟨false, false, false, 0⟩).b = true ∧ (shapeTab.getD k ⟨false, false, false, 0⟩).n = 0 := by decide
  exact Shape.ext' (key k (by omega) h h')
theorem shape_mid2 (k : Nat) (h : 19 ≤ k) (h' : k ≤ 32) : shapeTab.getD k ⟨false, false, false, 0⟩ = ⟨true, true, false, 1⟩ := by
  have key : ∀ k : Nat, k < 48 → 19 ≤ k → k ≤ 32 → (shapeTab.getD k ⟨false, false, false, 0⟩).d = true ∧ (shapeTab.getD k ⟨false, false, false, 0⟩).a = true ∧ (shapeTab.getD k ⟨false, false, false, 0⟩).b = false ∧ (shapeTab.getD k ⟨false, false, false, 0⟩).n = 1 := by decide
  exact Shape.ext' (key k (by omega) h h')
theorem shape_mid3 (k : Nat) (h : 40 ≤ k) (h' : k ≤ 43) : shapeTab.getD k ⟨false, false, false, 0⟩ = ⟨false, true, true, 2⟩ := by
  have key : ∀ k : Nat, k < 48 → 40 ≤ k → k ≤ 43 → (shapeTab.getD k ⟨false, false, false, 0⟩).d = false ∧ (shapeTab.getD k ⟨false, false, false, 0⟩).a = true ∧ (shapeTab.getD k ⟨false, false, false, 0⟩).b = true ∧ (shapeTab.getD k ⟨false, false, false, 0⟩).n = 2 := by decide
  exact Shape.ext' (key k (by omega) h h')

set_option maxHeartbeats 400000 in
theorem Of_calls (op : Int) (w : World) (hS : Shapes w) (R : Ending → World → Prop)
    (hR : ∀ w', Below w.heap.size w w' → R (.returned (.tuple #[(shapeOf op).val, .bool (known op)])) w') :
    Calls Tryz.prog 113 #[.int .i64 op] w R := by
  have h0 := hS.1
  by_cases h1 : op < 1
  · have HR : Hid (∀ w', Below w.heap.size w w' → R (.returned (.tuple #[.agg #[.bool false, .bool false, .bool false, .int .i64 0], .bool false])) w') := by
      have e1 : shapeOf op = ⟨false, false, false, 0⟩ := by rw [shapeOf, if_neg (by omega)]
      have e2 : known op = false := by simp [known]; omega
      rw [e1, e2] at hR
      exact hR
    clear hR hS
    go_enter Tryz.func113, Tryz.ntmps113
    go_wp2
    refine bodyPost_ret (v := .tuple #[.agg #[.bool false, .bool false, .bool false, .int .i64 0], .bool false]) (by simp [results, Tryz.results113, go_sem]) rfl ?_
    exact HR.out _ bl0
  by_cases h2 : 47 < op
  · have HR : Hid (∀ w', Below w.heap.size w w' → R (.returned (.tuple #[.agg #[.bool false, .bool false, .bool false, .int .i64 0], .bool false])) w') := by
      have e1 : shapeOf op = ⟨false, false, false, 0⟩ := by rw [shapeOf, if_neg (by omega)]
      have e2 : known op = false := by simp [known]; omega
      rw [e1, e2] at hR
      exact hR
    clear hR hS
    have h3 : 1 ≤ op := by omega
    go_enter Tryz.func113, Tryz.ntmps113
    go_wp2
    refine bodyPost_ret (v := .tuple #[.agg #[.bool false, .bool false, .bool false, .int .i64 0], .bool false]) (by simp [results, Tryz.results113, go_sem]) rfl ?_
    exact HR.out _ bl0
  obtain ⟨k, rfl⟩ : ∃ k : Nat, op = (k : Int) := ⟨op.toNat, by omega⟩
  have h3 : 1 ≤ (k : Int) := by omega
  have h4 : (k : Int) ≤ 47 := by omega
  have he : shapeOf (k : Int) = shapeTab.getD k ⟨false, false, false, 0⟩ := by rw [shapeOf, if_pos (by omega)]; rfl
  have He := Lib.hid he
  clear he
  by_cases hc1 : 5 ≤ (k : Int) ∧ (k : Int) ≤ 18
  · have HR : Hid (∀ w', Below w.heap.size w w' → R (.returned (.tuple #[.agg #[.bool true, .bool true, .bool true, .int .i64 0], .bool true])) w') := by
      have e1 : shapeOf (k : Int) = ⟨true, true, true, 0⟩ := by rw [He.out, shape_mid1 k (by omega) (by omega)]
      have e2 : known (k : Int) = true := by simp [known]; omega
      rw [e1, e2] at hR
      exact hR
    clear hR hS
    have g1 : 5 ≤ (k : Int) := hc1.1
    have g2 : (k : Int) ≤ 18 := hc1.2
    clear hc1
    go_enter Tryz.func113, Tryz.ntmps113
    go_wp2
    refine bodyPost_ret (v := .tuple #[.agg #[.bool true, .bool true, .bool true, .int .i64 0], .bool true]) (by simp [results, Tryz.results113, go_sem]) rfl ?_
    exact HR.out _ bl0
  by_cases hc2 : 19 ≤ (k : Int) ∧ (k : Int) ≤ 32
  · have HR : Hid (∀ w', Below w.heap.size w w' → R (.returned (.tuple #[.agg #[.bool true, .bool true, .bool false, .int .i64 1], .bool true])) w') := by
      have e1 : shapeOf (k : Int) = ⟨true, true, false, 1⟩ := by rw [He.out, shape_mid2 k (by omega) (by omega)]
      have e2 : known (k : Int) = true := by simp [known]; omega
      rw [e1, e2] at hR
      exact hR
    clear hR hS
    have g1 : 19 ≤ (k : Int) := hc2.1
    have g2 : (k : Int) ≤ 32 := hc2.2
    have q1 : ¬ ((k : Int) ≤ 18) := by omega
    have q4 : 5 ≤ (k : Int) := by omega
    clear hc2
    go_enter Tryz.func113, Tryz.ntmps113
    go_wp2
    refine bodyPost_ret (v := .tuple #[.agg #[.bool true, .bool true, .bool false, .int .i64 1], .bool true]) (by simp [results, Tryz.results113, go_sem]) rfl ?_
    exact HR.out _ bl0
  by_cases hc3 : 40 ≤ (k : Int) ∧ (k : Int) ≤ 43
  · have HR : Hid (∀ w', Below w.heap.size w w' → R (.returned (.tuple #[.agg #[.bool false, .bool true, .bool true, .int .i64 2], .bool true])) w') := by
      have e1 : shapeOf (k : Int) = ⟨false, true, true, 2⟩ := by rw [He.out, shape_mid3 k (by omega) (by omega)]
      have e2 : known (k : Int) = true := by simp [known]; omega
      rw [e1, e2] at hR
      exact hR
    clear hR hS
    have g1 : 40 ≤ (k : Int) := hc3.1
    have g2 : (k : Int) ≤ 43 := hc3.2
    have q1 : ¬ ((k : Int) ≤ 18) := by omega
    have q4 : 5 ≤ (k : Int) := by omega
    have q5 : 19 ≤ (k : Int) := by omega
    have q2 : ¬ ((k : Int) ≤ 32) := by omega
    clear hc3
    go_enter Tryz.func113, Tryz.ntmps113
    go_wp2
    refine bodyPost_ret (v := .tuple #[.agg #[.bool false, .bool true, .bool true, .int .i64 2], .bool true]) (by simp [results, Tryz.results113, go_sem]) rfl ?_
    exact HR.out _ bl0
  have e2 : known (k : Int) = true := by simp [known]; omega
  obtain ⟨c0, c1, c2, c3⟩ := hS.2 k (by omega) (by omega) (by omega)
  have g1 : (k : Int) < 5 ∨ (32 < (k : Int) ∧ (k : Int) < 40) ∨ 43 < (k : Int) := by omega
  rw [He.out, e2] at hR
  have HR := Lib.hid hR
  clear hc1 hc2 hc3 e2 hR hS
  unfold Shape.val at HR
  generalize shapeTab.getD k ⟨false, false, false, 0⟩ = s at *
  obtain ⟨sd, sa, sb, sn⟩ := s
  rcases g1 with g1 | ⟨g1, g2⟩ | g1
  · have q1 : ¬ (5 ≤ (k : Int)) := by omega
    have q2 : ¬ (19 ≤ (k : Int)) := by omega
    have q3 : ¬ (40 ≤ (k : Int)) := by omega
    go_enter Tryz.func113, Tryz.ntmps113
    go_wp2
    refine bodyPost_ret (v := .tuple #[.agg #[.bool sd, .bool sa, .bool sb, .int .i64 sn], .bool true]) (by simp [results, Tryz.results113, go_sem]) rfl ?_
    exact HR.out _ bl0
  · have q1 : ¬ ((k : Int) ≤ 18) := by omega
    have q2 : ¬ ((k : Int) ≤ 32) := by omega
    have q3 : ¬ (40 ≤ (k : Int)) := by omega
    have q4 : 5 ≤ (k : Int) := by omega
    have q5 : 19 ≤ (k : Int) := by omega
    go_enter Tryz.func113, Tryz.ntmps113
    go_wp2
    refine bodyPost_ret (v := .tuple #[.agg #[.bool sd, .bool sa, .bool sb, .int .i64 sn], .bool true]) (by simp [results, Tryz.results113, go_sem]) rfl ?_
    exact HR.out _ bl0
  · have q1 : ¬ ((k : Int) ≤ 18) := by omega
    have q2 : ¬ ((k : Int) ≤ 32) := by omega
    have q3 : ¬ ((k : Int) ≤ 43) := by omega
    have q4 : 5 ≤ (k : Int) := by omega
    have q5 : 19 ≤ (k : Int) := by omega
    have q6 : 40 ≤ (k : Int) := by omega
    go_enter Tryz.func113, Tryz.ntmps113
    go_wp2
    refine bodyPost_ret (v := .tuple #[.agg #[.bool sd, .bool sa, .bool sb, .int .i64 sn], .bool true]) (by simp [results, Tryz.results113, go_sem]) rfl ?_
    exact HR.out _ bl0

theorem fieldF_calls (used : Bool) (r : Int) (w : World) (R : Ending → World → Prop) (hR : R (.returned (.int .i64 (fieldF used r))) w) :
    Calls Tryz.prog 122 #[.bool used, .int .i64 r] w R := by
  unfold fieldF at hR
  cases used
  · rw [if_neg (by simp)] at hR
    by_cases h : r = 0
    · subst h
      rw [if_neg (by simp)] at hR
      have HR := Lib.hid hR
      clear hR
      go_enter Tryz.func122, Tryz.ntmps122
      go_wp2
      exact HR.out
    · rw [if_pos h] at hR
      have HR := Lib.hid hR
      have h' : (r != 0) = true := by simp [h]
      clear hR
      go_enter Tryz.func122, Tryz.ntmps122
      go_wp2
      exact HR.out
  · rw [if_pos rfl] at hR
    by_cases h : r < 0 ∨ 15 < r
    · rw [if_pos h] at hR
      have HR := Lib.hid hR
      clear hR
      by_cases h1 : r < 0
      · go_enter Tryz.func122, Tryz.ntmps122
        go_wp2
        exact HR.out
      · have h2 : 16 ≤ r := by omega
        go_enter Tryz.func122, Tryz.ntmps122
        go_wp2
        exact HR.out
    · rw [if_neg h] at hR
      have HR := Lib.hid hR
      have h1 : ¬ r < 0 := by omega
      have h2 : ¬ 16 ≤ r := by omega
      clear hR h
      go_enter Tryz.func122, Tryz.ntmps122
      go_wp2
      exact HR.out

theorem numberF_calls (kind n many : Int) (w : World) (R : Ending → World → Prop) (hR : R (.returned (.int .i64 (numberF kind n many))) w) :
    Calls Tryz.prog 123 #[.int .i64 kind, .int .i64 n, .int .i64 many] w R := by
  unfold numberF at hR
  by_cases k1 : kind = 1
  · subst k1
    rw [if_pos rfl] at hR
    have HR := Lib.hid hR
    clear hR
    go_enter Tryz.func123, Tryz.ntmps123
    go_wp2
    exact HR.out
  rw [if_neg k1] at hR
  by_cases k0 : kind = 0
  · subst k0
    rw [if_pos rfl] at hR
    clear k1
    by_cases h : n = 0
    · subst h
      rw [if_neg (by simp)] at hR
      have HR := Lib.hid hR
      clear hR
      go_enter Tryz.func123, Tryz.ntmps123
      go_wp2
      exact HR.out
    · rw [if_pos h] at hR
      have HR := Lib.hid hR
      have h' : (n != 0) = true := by simp [h]
      clear hR
      go_enter Tryz.func123, Tryz.ntmps123
      go_wp2
      exact HR.out
  rw [if_neg k0] at hR
  by_cases k4 : kind = 4
  · subst k4
    rw [if_pos rfl] at hR
    clear k1 k0
    by_cases h : n < 0
    · rw [if_pos h] at hR
      have HR := Lib.hid hR
      clear hR
      go_enter Tryz.func123, Tryz.ntmps123
      go_wp2
      exact HR.out
    · rw [if_neg h] at hR
      have HR := Lib.hid hR
      clear hR
      go_enter Tryz.func123, Tryz.ntmps123
      go_wp2
      exact HR.out
  rw [if_neg k4] at hR
  have b1 : (kind == 1) = false := by simp [k1]
  have b0 : (kind == 0) = false := by simp [k0]
  have b4 : (kind == 4) = false := by simp [k4]
  by_cases k3 : kind = 3
  · rw [if_pos k3] at hR
    have b3 : (kind == 3) = true := by simp [k3]
    clear k0 k1 k4 k3
    by_cases h : n < 0 ∨ 120 ≤ n
    · rw [if_pos h] at hR
      have HR := Lib.hid hR
      clear hR
      by_cases h1 : n < 0
      · go_enter Tryz.func123, Tryz.ntmps123
        go_wp2
        exact HR.out
      · have h2 : 120 ≤ n := by omega
        go_enter Tryz.func123, Tryz.ntmps123
        go_wp2
        exact HR.out
    · rw [if_neg h] at hR
      have HR := Lib.hid hR
      have h1 : ¬ n < 0 := by omega
      have h2 : ¬ 120 ≤ n := by omega
      clear hR h
      go_enter Tryz.func123, Tryz.ntmps123
      go_wp2
      exact HR.out
  · rw [if_neg k3] at hR
    have b3 : (kind == 3) = false := by simp [k3]
    clear k0 k1 k4 k3
    by_cases h : n < 0 ∨ many ≤ n
    · rw [if_pos h] at hR
      have HR := Lib.hid hR
      clear hR
      by_cases h1 : n < 0
      · go_enter Tryz.func123, Tryz.ntmps123
        go_wp2
        exact HR.out
      · have h2 : many ≤ n := by omega
        go_enter Tryz.func123, Tryz.ntmps123
        go_wp2
        exact HR.out
    · rw [if_neg h] at hR
      have HR := Lib.hid hR
      have h1 : ¬ n < 0 := by omega
      have h2 : ¬ many ≤ n := by omega
      clear hR h
      go_enter Tryz.func123, Tryz.ntmps123
      go_wp2
      exact HR.out
end Go.Proofs.YtcakodemngchpaaGreatDoor

/- slices.Contains, slices.Max at numbers; what is wrong with an instruction. -/
namespace Go.Proofs.YtcakodemngchpaaGreatDoor
open Go.RowKit
set_option linter.unusedSimpArgs false
set_option linter.unusedVariables false

theorem Index_calls (v : Value) (xs : List Int) (t : Int) (w : World) (h : rpInt.SL w w.heap.size xs v) (R : Ending → World → Prop)
    (hin : ∀ k : Nat, k < xs.length → xs.getD k 0 = t → R (.returned (.int .i64 (k : Int))) w) (hout : (∀ k, k < xs.length → xs.getD k 0 ≠ t) → R (.returned (.int .i64 (-1))) w) :
    Calls Tryz.prog 128 #[v, .int .i64 t] w R := by
  obtain ⟨A, c, rfl, hm, hcap, hs⟩ := h.cases_
  have Hin := Lib.hid hin
  have Hout := Lib.hid hout
  clear hin hout h
  go_enter Tryz.func128, Tryz.ntmps128
  go_wp2
  go_loopg [5, 8] xs.length (fun g o i wr => ∃ k : Nat, k ≤ xs.length ∧ g = xs.length - k ∧ i = .int .i64 k ∧ (∀ j, j < k → xs.getD j 0 ≠ t) ∧ wr = w)
  case atStart => exact ⟨0, Nat.zero_le _, rfl, rfl, (fun j hj => absurd hj (Nat.not_lt_zero _)), rfl⟩
  case round =>
    obtain ⟨k, hk, rfl, rfl, hne, rfl⟩ := hrel
    have Hne := Lib.hid hne
    clear hne
    by_cases hlt : k < xs.length
    · obtain ⟨b, off, rfl, hb, p0⟩ := hs.int_at hlt
      have i1 : (0 : Int) ≤ (k : Int) := Int.natCast_nonneg _
      have i2 : (k : Int) < (xs.length : Int) := by omega
      have Hk : Hid (xs.getD k 0 = t → R (.returned (.int .i64 (k : Int))) wr) := Hin.out k hlt
      obtain ⟨x, hx⟩ : ∃ x, xs.getD k 0 = x := ⟨_, rfl⟩
      rw [hx] at p0 Hk
      have Hx := Lib.hid hx
      clear hx
      by_cases hxt : t = x
      · subst hxt
        have HR : Hid (R (.returned (.int .i64 (k : Int))) wr) := Hk.out rfl
        clear Hk Hin Hout
        go_wp2
        exact HR.out
      · have hb' : (t == x) = false := by simp [hxt]
        go_wp2
        go_roundg (xs.length - (k + 1))
        case measure => omega
        case rel =>
          refine ⟨k + 1, by omega, rfl, by go_num, fun j hj => ?_, rfl⟩
          rcases Nat.lt_succ_iff_lt_or_eq.1 hj with h1 | rfl
          · exact Hne.out j h1
          · rw [Hx.out]; exact fun e => hxt e.symm
    · obtain rfl : k = xs.length := by omega
      have HR : Hid (R (.returned (.int .i64 (-1))) wr) := Hout.out Hne.out
      clear Hin Hout Hne
      go_wp2
      exact HR.out

theorem Contains_calls (v : Value) (xs : List Int) (t : Int) (w : World) (h : rpInt.SL w w.heap.size xs v) (R : Ending → World → Prop)
    (hR : R (.returned (.bool (decide (t ∈ xs)))) w) :
    Calls Tryz.prog 124 #[v, .int .i64 t] w R := by
  have HR := Lib.hid hR
  clear hR
  go_enter Tryz.func124, Tryz.ntmps124
  go_wp2_with fail
  refine Index_calls _ xs t _ h _ (fun k hk e => ?_) (fun hn => ?_)
  · have hin : decide (t ∈ xs) = true := by
      have : t ∈ xs := by rw [← e, List.getD_eq_getElem?_getD, List.getElem?_eq_getElem hk]; exact List.getElem_mem hk
      simp [this]
    rw [hin] at HR
    have i1 : (0 : Int) ≤ (k : Int) := Int.natCast_nonneg _
    clear hin
    go_wp2
    exact HR.out
  · have hin : decide (t ∈ xs) = false := by
      have : t ∉ xs := by
        intro hm
        obtain ⟨k, hk, e⟩ := List.getElem_of_mem hm
        exact hn k hk (by rw [List.getD_eq_getElem?_getD, List.getElem?_eq_getElem hk]; exact e)
      simp [this]
    rw [hin] at HR
    clear hin hn
    go_wp2
    exact HR.out

def maxTo (xs : List Int) (k : Nat) : Int := ((xs.take k).drop 1).foldl max (xs.getD 0 0)
theorem maxTo_one (xs : List Int) : maxTo xs 1 = xs.getD 0 0 := by
  unfold maxTo
  cases xs <;> rfl
theorem maxTo_succ {xs : List Int} {k : Nat} (h : k < xs.length) (h1 : 1 ≤ k) : maxTo xs (k + 1) = max (maxTo xs k) (xs.getD k 0) := by
  unfold maxTo
  rw [List.take_succ_eq_append_getElem h, List.drop_append_of_le_length (by simp; omega), List.foldl_append, show xs.getD k 0 = xs[k] from by rw [List.getD_eq_getElem?_getD, List.getElem?_eq_getElem h]; rfl]
  rfl

theorem Max_calls (v : Value) (xs : List Int) (w : World) (h : rpInt.SL w w.heap.size xs v) (h1 : 1 ≤ xs.length) (R : Ending → World → Prop)
    (hR : R (.returned (.int .i64 (maxTo xs xs.length))) w) :
    Calls Tryz.prog 125 #[v] w R := by
  obtain ⟨A, c, rfl, hm, hcap, hs⟩ := h.cases_
  have HR := Lib.hid hR
  have i0 : (1 : Int) ≤ (xs.length : Int) := by omega
  have hn : ¬ ((xs.length : Int) < 1) := by omega
  have hp : (0 : Int) < (xs.length : Int) := by omega
  obtain ⟨b, off, rfl, hb, p0⟩ := hs.int_at (k := 0) (by omega)
  have e0 := maxTo_one xs
  have E0 := Lib.hid e0
  clear hR h e0
  generalize xs.getD 0 0 = x0 at *
  simp only [Nat.add_zero] at p0
  go_enter Tryz.func125, Tryz.ntmps125
  go_wp2
  go_loopg [3, 4] (xs.length - 1) (fun g m i wr => ∃ k : Nat, 1 ≤ k ∧ k ≤ xs.length ∧ g = xs.length - k ∧ i = .int .i64 k ∧ m = .int .i64 (maxTo xs k) ∧ wr = w)
  case atStart => exact ⟨1, Nat.le_refl _, h1, rfl, rfl, by rw [E0.out], rfl⟩
  case round =>
    obtain ⟨k, hk1, hk, rfl, rfl, rfl, rfl⟩ := hrel
    by_cases hlt : k < xs.length
    · obtain ⟨b', off', hA, _, q0⟩ := hs.int_at hlt
      injection hA with hA
      injection hA with hA1 hA2
      subst hA1 hA2
      have i1 : (0 : Int) ≤ (k : Int) := Int.natCast_nonneg _
      have i2 : (k : Int) < (xs.length : Int) := by omega
      have Hs := Lib.hid (maxTo_succ hlt hk1)
      generalize xs.getD k 0 = x at *
      generalize maxTo xs k = m at *
      by_cases hmx : m < x
      · have hmx2 : ¬ x < m := by omega
        rw [Int.max_eq_right (by omega)] at Hs
        have Hmx := Lib.hid hmx
        go_wp2
        go_roundg (xs.length - (k + 1))
        case measure => omega
        case rel => exact ⟨k + 1, by omega, by omega, rfl, by go_num, by rw [Hs.out], rfl⟩
      · rw [Int.max_eq_left (by omega)] at Hs
        go_wp2
        go_roundg (xs.length - (k + 1))
        case measure => omega
        case rel => exact ⟨k + 1, by omega, by omega, rfl, by go_num, by rw [Hs.out], rfl⟩
    · obtain rfl : k = xs.length := by omega
      go_wp2
      exact HR.out
end Go.Proofs.YtcakodemngchpaaGreatDoor

/- What is wrong with an instruction. -/
namespace Go.Proofs.YtcakodemngchpaaGreatDoor
open Go.RowKit
set_option linter.unusedSimpArgs false
set_option linter.unusedVariables false

theorem fieldF_vals (u : Bool) (r : Int) : fieldF u r = 0 ∨ fieldF u r = 3 ∨ fieldF u r = 5 := by
  unfold fieldF
  split <;> split <;> simp
theorem numberF_vals (k n m : Int) : numberF k n m = 0 ∨ numberF k n m = 3 ∨ numberF k n m = 5 := by
  unfold numberF
  repeat' split
  all_goals simp
def codesOf (m : Mac) (many : Int) : List Int := [fieldF (shapeOf m.op).d m.dst, fieldF (shapeOf m.op).a m.a, fieldF (shapeOf m.op).b m.b, numberF (shapeOf m.op).n m.n many]
theorem macF_codes {m : Mac} {many : Int} (h : known m.op = true) : macF m many = if (3 : Int) ∈ codesOf m many then 3 else maxTo (codesOf m many) 4 := by
  unfold macF
  rw [if_neg (by simp [h])]
  unfold codesOf maxTo
  simp only [List.mem_cons, List.not_mem_nil, or_false, List.take_succ_cons, List.take_zero, List.drop_succ_cons, List.drop_zero, List.getD_cons_zero, List.foldl_cons, List.foldl_nil]
  rcases fieldF_vals (shapeOf m.op).d m.dst with a | a | a <;> rcases fieldF_vals (shapeOf m.op).a m.a with b | b | b <;> rcases fieldF_vals (shapeOf m.op).b m.b with c | c | c <;> rcases numberF_vals (shapeOf m.op).n m.n many with d | d | d <;> simp only [a, b, c, d] <;> decide

theorem ints_four {w : World} {g B : Nat} {a b c d : Int} (hg : g < B) (h0 : w.cell? ⟨g, 0, none⟩ = some (.int .i64 a)) (h1 : w.cell? ⟨g, 1, none⟩ = some (.int .i64 b)) (h2 : w.cell? ⟨g, 2, none⟩ = some (.int .i64 c)) (h3 : w.cell? ⟨g, 3, none⟩ = some (.int .i64 d)) :
    rpInt.SL w B [a, b, c, d] (.slice (some ⟨g, 0, none⟩) 4 4) := by
  refine ⟨some ⟨g, 0, none⟩, 4, rfl, (by simp [maxLen]), (by simp), fun _ => ⟨g, 0, rfl, hg, fun k x hk => ⟨[.int .i64 x], rfl, fun j u hj => ?_⟩⟩⟩
  obtain rfl : j = 0 := by
    rcases j with _ | j
    · rfl
    · cases hj
  obtain rfl : Value.int .i64 x = u := by simpa using hj
  rcases k with _ | _ | _ | _ | k
  · obtain rfl : a = x := by simpa using hk
    exact h0
  · obtain rfl : b = x := by simpa using hk
    exact h1
  · obtain rfl : c = x := by simpa using hk
    exact h2
  · obtain rfl : d = x := by simpa using hk
    exact h3
  · simp at hk

set_option maxRecDepth 100000 in
set_option maxHeartbeats 400000 in
theorem macF_calls (m : Mac) (many : Int) (w : World) (hS : Shapes w) (R : Ending → World → Prop) (hR : ∀ w', Below w.heap.size w w' → R (.returned (.int .i64 (macF m many))) w') :
    Calls Tryz.prog 115 #[.agg #[.int .i64 m.op, .int .i64 m.dst, .int .i64 m.a, .int .i64 m.b, .int .i64 m.n], .int .i64 many] w R := by
  have h0 := hS.1
  have HS := Lib.hid hS
  clear hS
  cases hk : known m.op
  · have e : macF m many = 4 := by rw [macF, if_pos hk]
    rw [e] at hR
    have HR := Lib.hid hR
    have Hk := Lib.hid hk
    clear e hR hk
    go_enter Tryz.func115, Tryz.ntmps115
    go_wp2_with fail
    refine Of_calls _ _ (HS.out.up (bl0) h0) _ ?_
    intro w1 hb1
    rw [Hk.out]
    unfold Shape.val
    obtain ⟨hc1, hf1⟩ := bcell hb1
    have hz : w.heap.size < w1.heap.size := by have := hb1.size; simp at this; omega
    go_wp2
    exact HR.out _ bl0
  · have e := macF_codes (many := many) hk
    rw [e] at hR
    have HR := Lib.hid hR
    have Hk := Lib.hid hk
    clear e hR hk
    go_enter Tryz.func115, Tryz.ntmps115
    go_wp2_with fail
    refine Of_calls _ _ (HS.out.up (bl0) h0) _ ?_
    intro w1 hb1
    rw [Hk.out]
    unfold codesOf at HR
    generalize shapeOf m.op = s at *
    obtain ⟨sd, sa, sb, sn⟩ := s
    unfold Shape.val
    obtain ⟨hc1, hf1⟩ := bcell hb1
    have hz : w.heap.size < w1.heap.size := by have := hb1.size; simp at this; omega
    have p1 : w1.cell? ⟨w.heap.size, 1, none⟩ = some (.int .i64 m.dst) := by rw [hc1 _ _ (by simp)]; simp
    have p2 : w1.cell? ⟨w.heap.size, 2, none⟩ = some (.int .i64 m.a) := by rw [hc1 _ _ (by simp)]; simp
    have p3 : w1.cell? ⟨w.heap.size, 3, none⟩ = some (.int .i64 m.b) := by rw [hc1 _ _ (by simp)]; simp
    have p4 : w1.cell? ⟨w.heap.size, 4, none⟩ = some (.int .i64 m.n) := by rw [hc1 _ _ (by simp)]; simp
    go_wp2_with fail
    go_region_held3 (fun w' => w'.cell? ⟨w1.heap.size, 0, none⟩ = some (.bool sd) ∧ w'.cell? ⟨w1.heap.size, 1, none⟩ = some (.bool sa) ∧ w'.cell? ⟨w1.heap.size, 2, none⟩ = some (.bool sb) ∧ w'.cell? ⟨w1.heap.size, 3, none⟩ = some (.int .i64 sn) ∧ w'.cell? ⟨w.heap.size, 1, none⟩ = some (.int .i64 m.dst) ∧ w'.cell? ⟨w.heap.size, 2, none⟩ = some (.int .i64 m.a) ∧ w'.cell? ⟨w.heap.size, 3, none⟩ = some (.int .i64 m.b) ∧ w'.cell? ⟨w.heap.size, 4, none⟩ = some (.int .i64 m.n)) (first | go_keep) (first | (go_at_call 122; refine fieldF_calls _ _ _ _ ?_) | (go_at_call 123; refine numberF_calls _ _ _ _ _ ?_))
    all_goals
      generalize fieldF sd m.dst = c0 at *
      generalize fieldF sa m.a = c1 at *
      generalize fieldF sb m.b = c2 at *
      generalize numberF sn m.n many = c3 at *
      go_wp2_with fail
      refine Contains_calls _ [c0, c1, c2, c3] 3 _ (ints_four (by first | omega | (simp; done) | (simp; omega)) (by simp) (by simp) (by simp) (by simp)) _ ?_
      by_cases h3 : (3 : Int) ∈ [c0, c1, c2, c3]
      · rw [decide_eq_true h3]
        rw [if_pos h3] at HR
        clear h3
        go_wp2
        exact HR.out _ bl0
      · rw [decide_eq_false h3]
        rw [if_neg h3] at HR
        clear h3
        go_wp2_with fail
        refine Max_calls _ [c0, c1, c2, c3] _ (ints_four (by first | omega | (simp; done) | (simp; omega)) (by simp) (by simp) (by simp) (by simp)) (by simp) _ ?_
        have hx : maxTo [c0, c1, c2, c3] [c0, c1, c2, c3].length = maxTo [c0, c1, c2, c3] 4 := rfl
        rw [hx]
        generalize maxTo [c0, c1, c2, c3] 4 = mm at *
        go_wp2
        exact HR.out _ bl0
end Go.Proofs.YtcakodemngchpaaGreatDoor

/- mac.Check: what is wrong with a list of instructions. -/
namespace Go.Proofs.YtcakodemngchpaaGreatDoor
open Go.RowKit
set_option linter.unusedSimpArgs false
set_option linter.unusedVariables false

theorem macsFrom_step {l : List Mac} {k : Nat} {m : Mac} (h : l[k]? = some m) : macsFrom l (l.length - k) k = if macF m l.length ≠ 0 then (macF m l.length, (k : Int)) else macsFrom l (l.length - (k + 1)) (k + 1) := by
  have hk : k < l.length := (List.getElem?_eq_some_iff.1 h).1
  rw [show l.length - k = (l.length - (k + 1)) + 1 from by omega, macsFrom, List.getD_eq_getElem?_getD, h]
  rfl
theorem macsFrom_end {l : List Mac} {m : Mac} (h : l[l.length - 1]? = some m) : macsFrom l (l.length - l.length) l.length = if m.op = 37 ∨ m.op = 45 then (0, 0) else (5, (l.length : Int) - 1) := by
  rw [Nat.sub_self, macsFrom, List.getD_eq_getElem?_getD, h]
  rfl

set_option maxRecDepth 100000 in
set_option maxHeartbeats 1000000 in
theorem Check_calls (v : Value) (xs : List Mac) (w : World) (h : rpMac.SL w w.heap.size xs v) (hS : Shapes w) (R : Ending → World → Prop)
    (hR : ∀ w', Below w.heap.size w w' → R (.returned (.agg #[.int .i64 (macsFault xs).1, .int .i64 (macsFault xs).2])) w') :
    Calls Tryz.prog 82 #[v] w R := by
  have h0 := hS.1
  have HS := Lib.hid hS
  clear hS
  obtain ⟨A, n, rfl, hm, hcap, h⟩ := h.cases_
  by_cases h100 : 5000 < xs.length
  · rw [show macsFault xs = (2, 0) from by rw [macsFault, if_pos h100]] at hR
    have h100' : (5000 : Int) < (xs.length : Int) := by omega
    go_enter Tryz.func82, Tryz.ntmps82
    go_wp2
    refine bodyPost_ret (v := (.agg #[.int .i64 ((2, 0)).1, .int .i64 ((2, 0)).2])) (by simp [results, Tryz.results82, go_sem]) rfl ?_
    exact hR _ bl0
  by_cases hnil : xs = []
  · rw [show macsFault xs = (5, 0) from by rw [macsFault, if_neg h100, if_pos hnil]] at hR
    subst hnil
    clear h100
    simp only [List.length_nil] at h hcap hm
    go_enter Tryz.func82, Tryz.ntmps82
    go_wp2
    refine bodyPost_ret (v := (.agg #[.int .i64 ((5, 0)).1, .int .i64 ((5, 0)).2])) (by simp [results, Tryz.results82, go_sem]) rfl ?_
    exact hR _ bl0
  have hpos : 0 < xs.length := List.length_pos_iff.2 hnil
  rw [show macsFault xs = macsFrom xs xs.length 0 from by rw [macsFault, if_neg h100, if_neg hnil]] at hR
  have h100' : ¬ (5000 : Int) < (xs.length : Int) := by omega
  have hnz : ((xs.length : Int) == 0) = false := by simp; omega
  have HR := Lib.hid hR
  clear hR hnil
  go_enter Tryz.func82, Tryz.ntmps82
  go_wp2
  go_loopg [19] xs.length (fun g i wr => ∃ k : Nat, k ≤ xs.length ∧ g = xs.length - k ∧ i = .int .i64 k ∧ macsFrom xs (xs.length - k) k = macsFrom xs xs.length 0 ∧ Below (w.heap.size + 1) (w.alloc (Obj.cells #[Value.int IntKind.i64 0, Value.int IntKind.i64 0] 27)) wr)
  case atStart => exact ⟨0, Nat.zero_le _, rfl, rfl, rfl, Below.refl _ _⟩
  case round =>
    obtain ⟨k, hk, rfl, rfl, ht, hbel⟩ := hrel
    have Ht := Lib.hid ht
    clear ht
    have hz0 : w.heap.size < wr.heap.size := by have := hbel.size; simp at this; omega
    have d0 : wr.cell? ⟨w.heap.size, 0, none⟩ = some (.int .i64 0) := by rw [hbel.cell (by simp)]; simp
    have d1 : wr.cell? ⟨w.heap.size, 1, none⟩ = some (.int .i64 0) := by rw [hbel.cell (by simp)]; simp
    have e0 : wr.frozen? ⟨w.heap.size, 0, none⟩ = false := by rw [hbel.frozen (by simp)]; simp
    have e1 : wr.frozen? ⟨w.heap.size, 1, none⟩ = false := by rw [hbel.frozen (by simp)]; simp
    by_cases hlt : k < xs.length
    · obtain ⟨b, off, m, rfl, hb, e, q0, q1, q2, q3, q4⟩ := h.mac_at hlt
      have Hs := Lib.hid (macsFrom_step e)
      have key : ∀ o u, w.cell? ⟨b, o, none⟩ = some u → wr.cell? ⟨b, o, none⟩ = some u := fun o u hu => (hbel.cell (by show b < _; omega)).trans ((World.cell?_alloc_lt _ _ _ hb).trans hu)
      have p0 := key _ _ q0
      have p1 := key _ _ q1
      have p2 := key _ _ q2
      have p3 := key _ _ q3
      have p4 := key _ _ q4
      have hb' : b < wr.heap.size := by omega
      clear q0 q1 q2 q3 q4 key e
      have i1 : (0 : Int) ≤ (k : Int) := Int.natCast_nonneg _
      have i2 : (k : Int) < (xs.length : Int) := by omega
      have HSr := Lib.hid (HS.out.up (w' := wr.alloc (Obj.cells #[.int .i64 m.op, .int .i64 m.dst, .int .i64 m.a, .int .i64 m.b, .int .i64 m.n] 54)) (B := w.heap.size) (below_step (hbel.alloc (by omega) _) bl0 (by first | omega | (simp; done) | (simp; omega))) h0)
      go_wp2_with fail
      refine macF_calls m _ _ HSr.out _ ?_
      intro w1 hb1
      obtain ⟨hc1, hf1⟩ := bcell hb1
      have hz1 : wr.heap.size < w1.heap.size := by have := hb1.size; simp at this; omega
      have hz2 : w.heap.size < w1.heap.size := by omega
      have hbel1 : Below (w.heap.size + 1) (w.alloc (Obj.cells #[Value.int IntKind.i64 0, Value.int IntKind.i64 0] 27)) w1 := (hbel.alloc (by omega) _).trans (hb1.mono (by simp; omega))
      generalize macF m (xs.length : Int) = c at *
      by_cases hc : c = 0
      · subst hc
        rw [if_neg (by simp)] at Hs
        go_wp2
        go_roundg (xs.length - (k + 1))
        case measure => omega
        case rel => exact ⟨k + 1, by omega, rfl, by go_num, by rw [← Ht.out, Hs.out], hbel1⟩
      · rw [if_pos hc] at Hs
        have hcn : (c != 0) = true := by simp [hc]
        have HR2 : Hid (∀ w', Below w.heap.size w w' → R (.returned (.agg #[.int .i64 ((c, (k : Int))).1, .int .i64 ((c, (k : Int))).2])) w') := by
          have := HR.out
          rw [← Ht.out, Hs.out] at this
          exact this
        clear hc
        go_wp2
        refine bodyPost_ret (v := (.agg #[.int .i64 ((c, (k : Int))).1, .int .i64 ((c, (k : Int))).2])) (res_Fault (by rfl) (by rfl) (cells_set2 (a := w.alloc (Obj.cells #[Value.int IntKind.i64 0, Value.int IntKind.i64 0] 27)) (B := w.heap.size + 1) bl0 (Nat.lt_succ_self _) (by simp; rfl) (by simp; rfl) _ _)) rfl ?_
        exact HR2.out _ bl0
    · obtain rfl : k = xs.length := by omega
      obtain ⟨b, off, m, rfl, hb, e, q0, q1, q2, q3, q4⟩ := h.mac_at (k := xs.length - 1) (by omega)
      have p0 : wr.cell? ⟨b, off + (xs.length - 1) * 5, none⟩ = some (.int .i64 m.op) := (hbel.cell (by show b < _; omega)).trans ((World.cell?_alloc_lt _ _ _ hb).trans q0)
      have He := Lib.hid (macsFrom_end e)
      have i1 : (0 : Int) ≤ (xs.length : Int) - 1 := by omega
      have i3 : (1 : Int) ≤ (xs.length : Int) := by omega
      have i2 : ((xs.length : Int) - 1) < (xs.length : Int) := by omega
      have i4 : ((xs.length : Int) - 1).toNat = xs.length - 1 := by omega
      by_cases h37 : m.op = 37
      · have b1 : (m.op != 37) = false := by simp [h37]
        have HR2 : Hid (∀ w', Below w.heap.size w w' → R (.returned (.agg #[.int .i64 ((0, 0)).1, .int .i64 ((0, 0)).2])) w') := by
          have := HR.out
          rw [← Ht.out, He.out, if_pos (.inl h37)] at this
          exact this
        clear h37
        go_wp2
        refine bodyPost_ret (v := (.agg #[.int .i64 ((0, 0)).1, .int .i64 ((0, 0)).2])) (res_Fault (by rfl) (by rfl) (cells_set2 (a := w.alloc (Obj.cells #[Value.int IntKind.i64 0, Value.int IntKind.i64 0] 27)) (B := w.heap.size + 1) bl0 (Nat.lt_succ_self _) (by simp; rfl) (by simp; rfl) _ _)) rfl ?_
        exact HR2.out _ bl0
      · have b1 : (m.op != 37) = true := by simp [h37]
        by_cases h45 : m.op = 45
        · have b2 : (m.op != 45) = false := by simp [h45]
          have HR2 : Hid (∀ w', Below w.heap.size w w' → R (.returned (.agg #[.int .i64 ((0, 0)).1, .int .i64 ((0, 0)).2])) w') := by
            have := HR.out
            rw [← Ht.out, He.out, if_pos (.inr h45)] at this
            exact this
          clear h37 h45
          go_wp2
          refine bodyPost_ret (v := (.agg #[.int .i64 ((0, 0)).1, .int .i64 ((0, 0)).2])) (res_Fault (by rfl) (by rfl) (cells_set2 (a := w.alloc (Obj.cells #[Value.int IntKind.i64 0, Value.int IntKind.i64 0] 27)) (B := w.heap.size + 1) bl0 (Nat.lt_succ_self _) (by simp; rfl) (by simp; rfl) _ _)) rfl ?_
          exact HR2.out _ bl0
        · have b2 : (m.op != 45) = true := by simp [h45]
          have HR2 : Hid (∀ w', Below w.heap.size w w' → R (.returned (.agg #[.int .i64 ((5, (xs.length : Int) - 1)).1, .int .i64 ((5, (xs.length : Int) - 1)).2])) w') := by
            have := HR.out
            rw [← Ht.out, He.out, if_neg (by omega)] at this
            exact this
          clear h37 h45
          go_wp2
          refine bodyPost_ret (v := (.agg #[.int .i64 ((5, (xs.length : Int) - 1)).1, .int .i64 ((5, (xs.length : Int) - 1)).2])) (res_Fault (by rfl) (by rfl) (cells_set2 (a := w.alloc (Obj.cells #[Value.int IntKind.i64 0, Value.int IntKind.i64 0] 27)) (B := w.heap.size + 1) bl0 (Nat.lt_succ_self _) (by simp; rfl) (by simp; rfl) _ _)) rfl ?_
          exact HR2.out _ bl0
end Go.Proofs.YtcakodemngchpaaGreatDoor
