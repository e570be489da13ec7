/- What is wrong with an instruction. -/
import Derived.Test.YtkodcoianakjoaaDoorLib
import Derived.Test.YtkodcoianakjoaaDoorRows
import Derived.IntWalk
import Derived.Deep.LoopGhost
import Derived.StillTailTactics
import Derived.Test.YtkodcoianakjoaaDoorMac2
namespace Go.Proofs.YtkodcoianakjoaaDoor
open Go.RowKit
set_option linter.unusedSimpArgs false
set_option linter.unusedVariables false

theorem fieldF_vals (u : Bool) (r : Int) : fieldF u r = 0 ∨ fieldF u r = 3 ∨ fieldF u r = 5 := by
  unfold fieldF
  split <;> split <;> simp
theorem numberF_vals (k n m : Int) : numberF k n m = 0 ∨ numberF k n m = 3 ∨ numberF k n m = 5 := by
  unfold numberF
  repeat' split
  all_goals simp
def codesOf (m : Mac) (many : Int) : List Int := [fieldF (shapeOf m.op).d m.dst, fieldF (shapeOf m.op).a m.a, fieldF (shapeOf m.op).b m.b, numberF (shapeOf m.op).n m.n many]
theorem macF_codes {m : Mac} {many : Int} (h : known m.op = true) : macF m many = if (3 : Int) ∈ codesOf m many then 3 else maxTo (codesOf m many) 4 := by
  unfold macF
  rw [if_neg (by simp [h])]
  unfold codesOf maxTo
  simp only [List.mem_cons, List.not_mem_nil, or_false, List.take_succ_cons, List.take_zero, List.drop_succ_cons, List.drop_zero, List.getD_cons_zero, List.foldl_cons, List.foldl_nil]
  rcases fieldF_vals (shapeOf m.op).d m.dst with a | a | a <;> rcases fieldF_vals (shapeOf m.op).a m.a with b | b | b <;> rcases fieldF_vals (shapeOf m.op).b m.b with c | c | c <;> rcases numberF_vals (shapeOf m.op).n m.n many with d | d | d <;> simp only [a, b, c, d] <;> decide

theorem ints_four {w : World} {g B : Nat} {a b c d : Int} (hg : g < B) (h0 : w.cell? ⟨g, 0, none⟩ = some (.int .i64 a)) (h1 : w.cell? ⟨g, 1, none⟩ = some (.int .i64 b)) (h2 : w.cell? ⟨g, 2, none⟩ = some (.int .i64 c)) (h3 : w.cell? ⟨g, 3, none⟩ = some (.int .i64 d)) :
    rpInt.SL w B [a, b, c, d] (.slice (some ⟨g, 0, none⟩) 4 4) := by
  refine ⟨some ⟨g, 0, none⟩, 4, rfl, (by simp [maxLen]), (by simp), fun _ => ⟨g, 0, rfl, hg, fun k x hk => ⟨[.int .i64 x], rfl, fun j u hj => ?_⟩⟩⟩
  obtain rfl : j = 0 := by
    rcases j with _ | j
    · rfl
    · cases hj
  obtain rfl : Value.int .i64 x = u := by simpa using hj
  rcases k with _ | _ | _ | _ | k
  · obtain rfl : a = x := by simpa using hk
    exact h0
  · obtain rfl : b = x := by simpa using hk
    exact h1
  · obtain rfl : c = x := by simpa using hk
    exact h2
  · obtain rfl : d = x := by simpa using hk
    exact h3
  · simp at hk

set_option maxRecDepth 100000 in
set_option maxHeartbeats 400000 in
theorem macF_calls (m : Mac) (many : Int) (w : World) (hS : Shapes w) (R : Ending → World → Prop) (hR : ∀ w', Below w.heap.size w w' → R (.returned (.int .i64 (macF m many))) w') :
    Calls Tryd.prog 103 #[.agg #[.int .i64 m.op, .int .i64 m.dst, .int .i64 m.a, .int .i64 m.b, .int .i64 m.n], .int .i64 many] w R := by
  have h0 := hS.1
  have HS := Lib.hid hS
  clear hS
  cases hk : known m.op
  · have e : macF m many = 4 := by rw [macF, if_pos hk]
    rw [e] at hR
    have HR := Lib.hid hR
    have Hk := Lib.hid hk
    clear e hR hk
    go_enter Tryd.func103, Tryd.ntmps103
    go_wp2_with fail
    refine Of_calls _ _ (HS.out.up ((by repeat (first | exact Below.refl _ _ | assumption | refine below_drewN ?_ _ | refine Below.drew ?_ | refine Below.setCell ?_ (by first | omega | (simp; done) | (simp; omega)) _ | refine Below.alloc ?_ (by first | omega | (simp; done) | (simp; omega)) _ | refine below_step (by assumption) ?_ (by first | omega | (simp; done) | (simp; omega))))) h0) _ ?_
    intro w1 hb1
    rw [Hk.out]
    unfold Shape.val
    obtain ⟨hc1, hf1⟩ := bcell hb1
    have hz : w.heap.size < w1.heap.size := by have := hb1.size; simp at this; omega
    go_wp2
    exact HR.out _ (by repeat (first | exact Below.refl _ _ | assumption | refine below_drewN ?_ _ | refine Below.drew ?_ | refine Below.setCell ?_ (by first | omega | (simp; done) | (simp; omega)) _ | refine Below.alloc ?_ (by first | omega | (simp; done) | (simp; omega)) _ | refine below_step (by assumption) ?_ (by first | omega | (simp; done) | (simp; omega))))
  · have e := macF_codes (many := many) hk
    rw [e] at hR
    have HR := Lib.hid hR
    have Hk := Lib.hid hk
    clear e hR hk
    go_enter Tryd.func103, Tryd.ntmps103
    go_wp2_with fail
    refine Of_calls _ _ (HS.out.up ((by repeat (first | exact Below.refl _ _ | assumption | refine below_drewN ?_ _ | refine Below.drew ?_ | refine Below.setCell ?_ (by first | omega | (simp; done) | (simp; omega)) _ | refine Below.alloc ?_ (by first | omega | (simp; done) | (simp; omega)) _ | refine below_step (by assumption) ?_ (by first | omega | (simp; done) | (simp; omega))))) h0) _ ?_
    intro w1 hb1
    rw [Hk.out]
    unfold codesOf at HR
    generalize shapeOf m.op = s at *
    obtain ⟨sd, sa, sb, sn⟩ := s
    unfold Shape.val
    obtain ⟨hc1, hf1⟩ := bcell hb1
    have hz : w.heap.size < w1.heap.size := by have := hb1.size; simp at this; omega
    have p1 : w1.cell? ⟨w.heap.size, 1, none⟩ = some (.int .i64 m.dst) := by rw [hc1 _ _ (by simp)]; simp
    have p2 : w1.cell? ⟨w.heap.size, 2, none⟩ = some (.int .i64 m.a) := by rw [hc1 _ _ (by simp)]; simp
    have p3 : w1.cell? ⟨w.heap.size, 3, none⟩ = some (.int .i64 m.b) := by rw [hc1 _ _ (by simp)]; simp
    have p4 : w1.cell? ⟨w.heap.size, 4, none⟩ = some (.int .i64 m.n) := by rw [hc1 _ _ (by simp)]; simp
    go_wp2_with fail
    go_region_held3 (fun w' => w'.cell? ⟨w1.heap.size, 0, none⟩ = some (.bool sd) ∧ w'.cell? ⟨w1.heap.size, 1, none⟩ = some (.bool sa) ∧ w'.cell? ⟨w1.heap.size, 2, none⟩ = some (.bool sb) ∧ w'.cell? ⟨w1.heap.size, 3, none⟩ = some (.int .i64 sn) ∧ w'.cell? ⟨w.heap.size, 1, none⟩ = some (.int .i64 m.dst) ∧ w'.cell? ⟨w.heap.size, 2, none⟩ = some (.int .i64 m.a) ∧ w'.cell? ⟨w.heap.size, 3, none⟩ = some (.int .i64 m.b) ∧ w'.cell? ⟨w.heap.size, 4, none⟩ = some (.int .i64 m.n)) (first | go_keep) (first | (go_at_call 108; refine fieldF_calls _ _ _ _ ?_) | (go_at_call 109; refine numberF_calls _ _ _ _ _ ?_))
    all_goals
      generalize fieldF sd m.dst = c0 at *
      generalize fieldF sa m.a = c1 at *
      generalize fieldF sb m.b = c2 at *
      generalize numberF sn m.n many = c3 at *
      go_wp2_with fail
      refine Contains_calls _ [c0, c1, c2, c3] 3 _ (ints_four (by first | omega | (simp; done) | (simp; omega)) (by simp) (by simp) (by simp) (by simp)) _ ?_
      by_cases h3 : (3 : Int) ∈ [c0, c1, c2, c3]
      · rw [decide_eq_true h3]
        rw [if_pos h3] at HR
        clear h3
        go_wp2
        exact HR.out _ (by repeat (first | exact Below.refl _ _ | assumption | refine below_drewN ?_ _ | refine Below.drew ?_ | refine Below.setCell ?_ (by first | omega | (simp; done) | (simp; omega)) _ | refine Below.alloc ?_ (by first | omega | (simp; done) | (simp; omega)) _ | refine below_step (by assumption) ?_ (by first | omega | (simp; done) | (simp; omega))))
      · rw [decide_eq_false h3]
        rw [if_neg h3] at HR
        clear h3
        go_wp2_with fail
        refine Max_calls _ [c0, c1, c2, c3] _ (ints_four (by first | omega | (simp; done) | (simp; omega)) (by simp) (by simp) (by simp) (by simp)) (by simp) _ ?_
        have hx : maxTo [c0, c1, c2, c3] [c0, c1, c2, c3].length = maxTo [c0, c1, c2, c3] 4 := rfl
        rw [hx]
        generalize maxTo [c0, c1, c2, c3] 4 = mm at *
        go_wp2
        exact HR.out _ (by repeat (first | exact Below.refl _ _ | assumption | refine below_drewN ?_ _ | refine Below.drew ?_ | refine Below.setCell ?_ (by first | omega | (simp; done) | (simp; omega)) _ | refine Below.alloc ?_ (by first | omega | (simp; done) | (simp; omega)) _ | refine below_step (by assumption) ?_ (by first | omega | (simp; done) | (simp; omega))))
end Go.Proofs.YtkodcoianakjoaaDoor
