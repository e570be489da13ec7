/- The document's answer: what is wrong with a list of instructions. -/
import Derived.Test.YtkodcoianakjoaaDoorLib
import Derived.Test.YtkodcoianakjoaaDoorRows
import Derived.IntWalk
import Derived.Deep.LoopGhost
import Derived.Test.YtkodcoianakjoaaDoorLib2
import Derived.Test.YtkodcoianakjoaaDoorMac4
import Derived.Test.YtkodcoianakjoaaDoorMacRef2
namespace Go.Proofs.YtkodcoianakjoaaDoor
open Go.RowKit
set_option linter.unusedSimpArgs false
set_option linter.unusedVariables false

set_option maxRecDepth 100000 in
set_option maxHeartbeats 1000000 in
theorem RefMacCheck_calls (v : Value) (xs : List Mac) (w : World) (h : rpMac.SL w w.heap.size xs v) (R : Ending → World → Prop)
    (hR : ∀ w', Below w.heap.size w w' → R (.returned (.agg #[.int .i64 (macsFault xs).1, .int .i64 (macsFault xs).2])) w') :
    Calls Tryd.prog 98 #[v] w R := by
  obtain ⟨A, n, rfl, hm, hcap, h⟩ := h.cases_
  by_cases h100 : 5000 < xs.length
  · rw [show macsFault xs = (2, 0) from by rw [macsFault, if_pos h100]] at hR
    have h100' : (5000 : Int) < (xs.length : Int) := by omega
    go_enter Tryd.func98, Tryd.ntmps98
    go_wp2
    refine bodyPost_ret (v := (.agg #[.int .i64 ((2, 0)).1, .int .i64 ((2, 0)).2])) (by simp [results, Tryd.results98, go_sem]) rfl ?_
    exact hR _ (by repeat (first | exact Below.refl _ _ | assumption | refine below_drewN ?_ _ | refine Below.drew ?_ | refine Below.setCell ?_ (by first | omega | (simp; done) | (simp; omega)) _ | refine Below.alloc ?_ (by first | omega | (simp; done) | (simp; omega)) _ | refine below_step (by assumption) ?_ (by first | omega | (simp; done) | (simp; omega))))
  by_cases hnil : xs = []
  · rw [show macsFault xs = (5, 0) from by rw [macsFault, if_neg h100, if_pos hnil]] at hR
    subst hnil
    clear h100
    simp only [List.length_nil] at h hcap hm
    go_enter Tryd.func98, Tryd.ntmps98
    go_wp2
    refine bodyPost_ret (v := (.agg #[.int .i64 ((5, 0)).1, .int .i64 ((5, 0)).2])) (by simp [results, Tryd.results98, go_sem]) rfl ?_
    exact hR _ (by repeat (first | exact Below.refl _ _ | assumption | refine below_drewN ?_ _ | refine Below.drew ?_ | refine Below.setCell ?_ (by first | omega | (simp; done) | (simp; omega)) _ | refine Below.alloc ?_ (by first | omega | (simp; done) | (simp; omega)) _ | refine below_step (by assumption) ?_ (by first | omega | (simp; done) | (simp; omega))))
  have hpos : 0 < xs.length := List.length_pos_iff.2 hnil
  rw [show macsFault xs = macsFrom xs xs.length 0 from by rw [macsFault, if_neg h100, if_neg hnil]] at hR
  have h100' : ¬ (5000 : Int) < (xs.length : Int) := by omega
  have hnz : ((xs.length : Int) == 0) = false := by simp; omega
  have HR := Lib.hid hR
  clear hR hnil
  go_enter Tryd.func98, Tryd.ntmps98
  go_wp2
  go_loopg [3] xs.length (fun g i wr => ∃ k : Nat, k ≤ xs.length ∧ g = xs.length - k ∧ i = .int .i64 k ∧ macsFrom xs (xs.length - k) k = macsFrom xs xs.length 0 ∧ Below (w.heap.size + 1) (w.alloc (Obj.cells #[Value.int IntKind.i64 0, Value.int IntKind.i64 0] 27)) wr)
  case atStart => exact ⟨0, Nat.zero_le _, rfl, rfl, rfl, Below.refl _ _⟩
  case round =>
    obtain ⟨k, hk, rfl, rfl, ht, hbel⟩ := hrel
    have Ht := Lib.hid ht
    clear ht
    have hz0 : w.heap.size < wr.heap.size := by have := hbel.size; simp at this; omega
    have d0 : wr.cell? ⟨w.heap.size, 0, none⟩ = some (.int .i64 0) := by rw [hbel.cell (by simp)]; simp
    have d1 : wr.cell? ⟨w.heap.size, 1, none⟩ = some (.int .i64 0) := by rw [hbel.cell (by simp)]; simp
    have e0 : wr.frozen? ⟨w.heap.size, 0, none⟩ = false := by rw [hbel.frozen (by simp)]; simp
    have e1 : wr.frozen? ⟨w.heap.size, 1, none⟩ = false := by rw [hbel.frozen (by simp)]; simp
    by_cases hlt : k < xs.length
    · obtain ⟨b, off, m, rfl, hb, e, q0, q1, q2, q3, q4⟩ := h.mac_at hlt
      have Hs := Lib.hid (macsFrom_step e)
      have key : ∀ o u, w.cell? ⟨b, o, none⟩ = some u → wr.cell? ⟨b, o, none⟩ = some u := fun o u hu => (hbel.cell (by show b < _; omega)).trans ((World.cell?_alloc_lt _ _ _ hb).trans hu)
      have p0 := key _ _ q0
      have p1 := key _ _ q1
      have p2 := key _ _ q2
      have p3 := key _ _ q3
      have p4 := key _ _ q4
      have hb' : b < wr.heap.size := by omega
      clear q0 q1 q2 q3 q4 key e
      have i1 : (0 : Int) ≤ (k : Int) := Int.natCast_nonneg _
      have i2 : (k : Int) < (xs.length : Int) := by omega
      go_wp2_with fail
      refine RefMacF_calls m _ _ _ ?_
      intro w1 hb1
      obtain ⟨hc1, hf1⟩ := bcell hb1
      have hz1 : wr.heap.size ≤ w1.heap.size := hb1.size
      have hz2 : w.heap.size < w1.heap.size := by omega
      have hbel1 : Below (w.heap.size + 1) (w.alloc (Obj.cells #[Value.int IntKind.i64 0, Value.int IntKind.i64 0] 27)) w1 := hbel.trans (hb1.mono hz0)
      generalize macF m (xs.length : Int) = c at *
      by_cases hc : c = 0
      · subst hc
        rw [if_neg (by simp)] at Hs
        go_wp2
        go_roundg (xs.length - (k + 1))
        case measure => omega
        case rel => exact ⟨k + 1, by omega, rfl, by go_num, by rw [← Ht.out, Hs.out], hbel1⟩
      · rw [if_pos hc] at Hs
        have hcn : (c != 0) = true := by simp [hc]
        have HR2 : Hid (∀ w', Below w.heap.size w w' → R (.returned (.agg #[.int .i64 ((c, (k : Int))).1, .int .i64 ((c, (k : Int))).2])) w') := by
          have := HR.out
          rw [← Ht.out, Hs.out] at this
          exact this
        clear hc
        go_wp2
        refine bodyPost_ret (v := (.agg #[.int .i64 ((c, (k : Int))).1, .int .i64 ((c, (k : Int))).2])) (res_Fault (by rfl) (by rfl) (cells_set2 (a := w.alloc (Obj.cells #[Value.int IntKind.i64 0, Value.int IntKind.i64 0] 27)) (B := w.heap.size + 1) (by repeat (first | exact Below.refl _ _ | assumption | refine below_drewN ?_ _ | refine Below.drew ?_ | refine Below.setCell ?_ (by first | omega | (simp; done) | (simp; omega)) _ | refine Below.alloc ?_ (by first | omega | (simp; done) | (simp; omega)) _ | refine below_step (by assumption) ?_ (by first | omega | (simp; done) | (simp; omega)))) (Nat.lt_succ_self _) (by simp; rfl) (by simp; rfl) _ _)) rfl ?_
        exact HR2.out _ (by repeat (first | exact Below.refl _ _ | assumption | refine below_drewN ?_ _ | refine Below.drew ?_ | refine Below.setCell ?_ (by first | omega | (simp; done) | (simp; omega)) _ | refine Below.alloc ?_ (by first | omega | (simp; done) | (simp; omega)) _ | refine below_step (by assumption) ?_ (by first | omega | (simp; done) | (simp; omega))))
    · obtain rfl : k = xs.length := by omega
      obtain ⟨b, off, m, rfl, hb, e, q0, q1, q2, q3, q4⟩ := h.mac_at (k := xs.length - 1) (by omega)
      have p0 : wr.cell? ⟨b, off + (xs.length - 1) * 5, none⟩ = some (.int .i64 m.op) := (hbel.cell (by show b < _; omega)).trans ((World.cell?_alloc_lt _ _ _ hb).trans q0)
      have He := Lib.hid (macsFrom_end e)
      have i1 : (0 : Int) ≤ (xs.length : Int) - 1 := by omega
      have i3 : (1 : Int) ≤ (xs.length : Int) := by omega
      have i2 : ((xs.length : Int) - 1) < (xs.length : Int) := by omega
      have i4 : ((xs.length : Int) - 1).toNat = xs.length - 1 := by omega
      by_cases h37 : m.op = 37
      · have b1 : (m.op != 37) = false := by simp [h37]
        have HR2 : Hid (∀ w', Below w.heap.size w w' → R (.returned (.agg #[.int .i64 ((0, 0)).1, .int .i64 ((0, 0)).2])) w') := by
          have := HR.out
          rw [← Ht.out, He.out, if_pos (.inl h37)] at this
          exact this
        clear h37
        go_wp2
        refine bodyPost_ret (v := (.agg #[.int .i64 ((0, 0)).1, .int .i64 ((0, 0)).2])) (res_Fault (by rfl) (by rfl) (cells_set2 (a := w.alloc (Obj.cells #[Value.int IntKind.i64 0, Value.int IntKind.i64 0] 27)) (B := w.heap.size + 1) (by repeat (first | exact Below.refl _ _ | assumption | refine below_drewN ?_ _ | refine Below.drew ?_ | refine Below.setCell ?_ (by first | omega | (simp; done) | (simp; omega)) _ | refine Below.alloc ?_ (by first | omega | (simp; done) | (simp; omega)) _ | refine below_step (by assumption) ?_ (by first | omega | (simp; done) | (simp; omega)))) (Nat.lt_succ_self _) (by simp; rfl) (by simp; rfl) _ _)) rfl ?_
        exact HR2.out _ (by repeat (first | exact Below.refl _ _ | assumption | refine below_drewN ?_ _ | refine Below.drew ?_ | refine Below.setCell ?_ (by first | omega | (simp; done) | (simp; omega)) _ | refine Below.alloc ?_ (by first | omega | (simp; done) | (simp; omega)) _ | refine below_step (by assumption) ?_ (by first | omega | (simp; done) | (simp; omega))))
      · have b1 : (m.op != 37) = true := by simp [h37]
        by_cases h45 : m.op = 45
        · have b2 : (m.op != 45) = false := by simp [h45]
          have HR2 : Hid (∀ w', Below w.heap.size w w' → R (.returned (.agg #[.int .i64 ((0, 0)).1, .int .i64 ((0, 0)).2])) w') := by
            have := HR.out
            rw [← Ht.out, He.out, if_pos (.inr h45)] at this
            exact this
          clear h37 h45
          go_wp2
          refine bodyPost_ret (v := (.agg #[.int .i64 ((0, 0)).1, .int .i64 ((0, 0)).2])) (res_Fault (by rfl) (by rfl) (cells_set2 (a := w.alloc (Obj.cells #[Value.int IntKind.i64 0, Value.int IntKind.i64 0] 27)) (B := w.heap.size + 1) (by repeat (first | exact Below.refl _ _ | assumption | refine below_drewN ?_ _ | refine Below.drew ?_ | refine Below.setCell ?_ (by first | omega | (simp; done) | (simp; omega)) _ | refine Below.alloc ?_ (by first | omega | (simp; done) | (simp; omega)) _ | refine below_step (by assumption) ?_ (by first | omega | (simp; done) | (simp; omega)))) (Nat.lt_succ_self _) (by simp; rfl) (by simp; rfl) _ _)) rfl ?_
          exact HR2.out _ (by repeat (first | exact Below.refl _ _ | assumption | refine below_drewN ?_ _ | refine Below.drew ?_ | refine Below.setCell ?_ (by first | omega | (simp; done) | (simp; omega)) _ | refine Below.alloc ?_ (by first | omega | (simp; done) | (simp; omega)) _ | refine below_step (by assumption) ?_ (by first | omega | (simp; done) | (simp; omega))))
        · have b2 : (m.op != 45) = true := by simp [h45]
          have HR2 : Hid (∀ w', Below w.heap.size w w' → R (.returned (.agg #[.int .i64 ((5, (xs.length : Int) - 1)).1, .int .i64 ((5, (xs.length : Int) - 1)).2])) w') := by
            have := HR.out
            rw [← Ht.out, He.out, if_neg (by omega)] at this
            exact this
          clear h37 h45
          go_wp2
          refine bodyPost_ret (v := (.agg #[.int .i64 ((5, (xs.length : Int) - 1)).1, .int .i64 ((5, (xs.length : Int) - 1)).2])) (res_Fault (by rfl) (by rfl) (cells_set2 (a := w.alloc (Obj.cells #[Value.int IntKind.i64 0, Value.int IntKind.i64 0] 27)) (B := w.heap.size + 1) (by repeat (first | exact Below.refl _ _ | assumption | refine below_drewN ?_ _ | refine Below.drew ?_ | refine Below.setCell ?_ (by first | omega | (simp; done) | (simp; omega)) _ | refine Below.alloc ?_ (by first | omega | (simp; done) | (simp; omega)) _ | refine below_step (by assumption) ?_ (by first | omega | (simp; done) | (simp; omega)))) (Nat.lt_succ_self _) (by simp; rfl) (by simp; rfl) _ _)) rfl ?_
          exact HR2.out _ (by repeat (first | exact Below.refl _ _ | assumption | refine below_drewN ?_ _ | refine Below.drew ?_ | refine Below.setCell ?_ (by first | omega | (simp; done) | (simp; omega)) _ | refine Below.alloc ?_ (by first | omega | (simp; done) | (simp; omega)) _ | refine below_step (by assumption) ?_ (by first | omega | (simp; done) | (simp; omega))))
end Go.Proofs.YtkodcoianakjoaaDoor
