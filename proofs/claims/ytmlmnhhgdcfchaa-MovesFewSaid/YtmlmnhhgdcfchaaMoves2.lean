/- Moves: what is wrong with them. -/
import Derived.Test.YtmlmnhhgdcfchaaLib
import Derived.Test.YtmlmnhhgdcfchaaRows
import Derived.IntWalk
import Derived.Test.YtmlmnhhgdcfchaaLib2
import Derived.Test.YtmlmnhhgdcfchaaMoves1
namespace Go.Proofs.Ytmlmnhhgdcfchaa
open Go.RowKit
set_option linter.unusedSimpArgs false
set_option linter.unusedVariables false

def movesFrom (l : List Move) (spare : Int) : Nat → Nat → Int × Int
 | 0, _ => if 0 ≤ spare ∧ spare ≤ 999 then (0, 0) else (3, -1)
 | n + 1, i => if ¬ (0 ≤ (l.getD i Move.zero).to ∧ (l.getD i Move.zero).to ≤ 999) ∨ ¬ (0 ≤ (l.getD i Move.zero).src ∧ (l.getD i Move.zero).src ≤ 999) then (3, (i : Int))
    else if (l.take i).any (fun o => o.to == (l.getD i Move.zero).to) = true then (7, (i : Int))
    else if (l.getD i Move.zero).to = spare ∨ (l.getD i Move.zero).src = spare then (11, (i : Int)) else movesFrom l spare n (i + 1)
def movesFault (l : List Move) (spare : Int) : Int × Int := if 100 < l.length then (2, 0) else movesFrom l spare l.length 0
theorem movesFrom_step {l : List Move} {spare : Int} {k : Nat} {m : Move} (h : l[k]? = some m) : movesFrom l spare (l.length - k) k = if ¬ (0 ≤ m.to ∧ m.to ≤ 999) ∨ ¬ (0 ≤ m.src ∧ m.src ≤ 999) then (3, (k : Int))
    else if (l.take k).any (fun o => o.to == m.to) = true then (7, (k : Int)) else if m.to = spare ∨ m.src = spare then (11, (k : Int)) else movesFrom l spare (l.length - (k + 1)) (k + 1) := by
  have hk : k < l.length := (List.getElem?_eq_some_iff.1 h).1
  rw [show l.length - k = (l.length - (k + 1)) + 1 from by omega, movesFrom]
  simp only [List.getD_eq_getElem?_getD, h, Option.getD_some]
theorem movesFrom_end (l : List Move) (spare : Int) : movesFrom l spare (l.length - l.length) l.length = if 0 ≤ spare ∧ spare ≤ 999 then (0, 0) else (3, -1) := by rw [Nat.sub_self, movesFrom]

set_option maxHeartbeats 400000 in
theorem movesFault_calls (v : Value) (xs : List Move) (spare : Int) (w : World) (h : rpMove.SL w w.heap.size xs v) (R : Ending → World → Prop)
    (hR : ∀ w', Below w.heap.size w w' → R (.returned (.agg #[.int .i64 (movesFault xs spare).1, .int .i64 (movesFault xs spare).2])) w') :
    Calls Try.prog 26 #[v, .int .i64 spare] w R := by
  obtain ⟨A, n, rfl, hm, hcap, h⟩ := h.cases_
  by_cases h100 : 100 < xs.length
  · rw [show movesFault xs spare = (2, 0) from by rw [movesFault, if_pos h100]] at hR
    have h100' : (100 : Int) < (xs.length : Int) := by omega
    go_enter Try.func26, Try.ntmps26
    go_wp2_with (go_at_call 30; refine Fault_calls _ _ _ _ ?_; intro w1 hb1; obtain ⟨hc1, hf1⟩ := bcell hb1)
    refine bodyPost_ret (v := (.agg #[.int .i64 ((2, 0)).1, .int .i64 ((2, 0)).2])) (by first | (simp [results, Try.results26, go_sem, hc1]; done) | (simp only [results, Try.results26]; go_simp)) rfl ?_
    exact hR _ (by repeat (first | exact Below.refl _ _ | assumption | refine below_drewN ?_ _ | refine Below.drew ?_ | refine Below.setCell ?_ (by first | omega | (simp; done) | (simp; omega)) _ | refine Below.alloc ?_ (by first | omega | (simp; done) | (simp; omega)) _ | refine below_step (by assumption) ?_ (by first | omega | (simp; done) | (simp; omega))))
  · rw [show movesFault xs spare = movesFrom xs spare xs.length 0 from by rw [movesFault, if_neg h100]] at hR
    have h100' : ¬ (100 : Int) < (xs.length : Int) := by omega
    go_enter Try.func26, Try.ntmps26
    go_wp2
    go_loopw [14] (fun i wr => ∃ k : Nat, k ≤ xs.length ∧ i = .int .i64 k ∧ movesFrom xs spare (xs.length - k) k = movesFrom xs spare xs.length 0 ∧ Below (w.heap.size + 1) (w.alloc (Obj.cells #[Value.int IntKind.i64 0, Value.int IntKind.i64 0] 27)) wr) (fun i _ => xs.length - (intOf i).toNat)
    case atStart => exact ⟨0, Nat.zero_le _, rfl, rfl, Below.refl _ _⟩
    case round =>
      obtain ⟨k, hk, rfl, ht, hbel⟩ := hrel
      have Ht := Lib.hid ht
      clear ht
      have hz0 : w.heap.size < wr.heap.size := by have := hbel.size; simp at this; omega
      have d0 : wr.cell? ⟨w.heap.size, 0, none⟩ = some (.int .i64 0) := by rw [hbel.cell (by simp)]; simp
      have d1 : wr.cell? ⟨w.heap.size, 1, none⟩ = some (.int .i64 0) := by rw [hbel.cell (by simp)]; simp
      have e0 : wr.frozen? ⟨w.heap.size, 0, none⟩ = false := by rw [hbel.frozen (by simp)]; simp
      have e1 : wr.frozen? ⟨w.heap.size, 1, none⟩ = false := by rw [hbel.frozen (by simp)]; simp
      by_cases hlt : k < xs.length
      · obtain ⟨b, off, m, rfl, hb, e, p0, p1⟩ := h.move_at hlt
        have Hs := Lib.hid (movesFrom_step (spare := spare) e)
        have p0' : wr.cell? ⟨b, off + k * 2, none⟩ = some (.int .i64 m.to) := (hbel.cell (by show b < _; omega)).trans ((World.cell?_alloc_lt _ _ _ hb).trans p0)
        have p1' : wr.cell? ⟨b, off + k * 2 + 1, none⟩ = some (.int .i64 m.src) := (hbel.cell (by show b < _; omega)).trans ((World.cell?_alloc_lt _ _ _ hb).trans p1)
        have hb' : b < wr.heap.size := by omega
        clear p0 p1 e
        have i1 : (0 : Int) ≤ (k : Int) := Int.natCast_nonneg _
        have i2 : (k : Int) ≤ (n : Int) := by omega
        have htk := h.take_ (k := k) (by omega)
        clear h
        go_wp2_with fail
        refine ContainsFunc_calls _ _ (fun o => o.to == m.to) _ (xs.take k) _ (htk.up (w' := wr.alloc _) (below_step (hbel.alloc (by omega) _) (by repeat (first | exact Below.refl _ _ | assumption | refine below_drewN ?_ _ | refine Below.drew ?_ | refine Below.setCell ?_ (by first | omega | (simp; done) | (simp; omega)) _ | refine Below.alloc ?_ (by first | omega | (simp; done) | (simp; omega)) _ | refine below_step (by assumption) ?_ (by first | omega | (simp; done) | (simp; omega)))) (by first | omega | (simp; done) | (simp; omega))) (by first | omega | (simp; done) | (simp; omega))) (had_asks _ m.to _ (by simp) (by simp)) _ ?_
        intro w1 hb1
        obtain ⟨hc1, hf1⟩ := bcell hb1
        have hz1 : wr.heap.size < w1.heap.size := by have := hb1.size; simp at this; omega
        have hz2 : w.heap.size < w1.heap.size := by omega
        have hbel1 : Below (w.heap.size + 1) (w.alloc (Obj.cells #[Value.int IntKind.i64 0, Value.int IntKind.i64 0] 27)) w1 := (hbel.alloc (by omega) _).trans (hb1.mono (by simp; omega))
        generalize hq : (xs.take k).any (fun o => o.to == m.to) = q at *
        clear htk hq
        by_cases ha : (0 ≤ m.to ∧ m.to ≤ 999) ∧ (0 ≤ m.src ∧ m.src ≤ 999)
        · have ha1 : decide (0 ≤ m.to ∧ m.to ≤ 999) = true := decide_eq_true ha.1
          have ha2 : decide (0 ≤ m.src ∧ m.src ≤ 999) = true := decide_eq_true ha.2
          have Hs' : Hid (movesFrom xs spare (xs.length - k) k = if q = true then (7, (k : Int)) else if m.to = spare ∨ m.src = spare then (11, (k : Int)) else movesFrom xs spare (xs.length - (k + 1)) (k + 1)) := by
            have := Hs.out
            rw [if_neg (by omega)] at this
            exact this
          clear Hs
          cases q with
          | true =>
            go_wp2_with (first | (go_at_call 29; refine Within_calls _ _ _ _ _ ?_) | (go_at_call 30; refine Fault_calls _ _ _ _ ?_; intro w2 hb2; obtain ⟨hc2, hf2⟩ := bcell hb2))
            refine bodyPost_ret (v := (.agg #[.int .i64 ((7, (k : Int))).1, .int .i64 ((7, (k : Int))).2])) (res_Fault (by rfl) (by rfl) (cells_set2 (a := w.alloc (Obj.cells #[Value.int IntKind.i64 0, Value.int IntKind.i64 0] 27)) (B := w.heap.size + 1) (by repeat (first | exact Below.refl _ _ | assumption | refine below_drewN ?_ _ | refine Below.drew ?_ | refine Below.setCell ?_ (by first | omega | (simp; done) | (simp; omega)) _ | refine Below.alloc ?_ (by first | omega | (simp; done) | (simp; omega)) _ | refine below_step (by assumption) ?_ (by first | omega | (simp; done) | (simp; omega)))) (Nat.lt_succ_self _) (by simp; rfl) (by simp; rfl) _ _)) rfl ?_
            rw [← Ht.out, Hs'.out] at hR
            exact hR _ (by repeat (first | exact Below.refl _ _ | assumption | refine below_drewN ?_ _ | refine Below.drew ?_ | refine Below.setCell ?_ (by first | omega | (simp; done) | (simp; omega)) _ | refine Below.alloc ?_ (by first | omega | (simp; done) | (simp; omega)) _ | refine below_step (by assumption) ?_ (by first | omega | (simp; done) | (simp; omega))))
          | false =>
            by_cases hs : m.to = spare ∨ m.src = spare
            · by_cases hs1 : m.to = spare
              · have hs2 : (m.to == spare) = true := by simp [hs1]
                have Hs1 := Lib.hid hs1
                clear hs1
                go_wp2_with (first | (go_at_call 29; refine Within_calls _ _ _ _ _ ?_) | (go_at_call 30; refine Fault_calls _ _ _ _ ?_; intro w2 hb2; obtain ⟨hc2, hf2⟩ := bcell hb2))
                refine bodyPost_ret (v := (.agg #[.int .i64 ((11, (k : Int))).1, .int .i64 ((11, (k : Int))).2])) (res_Fault (by rfl) (by rfl) (cells_set2 (a := w.alloc (Obj.cells #[Value.int IntKind.i64 0, Value.int IntKind.i64 0] 27)) (B := w.heap.size + 1) (by repeat (first | exact Below.refl _ _ | assumption | refine below_drewN ?_ _ | refine Below.drew ?_ | refine Below.setCell ?_ (by first | omega | (simp; done) | (simp; omega)) _ | refine Below.alloc ?_ (by first | omega | (simp; done) | (simp; omega)) _ | refine below_step (by assumption) ?_ (by first | omega | (simp; done) | (simp; omega)))) (Nat.lt_succ_self _) (by simp; rfl) (by simp; rfl) _ _)) rfl ?_
                rw [← Ht.out, Hs'.out, if_pos hs] at hR
                exact hR _ (by repeat (first | exact Below.refl _ _ | assumption | refine below_drewN ?_ _ | refine Below.drew ?_ | refine Below.setCell ?_ (by first | omega | (simp; done) | (simp; omega)) _ | refine Below.alloc ?_ (by first | omega | (simp; done) | (simp; omega)) _ | refine below_step (by assumption) ?_ (by first | omega | (simp; done) | (simp; omega))))
              · have hs2 : (m.to == spare) = false := by simp [hs1]
                have hs3 : (m.src == spare) = true := by simp; omega
                go_wp2_with (first | (go_at_call 29; refine Within_calls _ _ _ _ _ ?_) | (go_at_call 30; refine Fault_calls _ _ _ _ ?_; intro w2 hb2; obtain ⟨hc2, hf2⟩ := bcell hb2))
                refine bodyPost_ret (v := (.agg #[.int .i64 ((11, (k : Int))).1, .int .i64 ((11, (k : Int))).2])) (res_Fault (by rfl) (by rfl) (cells_set2 (a := w.alloc (Obj.cells #[Value.int IntKind.i64 0, Value.int IntKind.i64 0] 27)) (B := w.heap.size + 1) (by repeat (first | exact Below.refl _ _ | assumption | refine below_drewN ?_ _ | refine Below.drew ?_ | refine Below.setCell ?_ (by first | omega | (simp; done) | (simp; omega)) _ | refine Below.alloc ?_ (by first | omega | (simp; done) | (simp; omega)) _ | refine below_step (by assumption) ?_ (by first | omega | (simp; done) | (simp; omega)))) (Nat.lt_succ_self _) (by simp; rfl) (by simp; rfl) _ _)) rfl ?_
                rw [← Ht.out, Hs'.out, if_pos hs] at hR
                exact hR _ (by repeat (first | exact Below.refl _ _ | assumption | refine below_drewN ?_ _ | refine Below.drew ?_ | refine Below.setCell ?_ (by first | omega | (simp; done) | (simp; omega)) _ | refine Below.alloc ?_ (by first | omega | (simp; done) | (simp; omega)) _ | refine below_step (by assumption) ?_ (by first | omega | (simp; done) | (simp; omega))))
            · have hs2 : (m.to == spare) = false := by simp; omega
              have hs3 : (m.src == spare) = false := by simp; omega
              go_wp2_with (first | (go_at_call 29; refine Within_calls _ _ _ _ _ ?_) | (go_at_call 30; refine Fault_calls _ _ _ _ ?_; intro w2 hb2; obtain ⟨hc2, hf2⟩ := bcell hb2))
              go_roundw
              case rel =>
                refine ⟨k + 1, by omega, by go_num, ?_, hbel1⟩
                rw [← Ht.out, Hs'.out, if_neg (by simp), if_neg hs]
              case measure => simp [intOf]; omega
        · have Hs' : Hid (movesFrom xs spare (xs.length - k) k = (3, (k : Int))) := by
            have := Hs.out
            rw [if_pos (by omega)] at this
            exact this
          clear Hs
          by_cases ha1 : 0 ≤ m.to ∧ m.to ≤ 999
          · have ha3 : decide (0 ≤ m.to ∧ m.to ≤ 999) = true := decide_eq_true ha1
            have ha2 : decide (0 ≤ m.src ∧ m.src ≤ 999) = false := decide_eq_false (fun h => ha ⟨ha1, h⟩)
            clear ha
            go_wp2_with (first | (go_at_call 29; refine Within_calls _ _ _ _ _ ?_) | (go_at_call 30; refine Fault_calls _ _ _ _ ?_; intro w2 hb2; obtain ⟨hc2, hf2⟩ := bcell hb2))
            refine bodyPost_ret (v := (.agg #[.int .i64 ((3, (k : Int))).1, .int .i64 ((3, (k : Int))).2])) (res_Fault (by rfl) (by rfl) (cells_set2 (a := w.alloc (Obj.cells #[Value.int IntKind.i64 0, Value.int IntKind.i64 0] 27)) (B := w.heap.size + 1) (by repeat (first | exact Below.refl _ _ | assumption | refine below_drewN ?_ _ | refine Below.drew ?_ | refine Below.setCell ?_ (by first | omega | (simp; done) | (simp; omega)) _ | refine Below.alloc ?_ (by first | omega | (simp; done) | (simp; omega)) _ | refine below_step (by assumption) ?_ (by first | omega | (simp; done) | (simp; omega)))) (Nat.lt_succ_self _) (by simp; rfl) (by simp; rfl) _ _)) rfl ?_
            rw [← Ht.out, Hs'.out] at hR
            exact hR _ (by repeat (first | exact Below.refl _ _ | assumption | refine below_drewN ?_ _ | refine Below.drew ?_ | refine Below.setCell ?_ (by first | omega | (simp; done) | (simp; omega)) _ | refine Below.alloc ?_ (by first | omega | (simp; done) | (simp; omega)) _ | refine below_step (by assumption) ?_ (by first | omega | (simp; done) | (simp; omega))))
          · have ha3 : decide (0 ≤ m.to ∧ m.to ≤ 999) = false := decide_eq_false ha1
            clear ha
            go_wp2_with (first | (go_at_call 29; refine Within_calls _ _ _ _ _ ?_) | (go_at_call 30; refine Fault_calls _ _ _ _ ?_; intro w2 hb2; obtain ⟨hc2, hf2⟩ := bcell hb2))
            refine bodyPost_ret (v := (.agg #[.int .i64 ((3, (k : Int))).1, .int .i64 ((3, (k : Int))).2])) (res_Fault (by rfl) (by rfl) (cells_set2 (a := w.alloc (Obj.cells #[Value.int IntKind.i64 0, Value.int IntKind.i64 0] 27)) (B := w.heap.size + 1) (by repeat (first | exact Below.refl _ _ | assumption | refine below_drewN ?_ _ | refine Below.drew ?_ | refine Below.setCell ?_ (by first | omega | (simp; done) | (simp; omega)) _ | refine Below.alloc ?_ (by first | omega | (simp; done) | (simp; omega)) _ | refine below_step (by assumption) ?_ (by first | omega | (simp; done) | (simp; omega)))) (Nat.lt_succ_self _) (by simp; rfl) (by simp; rfl) _ _)) rfl ?_
            rw [← Ht.out, Hs'.out] at hR
            exact hR _ (by repeat (first | exact Below.refl _ _ | assumption | refine below_drewN ?_ _ | refine Below.drew ?_ | refine Below.setCell ?_ (by first | omega | (simp; done) | (simp; omega)) _ | refine Below.alloc ?_ (by first | omega | (simp; done) | (simp; omega)) _ | refine below_step (by assumption) ?_ (by first | omega | (simp; done) | (simp; omega))))
      · obtain rfl : k = xs.length := by omega
        rw [movesFrom_end] at Ht
        by_cases hsp : 0 ≤ spare ∧ spare ≤ 999
        · have hsp1 : decide (0 ≤ spare ∧ spare ≤ 999) = true := decide_eq_true hsp
          rw [if_pos hsp] at Ht
          go_wp2_with (first | (go_at_call 29; refine Within_calls _ _ _ _ _ ?_) | (go_at_call 30; refine Fault_calls _ _ _ _ ?_; intro w2 hb2; obtain ⟨hc2, hf2⟩ := bcell hb2))
          refine bodyPost_ret (v := (.agg #[.int .i64 ((0, 0)).1, .int .i64 ((0, 0)).2])) (res_Fault (by rfl) (by rfl) (cells_set2 (a := w.alloc (Obj.cells #[Value.int IntKind.i64 0, Value.int IntKind.i64 0] 27)) (B := w.heap.size + 1) (by repeat (first | exact Below.refl _ _ | assumption | refine below_drewN ?_ _ | refine Below.drew ?_ | refine Below.setCell ?_ (by first | omega | (simp; done) | (simp; omega)) _ | refine Below.alloc ?_ (by first | omega | (simp; done) | (simp; omega)) _ | refine below_step (by assumption) ?_ (by first | omega | (simp; done) | (simp; omega)))) (Nat.lt_succ_self _) (by simp; rfl) (by simp; rfl) _ _)) rfl ?_
          rw [← Ht.out] at hR
          exact hR _ (by repeat (first | exact Below.refl _ _ | assumption | refine below_drewN ?_ _ | refine Below.drew ?_ | refine Below.setCell ?_ (by first | omega | (simp; done) | (simp; omega)) _ | refine Below.alloc ?_ (by first | omega | (simp; done) | (simp; omega)) _ | refine below_step (by assumption) ?_ (by first | omega | (simp; done) | (simp; omega))))
        · have hsp1 : decide (0 ≤ spare ∧ spare ≤ 999) = false := decide_eq_false hsp
          rw [if_neg hsp] at Ht
          go_wp2_with (first | (go_at_call 29; refine Within_calls _ _ _ _ _ ?_) | (go_at_call 30; refine Fault_calls _ _ _ _ ?_; intro w2 hb2; obtain ⟨hc2, hf2⟩ := bcell hb2))
          refine bodyPost_ret (v := (.agg #[.int .i64 ((3, -1)).1, .int .i64 ((3, -1)).2])) (res_Fault (by rfl) (by rfl) (cells_set2 (a := w.alloc (Obj.cells #[Value.int IntKind.i64 0, Value.int IntKind.i64 0] 27)) (B := w.heap.size + 1) (by repeat (first | exact Below.refl _ _ | assumption | refine below_drewN ?_ _ | refine Below.drew ?_ | refine Below.setCell ?_ (by first | omega | (simp; done) | (simp; omega)) _ | refine Below.alloc ?_ (by first | omega | (simp; done) | (simp; omega)) _ | refine below_step (by assumption) ?_ (by first | omega | (simp; done) | (simp; omega)))) (Nat.lt_succ_self _) (by simp; rfl) (by simp; rfl) _ _)) rfl ?_
          rw [← Ht.out] at hR
          exact hR _ (by repeat (first | exact Below.refl _ _ | assumption | refine below_drewN ?_ _ | refine Below.drew ?_ | refine Below.setCell ?_ (by first | omega | (simp; done) | (simp; omega)) _ | refine Below.alloc ?_ (by first | omega | (simp; done) | (simp; omega)) _ | refine below_step (by assumption) ?_ (by first | omega | (simp; done) | (simp; omega))))
end Go.Proofs.Ytmlmnhhgdcfchaa
