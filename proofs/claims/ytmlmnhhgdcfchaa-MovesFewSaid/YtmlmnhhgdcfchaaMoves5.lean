/- Moves: the exported function, and what the reference says is wrong with moves. -/
import Derived.Test.YtmlmnhhgdcfchaaLib
import Derived.Test.YtmlmnhhgdcfchaaRows
import Derived.IntWalk
import Derived.Deep.LoopGhost
import Derived.Test.YtmlmnhhgdcfchaaMoves4
namespace Go.Proofs.Ytmlmnhhgdcfchaa
open Go.RowKit
set_option linter.unusedSimpArgs false
set_option linter.unusedVariables false

theorem movesFrom_ok {l : List Move} {spare : Int} : ∀ (m i : Nat), (movesFrom l spare m i).1 = 0 → i + m = l.length → movesFrom l spare m i = (0, 0) ∧ 0 ≤ spare ∧ spare ≤ 999 ∧ ∀ j, i ≤ j → j < l.length → (l.take j).any (fun o => o.to == (l.getD j Move.zero).to) = false ∧ (l.getD j Move.zero).to ≠ spare ∧ (l.getD j Move.zero).src ≠ spare
  | 0, i, h, hi => by
    rw [movesFrom] at h ⊢
    by_cases hs : 0 ≤ spare ∧ spare ≤ 999
    · exact ⟨if_pos hs, hs.1, hs.2, fun j h1 h2 => absurd h2 (by omega)⟩
    · rw [if_neg hs] at h
      simp at h
  | m + 1, i, h, hi => by
    rw [movesFrom] at h ⊢
    split at h
    · simp at h
    · rename_i h1
      split at h
      · simp at h
      · rename_i h2
        split at h
        · simp at h
        · rename_i h3
          rw [if_neg h1, if_neg h2, if_neg h3]
          obtain ⟨e, e1, e2, e3⟩ := movesFrom_ok m (i + 1) h (by omega)
          refine ⟨e, e1, e2, fun j hj hl => ?_⟩
          rcases Nat.lt_or_ge i j with hlt | hge
          · exact e3 j hlt hl
          · obtain rfl : j = i := by omega
            exact ⟨by simpa using h2, fun e => h3 (.inl e), fun e => h3 (.inr e)⟩

theorem movesFault_ok {l : List Move} {spare : Int} (h : (movesFault l spare).1 = 0) : movesFault l spare = (0, 0) ∧ l.length ≤ 100 ∧ Fine spare l := by
  unfold movesFault at h ⊢
  by_cases h100 : 100 < l.length
  · rw [if_pos h100] at h
    simp at h
  · rw [if_neg h100] at h ⊢
    obtain ⟨e, _, _, e3⟩ := movesFrom_ok l.length 0 h (by omega)
    refine ⟨e, by omega, ?_, ?_⟩
    · rw [List.nodup_iff_pairwise_ne, List.pairwise_map, List.pairwise_iff_getElem]
      intro i j hi hj hij he
      obtain ⟨h1, _, _⟩ := e3 j (Nat.zero_le _) hj
      rw [List.any_eq_false] at h1
      have hm : l[i] ∈ l.take j := List.mem_take_iff_getElem.2 ⟨i, by omega, rfl⟩
      have := h1 _ hm
      rw [List.getD_eq_getElem?_getD, List.getElem?_eq_getElem hj] at this
      simp at this
      exact this he
    · intro m hm
      obtain ⟨j, hj, rfl⟩ := List.mem_iff_getElem.1 hm
      have := (e3 j (Nat.zero_le _) hj).2.1
      rw [List.getD_eq_getElem?_getD, List.getElem?_eq_getElem hj] at this
      exact this

def movers (l : List Move) : List Move := l.filter fun m => !(m.to == m.src)
theorem fine_movers {spare : Int} {l : List Move} (h : Fine spare l) : Fine spare (movers l) :=
  ⟨((List.filter_sublist (l := l) (p := fun m : Move => !(m.to == m.src))).map Move.to).nodup h.1, fun m hm => h.2 m (List.mem_filter.1 hm).1⟩
theorem rowN_enough {spare : Int} : ∀ (n : Nat) (l : List Move), Fine spare l → mu l ≤ n + 1 → rowN spare (n + 1) l = rowN spare n l
  | 0, l, _, h => by
    have : l = [] := List.eq_nil_of_length_eq_zero (by unfold mu at h; omega)
    subst this
    rw [rowN_nil, rowN_nil]
  | n + 1, l, hf, h => by
    cases hfi : l.findIdx? (freeIn l) with
    | some i =>
      have := (mu_some hfi).1
      rw [rowN_some hfi, rowN_some hfi, rowN_enough n _ (fine_erase hf) (by omega)]
    | none =>
      by_cases hl : l = []
      · subst hl
        rw [rowN_nil, rowN_nil]
      · have := mu_none hf hfi hl
        rw [rowN_none hfi hl, rowN_none hfi hl, rowN_enough n _ (fine_respare hf) (by omega)]
theorem rowN_any {spare : Int} {l : List Move} (hf : Fine spare l) : ∀ n, mu l ≤ n → rowN spare n l = rowN spare (mu l) l := by
  intro n hn
  obtain ⟨d, rfl⟩ : ∃ d, n = mu l + d := ⟨n - mu l, by omega⟩
  induction d with
  | zero => rfl
  | succ d ih => rw [show mu l + (d + 1) = (mu l + d) + 1 from rfl, rowN_enough _ _ hf (by omega), ih (by omega)]
/-- The row of moves. -/
def row (spare : Int) (l : List Move) : List Move := rowN spare (mu (movers l)) (movers l)

theorem res_slice_Fault {fn : Func} {t p : Tmp} (h : fn.results = #[.tmp t, .cell p 27]) {tmps : Array Value} {b : Nat} {w : World} {v x y : Value} (ht : tmps.getD t undef = v) (hp : tmps.getD p undef = .pointer (some ⟨b, 0, none⟩))
    (hc : w.cell? ⟨b, 0, none⟩ = some x ∧ w.cell? ⟨b, 1, none⟩ = some y) : (results fn tmps).run Try.prog w = .ok (.tuple #[v, .agg #[x, y]]) w := by
  rw [Array.getD_eq_getD_getElem?] at hp ht
  simp [results, h, hp, ht, go_sem, hc.1, hc.2]

set_option maxHeartbeats 400000 in
theorem Row_bad (v : Value) (xs : List Move) (spare : Int) (w : World) (h : rpMove.SL w w.heap.size xs v) (f : Int × Int) (hf : movesFault xs spare = f) (h1 : f.1 ≠ 0) (R : Ending → World → Prop)
    (hR : ∀ w', Below w.heap.size w w' → R (.returned (.tuple #[.slice none 0 0, (.agg #[.int .i64 (f).1, .int .i64 (f).2])])) w') :
    Calls Try.prog 15 #[v, .int .i64 spare] w R := by
  have hc := movesFault_calls v xs spare
  rw [hf] at hc
  have Hc := Lib.hid hc
  have hb : (f.1 != 0) = true := by simp [h1]
  clear hc hf
  go_enter Try.func15, Try.ntmps15
  go_wp2_with fail
  refine Hc.out _ (h.up (by repeat (first | exact Below.refl _ _ | assumption | refine below_drewN ?_ _ | refine Below.drew ?_ | refine Below.setCell ?_ (by first | omega | (simp; done) | (simp; omega)) _ | refine Below.alloc ?_ (by first | omega | (simp; done) | (simp; omega)) _ | refine below_step (by assumption) ?_ (by first | omega | (simp; done) | (simp; omega)))) (by first | omega | (simp; done) | (simp; omega))) _ ?_
  intro w1 hb1
  obtain ⟨hc1, hf1⟩ := bcell hb1
  have hz0 : w.heap.size < w1.heap.size := by have := hb1.size; simp at this; omega
  go_wp2_with fail
  go_region
  all_goals go_wp2
  all_goals refine bodyPost_ret (v := .tuple #[.slice none 0 0, (.agg #[.int .i64 (f).1, .int .i64 (f).2])]) (by simp [results, Try.results15, go_sem, hc1, hz0]) rfl ?_
  all_goals exact hR _ (by repeat (first | exact Below.refl _ _ | assumption | refine below_drewN ?_ _ | refine Below.drew ?_ | refine Below.setCell ?_ (by first | omega | (simp; done) | (simp; omega)) _ | refine Below.alloc ?_ (by first | omega | (simp; done) | (simp; omega)) _ | refine below_step (by assumption) ?_ (by first | omega | (simp; done) | (simp; omega))))

set_option maxHeartbeats 400000 in
theorem Row_good (v : Value) (xs : List Move) (spare : Int) (w : World) (h : rpMove.SL w w.heap.size xs v) (hf : movesFault xs spare = (0, 0)) (hn : xs.length ≤ 100) (hfine : Fine spare xs) (R : Ending → World → Prop)
    (hR : ∀ w' v', Below w.heap.size w w' → w'.ownsRow w.heap.size 47 2 v' (row spare xs).length ((row spare xs).flatMap Move.cells) → R (.returned (.tuple #[v', (.agg #[.int .i64 ((0, 0)).1, .int .i64 ((0, 0)).2])])) w') :
    Calls Try.prog 15 #[v, .int .i64 spare] w R := by
  have hc := movesFault_calls v xs spare
  rw [hf] at hc
  have Hc := Lib.hid hc
  have hfm : Hid (Fine spare (xs.filter (fun m => !(m.to == m.src)))) := fine_movers hfine
  clear hc hf
  go_enter Try.func15, Try.ntmps15
  go_wp2_with fail
  refine Hc.out _ (h.up (by repeat (first | exact Below.refl _ _ | assumption | refine below_drewN ?_ _ | refine Below.drew ?_ | refine Below.setCell ?_ (by first | omega | (simp; done) | (simp; omega)) _ | refine Below.alloc ?_ (by first | omega | (simp; done) | (simp; omega)) _ | refine below_step (by assumption) ?_ (by first | omega | (simp; done) | (simp; omega)))) (by first | omega | (simp; done) | (simp; omega))) _ ?_
  intro w1 hb1
  obtain ⟨hc1, hf1⟩ := bcell hb1
  have hz0 : w.heap.size < w1.heap.size := by have := hb1.size; simp at this; omega
  go_wp2_with fail
  refine Of_calls _ xs _ _ (h.up (by repeat (first | exact Below.refl _ _ | assumption | refine below_drewN ?_ _ | refine Below.drew ?_ | refine Below.setCell ?_ (by first | omega | (simp; done) | (simp; omega)) _ | refine Below.alloc ?_ (by first | omega | (simp; done) | (simp; omega)) _ | refine below_step (by assumption) ?_ (by first | omega | (simp; done) | (simp; omega)))) (by first | omega | (simp; done) | (simp; omega))) (by omega) hfm.out _ ?_
  intro w2 v2 n hn2 hb2 ho2
  have ho3 : w2.ownsRow (w1.heap.size + 1) 47 2 v2 (row spare xs).length ((row spare xs).flatMap Move.cells) := by
    rw [rowN_any hfm.out n hn2, show (w1.alloc (.cells #[.int .i64 0, .int .i64 0] 27)).heap.size = w1.heap.size + 1 from by simp] at ho2
    exact ho2
  clear ho2 hn2
  obtain ⟨hc2, hf2⟩ := bcell hb2
  have hy : w1.heap.size < w2.heap.size := by have := hb2.size; simp at this; omega
  have hy0 : w.heap.size < w2.heap.size := by omega
  go_wp2
  refine bodyPost_ret (v := .tuple #[v2, (.agg #[.int .i64 ((0, 0)).1, .int .i64 ((0, 0)).2])]) (res_slice_Fault (by rfl) (by rfl) (by rfl) (cells_set2 (a := w.alloc (Obj.cells #[Value.int IntKind.i64 0, Value.int IntKind.i64 0] 27)) (B := w.heap.size + 1) (by repeat (first | exact Below.refl _ _ | assumption | refine below_drewN ?_ _ | refine Below.drew ?_ | refine Below.setCell ?_ (by first | omega | (simp; done) | (simp; omega)) _ | refine Below.alloc ?_ (by first | omega | (simp; done) | (simp; omega)) _ | refine below_step (by assumption) ?_ (by first | omega | (simp; done) | (simp; omega)))) (Nat.lt_succ_self _) (by simp; rfl) (by simp; rfl) _ _)) rfl ?_
  exact hR _ _ (by repeat (first | exact Below.refl _ _ | assumption | refine below_drewN ?_ _ | refine Below.drew ?_ | refine Below.setCell ?_ (by first | omega | (simp; done) | (simp; omega)) _ | refine Below.alloc ?_ (by first | omega | (simp; done) | (simp; omega)) _ | refine below_step (by assumption) ?_ (by first | omega | (simp; done) | (simp; omega)))) (ownsRow_base (ownsRow_setCell_below (ownsRow_setCell_below ho3 (by first | omega | (simp; done) | (simp; omega)) _) (by first | omega | (simp; done) | (simp; omega)) _) (by first | omega | (simp; done) | (simp; omega)))

set_option maxRecDepth 100000 in
set_option maxHeartbeats 1000000 in
theorem RefMovesFault_calls (v : Value) (xs : List Move) (spare : Int) (w : World) (h : rpMove.SL w w.heap.size xs v) (R : Ending → World → Prop)
    (hR : ∀ w', Below w.heap.size w w' → R (.returned (.agg #[.int .i64 (movesFault xs spare).1, .int .i64 (movesFault xs spare).2])) w') :
    Calls Try.prog 16 #[v, .int .i64 spare] w R := by
  obtain ⟨A, n, rfl, hm, hcap, h⟩ := h.cases_
  by_cases h100 : 100 < xs.length
  · rw [show movesFault xs spare = (2, 0) from by rw [movesFault, if_pos h100]] at hR
    have h100' : (100 : Int) < (xs.length : Int) := by omega
    go_enter Try.func16, Try.ntmps16
    go_wp2
    refine bodyPost_ret (v := (.agg #[.int .i64 ((2, 0)).1, .int .i64 ((2, 0)).2])) (by simp [results, Try.results16, go_sem]) rfl ?_
    exact hR _ (by repeat (first | exact Below.refl _ _ | assumption | refine below_drewN ?_ _ | refine Below.drew ?_ | refine Below.setCell ?_ (by first | omega | (simp; done) | (simp; omega)) _ | refine Below.alloc ?_ (by first | omega | (simp; done) | (simp; omega)) _ | refine below_step (by assumption) ?_ (by first | omega | (simp; done) | (simp; omega))))
  · rw [show movesFault xs spare = movesFrom xs spare xs.length 0 from by rw [movesFault, if_neg h100]] at hR
    have h100' : ¬ (100 : Int) < (xs.length : Int) := by omega
    have HR := Lib.hid hR
    clear hR
    go_enter Try.func16, Try.ntmps16
    go_wp2
    go_loopg [5] xs.length (fun g i wr => ∃ k : Nat, k ≤ xs.length ∧ g = xs.length - k ∧ i = .int .i64 k ∧ movesFrom xs spare (xs.length - k) k = movesFrom xs spare xs.length 0 ∧ ∃ d, wr = (w.alloc (Obj.cells #[Value.int IntKind.i64 0, Value.int IntKind.i64 0] 27)).drewN d)
    case atStart => exact ⟨0, Nat.zero_le _, rfl, rfl, rfl, 0, rfl⟩
    case round =>
      obtain ⟨k, hk, rfl, rfl, ht, d, rfl⟩ := hrel
      have Ht := Lib.hid ht
      clear ht
      by_cases hlt : k < xs.length
      · obtain ⟨b, off, m, rfl, hb, e, p0, p1⟩ := h.move_at hlt
        have Hs := Lib.hid (movesFrom_step (spare := spare) e)
        have E := Lib.hid e
        clear e
        have i1 : (0 : Int) ≤ (k : Int) := Int.natCast_nonneg _
        have i2 : (k : Int) < (xs.length : Int) := by omega
        by_cases ha : (0 ≤ m.to ∧ m.to ≤ 999) ∧ (0 ≤ m.src ∧ m.src ≤ 999)
        · obtain ⟨⟨a1, a2⟩, a3, a4⟩ := ha
          have Hs' : Hid (movesFrom xs spare (xs.length - k) k = if (xs.take k).any (fun o => o.to == m.to) = true then (7, (k : Int)) else if m.to = spare ∨ m.src = spare then (11, (k : Int)) else movesFrom xs spare (xs.length - (k + 1)) (k + 1)) := by
            have := Hs.out
            rw [if_neg (by omega)] at this
            exact this
          clear Hs
          go_wp2
          go_loopg [6] k (fun g jv wr => ∃ i : Nat, i ≤ k ∧ g = k - i ∧ jv = .int .i64 i ∧ (∀ j o, j < i → xs[j]? = some o → (o.to == m.to) = false) ∧ ∃ d, wr = (w.alloc (Obj.cells #[Value.int IntKind.i64 0, Value.int IntKind.i64 0] 27)).drewN d)
          case atStart => exact ⟨0, Nat.zero_le _, rfl, rfl, fun j o hj => absurd hj (by omega), d, rfl⟩
          case round =>
            obtain ⟨i, hi, rfl, rfl, hno, d2, rfl⟩ := hrel
            have Hno := Lib.hid hno
            clear hno
            by_cases hik : i < k
            · obtain ⟨b', off', o, hA, hb', e2, q0, q1⟩ := h.move_at (k := i) (by omega)
              injection hA with hA
              injection hA with hA1 hA2
              subst hA1 hA2
              have E2 := Lib.hid e2
              have i3 : (0 : Int) ≤ (i : Int) := Int.natCast_nonneg _
              have i4 : (i : Int) < (xs.length : Int) := by omega
              clear e2
              by_cases ho : (o.to == m.to) = true
              · go_wp2_with fail
                go_quiet (fail)
                go_wp2
                refine bodyPost_ret (v := (.agg #[.int .i64 ((7, (k : Int))).1, .int .i64 ((7, (k : Int))).2])) (res_Fault (by rfl) (by rfl) (cells_set2 (a := w.alloc (Obj.cells #[Value.int IntKind.i64 0, Value.int IntKind.i64 0] 27)) (B := w.heap.size + 1) (by repeat (first | exact Below.refl _ _ | assumption | refine below_drewN ?_ _ | refine Below.drew ?_ | refine Below.setCell ?_ (by first | omega | (simp; done) | (simp; omega)) _ | refine Below.alloc ?_ (by first | omega | (simp; done) | (simp; omega)) _ | refine below_step (by assumption) ?_ (by first | omega | (simp; done) | (simp; omega)))) (Nat.lt_succ_self _) (by simp; rfl) (by simp; rfl) _ _)) rfl ?_
                have hR := HR.out
                rw [← Ht.out, Hs'.out, if_pos (List.any_eq_true.2 ⟨o, List.mem_take_iff_getElem.2 ⟨i, by have := hlt; omega, by have := E2.out; rw [List.getElem?_eq_getElem (by omega)] at this; injection this⟩, ho⟩)] at hR
                exact hR _ (by repeat (first | exact Below.refl _ _ | assumption | refine below_drewN ?_ _ | refine Below.drew ?_ | refine Below.setCell ?_ (by first | omega | (simp; done) | (simp; omega)) _ | refine Below.alloc ?_ (by first | omega | (simp; done) | (simp; omega)) _ | refine below_step (by assumption) ?_ (by first | omega | (simp; done) | (simp; omega))))
              · have ho' : (o.to == m.to) = false := by simpa using ho
                clear ho
                go_wp2_with fail
                go_quiet (fail)
                go_wp2
                go_roundg (k - (i + 1))
                case measure => omega
                case rel => exact ⟨i + 1, by omega, rfl, by go_num, step_all Hno.out E2.out ho', _, rfl⟩
            · obtain rfl : i = k := by omega
              have hany : (xs.take i).any (fun o => o.to == m.to) = false := by
                rw [List.any_eq_false]
                intro o ho
                obtain ⟨j, hj, rfl⟩ := List.mem_take_iff_getElem.1 ho
                rw [Hno.out j _ (by omega) (List.getElem?_eq_getElem (by omega))]
                simp
              have Hs2 : Hid (movesFrom xs spare (xs.length - i) i = if m.to = spare ∨ m.src = spare then (11, (i : Int)) else movesFrom xs spare (xs.length - (i + 1)) (i + 1)) := by
                have := Hs'.out
                rw [hany, if_neg (by simp)] at this
                exact this
              clear Hs' hany Hno
              by_cases hs : m.to = spare ∨ m.src = spare
              · by_cases hs1 : m.to = spare
                · have hs2 : (m.to == spare) = true := by simp [hs1]
                  have Hs1 := Lib.hid hs1
                  clear hs1
                  go_wp2
                  refine bodyPost_ret (v := (.agg #[.int .i64 ((11, (i : Int))).1, .int .i64 ((11, (i : Int))).2])) (res_Fault (by rfl) (by rfl) (cells_set2 (a := w.alloc (Obj.cells #[Value.int IntKind.i64 0, Value.int IntKind.i64 0] 27)) (B := w.heap.size + 1) (by repeat (first | exact Below.refl _ _ | assumption | refine below_drewN ?_ _ | refine Below.drew ?_ | refine Below.setCell ?_ (by first | omega | (simp; done) | (simp; omega)) _ | refine Below.alloc ?_ (by first | omega | (simp; done) | (simp; omega)) _ | refine below_step (by assumption) ?_ (by first | omega | (simp; done) | (simp; omega)))) (Nat.lt_succ_self _) (by simp; rfl) (by simp; rfl) _ _)) rfl ?_
                  have hR := HR.out
                  rw [← Ht.out, Hs2.out, if_pos hs] at hR
                  exact hR _ (by repeat (first | exact Below.refl _ _ | assumption | refine below_drewN ?_ _ | refine Below.drew ?_ | refine Below.setCell ?_ (by first | omega | (simp; done) | (simp; omega)) _ | refine Below.alloc ?_ (by first | omega | (simp; done) | (simp; omega)) _ | refine below_step (by assumption) ?_ (by first | omega | (simp; done) | (simp; omega))))
                · have hs2 : (m.to == spare) = false := by simp [hs1]
                  have hs3 : (m.src == spare) = true := by simp; omega
                  go_wp2
                  refine bodyPost_ret (v := (.agg #[.int .i64 ((11, (i : Int))).1, .int .i64 ((11, (i : Int))).2])) (res_Fault (by rfl) (by rfl) (cells_set2 (a := w.alloc (Obj.cells #[Value.int IntKind.i64 0, Value.int IntKind.i64 0] 27)) (B := w.heap.size + 1) (by repeat (first | exact Below.refl _ _ | assumption | refine below_drewN ?_ _ | refine Below.drew ?_ | refine Below.setCell ?_ (by first | omega | (simp; done) | (simp; omega)) _ | refine Below.alloc ?_ (by first | omega | (simp; done) | (simp; omega)) _ | refine below_step (by assumption) ?_ (by first | omega | (simp; done) | (simp; omega)))) (Nat.lt_succ_self _) (by simp; rfl) (by simp; rfl) _ _)) rfl ?_
                  have hR := HR.out
                  rw [← Ht.out, Hs2.out, if_pos hs] at hR
                  exact hR _ (by repeat (first | exact Below.refl _ _ | assumption | refine below_drewN ?_ _ | refine Below.drew ?_ | refine Below.setCell ?_ (by first | omega | (simp; done) | (simp; omega)) _ | refine Below.alloc ?_ (by first | omega | (simp; done) | (simp; omega)) _ | refine below_step (by assumption) ?_ (by first | omega | (simp; done) | (simp; omega))))
              · have hs2 : (m.to == spare) = false := by simp; omega
                have hs3 : (m.src == spare) = false := by simp; omega
                go_wp2
                go_roundg (xs.length - (i + 1))
                case measure => omega
                case rel =>
                  refine ⟨i + 1, by omega, rfl, by go_num, ?_, _, rfl⟩
                  rw [← Ht.out, Hs2.out, if_neg hs]
        · have Hs' : Hid (movesFrom xs spare (xs.length - k) k = (3, (k : Int))) := by
            have := Hs.out
            rw [if_pos (by omega)] at this
            exact this
          clear Hs
          by_cases a1 : m.to < 0
          · go_wp2
            refine bodyPost_ret (v := (.agg #[.int .i64 ((3, (k : Int))).1, .int .i64 ((3, (k : Int))).2])) (res_Fault (by rfl) (by rfl) (cells_set2 (a := w.alloc (Obj.cells #[Value.int IntKind.i64 0, Value.int IntKind.i64 0] 27)) (B := w.heap.size + 1) (by repeat (first | exact Below.refl _ _ | assumption | refine below_drewN ?_ _ | refine Below.drew ?_ | refine Below.setCell ?_ (by first | omega | (simp; done) | (simp; omega)) _ | refine Below.alloc ?_ (by first | omega | (simp; done) | (simp; omega)) _ | refine below_step (by assumption) ?_ (by first | omega | (simp; done) | (simp; omega)))) (Nat.lt_succ_self _) (by simp; rfl) (by simp; rfl) _ _)) rfl ?_
            have hR := HR.out
            rw [← Ht.out, Hs'.out] at hR
            exact hR _ (by repeat (first | exact Below.refl _ _ | assumption | refine below_drewN ?_ _ | refine Below.drew ?_ | refine Below.setCell ?_ (by first | omega | (simp; done) | (simp; omega)) _ | refine Below.alloc ?_ (by first | omega | (simp; done) | (simp; omega)) _ | refine below_step (by assumption) ?_ (by first | omega | (simp; done) | (simp; omega))))
          · have a1' : 0 ≤ m.to := by omega
            by_cases a2 : 999 < m.to
            · go_wp2
              refine bodyPost_ret (v := (.agg #[.int .i64 ((3, (k : Int))).1, .int .i64 ((3, (k : Int))).2])) (res_Fault (by rfl) (by rfl) (cells_set2 (a := w.alloc (Obj.cells #[Value.int IntKind.i64 0, Value.int IntKind.i64 0] 27)) (B := w.heap.size + 1) (by repeat (first | exact Below.refl _ _ | assumption | refine below_drewN ?_ _ | refine Below.drew ?_ | refine Below.setCell ?_ (by first | omega | (simp; done) | (simp; omega)) _ | refine Below.alloc ?_ (by first | omega | (simp; done) | (simp; omega)) _ | refine below_step (by assumption) ?_ (by first | omega | (simp; done) | (simp; omega)))) (Nat.lt_succ_self _) (by simp; rfl) (by simp; rfl) _ _)) rfl ?_
              have hR := HR.out
              rw [← Ht.out, Hs'.out] at hR
              exact hR _ (by repeat (first | exact Below.refl _ _ | assumption | refine below_drewN ?_ _ | refine Below.drew ?_ | refine Below.setCell ?_ (by first | omega | (simp; done) | (simp; omega)) _ | refine Below.alloc ?_ (by first | omega | (simp; done) | (simp; omega)) _ | refine below_step (by assumption) ?_ (by first | omega | (simp; done) | (simp; omega))))
            · have a2' : m.to ≤ 999 := by omega
              by_cases a3 : m.src < 0
              · go_wp2
                refine bodyPost_ret (v := (.agg #[.int .i64 ((3, (k : Int))).1, .int .i64 ((3, (k : Int))).2])) (res_Fault (by rfl) (by rfl) (cells_set2 (a := w.alloc (Obj.cells #[Value.int IntKind.i64 0, Value.int IntKind.i64 0] 27)) (B := w.heap.size + 1) (by repeat (first | exact Below.refl _ _ | assumption | refine below_drewN ?_ _ | refine Below.drew ?_ | refine Below.setCell ?_ (by first | omega | (simp; done) | (simp; omega)) _ | refine Below.alloc ?_ (by first | omega | (simp; done) | (simp; omega)) _ | refine below_step (by assumption) ?_ (by first | omega | (simp; done) | (simp; omega)))) (Nat.lt_succ_self _) (by simp; rfl) (by simp; rfl) _ _)) rfl ?_
                have hR := HR.out
                rw [← Ht.out, Hs'.out] at hR
                exact hR _ (by repeat (first | exact Below.refl _ _ | assumption | refine below_drewN ?_ _ | refine Below.drew ?_ | refine Below.setCell ?_ (by first | omega | (simp; done) | (simp; omega)) _ | refine Below.alloc ?_ (by first | omega | (simp; done) | (simp; omega)) _ | refine below_step (by assumption) ?_ (by first | omega | (simp; done) | (simp; omega))))
              · have a3' : 0 ≤ m.src := by omega
                have a4 : 999 < m.src := by omega
                go_wp2
                refine bodyPost_ret (v := (.agg #[.int .i64 ((3, (k : Int))).1, .int .i64 ((3, (k : Int))).2])) (res_Fault (by rfl) (by rfl) (cells_set2 (a := w.alloc (Obj.cells #[Value.int IntKind.i64 0, Value.int IntKind.i64 0] 27)) (B := w.heap.size + 1) (by repeat (first | exact Below.refl _ _ | assumption | refine below_drewN ?_ _ | refine Below.drew ?_ | refine Below.setCell ?_ (by first | omega | (simp; done) | (simp; omega)) _ | refine Below.alloc ?_ (by first | omega | (simp; done) | (simp; omega)) _ | refine below_step (by assumption) ?_ (by first | omega | (simp; done) | (simp; omega)))) (Nat.lt_succ_self _) (by simp; rfl) (by simp; rfl) _ _)) rfl ?_
                have hR := HR.out
                rw [← Ht.out, Hs'.out] at hR
                exact hR _ (by repeat (first | exact Below.refl _ _ | assumption | refine below_drewN ?_ _ | refine Below.drew ?_ | refine Below.setCell ?_ (by first | omega | (simp; done) | (simp; omega)) _ | refine Below.alloc ?_ (by first | omega | (simp; done) | (simp; omega)) _ | refine below_step (by assumption) ?_ (by first | omega | (simp; done) | (simp; omega))))
      · obtain rfl : k = xs.length := by omega
        rw [movesFrom_end] at Ht
        by_cases s1 : spare < 0
        · rw [if_neg (by omega)] at Ht
          go_wp2
          refine bodyPost_ret (v := (.agg #[.int .i64 ((3, -1)).1, .int .i64 ((3, -1)).2])) (res_Fault (by rfl) (by rfl) (cells_set2 (a := w.alloc (Obj.cells #[Value.int IntKind.i64 0, Value.int IntKind.i64 0] 27)) (B := w.heap.size + 1) (by repeat (first | exact Below.refl _ _ | assumption | refine below_drewN ?_ _ | refine Below.drew ?_ | refine Below.setCell ?_ (by first | omega | (simp; done) | (simp; omega)) _ | refine Below.alloc ?_ (by first | omega | (simp; done) | (simp; omega)) _ | refine below_step (by assumption) ?_ (by first | omega | (simp; done) | (simp; omega)))) (Nat.lt_succ_self _) (by simp; rfl) (by simp; rfl) _ _)) rfl ?_
          have hR := HR.out
          rw [← Ht.out] at hR
          exact hR _ (by repeat (first | exact Below.refl _ _ | assumption | refine below_drewN ?_ _ | refine Below.drew ?_ | refine Below.setCell ?_ (by first | omega | (simp; done) | (simp; omega)) _ | refine Below.alloc ?_ (by first | omega | (simp; done) | (simp; omega)) _ | refine below_step (by assumption) ?_ (by first | omega | (simp; done) | (simp; omega))))
        · have s1' : 0 ≤ spare := by omega
          by_cases s2 : 999 < spare
          · rw [if_neg (by omega)] at Ht
            go_wp2
            refine bodyPost_ret (v := (.agg #[.int .i64 ((3, -1)).1, .int .i64 ((3, -1)).2])) (res_Fault (by rfl) (by rfl) (cells_set2 (a := w.alloc (Obj.cells #[Value.int IntKind.i64 0, Value.int IntKind.i64 0] 27)) (B := w.heap.size + 1) (by repeat (first | exact Below.refl _ _ | assumption | refine below_drewN ?_ _ | refine Below.drew ?_ | refine Below.setCell ?_ (by first | omega | (simp; done) | (simp; omega)) _ | refine Below.alloc ?_ (by first | omega | (simp; done) | (simp; omega)) _ | refine below_step (by assumption) ?_ (by first | omega | (simp; done) | (simp; omega)))) (Nat.lt_succ_self _) (by simp; rfl) (by simp; rfl) _ _)) rfl ?_
            have hR := HR.out
            rw [← Ht.out] at hR
            exact hR _ (by repeat (first | exact Below.refl _ _ | assumption | refine below_drewN ?_ _ | refine Below.drew ?_ | refine Below.setCell ?_ (by first | omega | (simp; done) | (simp; omega)) _ | refine Below.alloc ?_ (by first | omega | (simp; done) | (simp; omega)) _ | refine below_step (by assumption) ?_ (by first | omega | (simp; done) | (simp; omega))))
          · have s2' : spare ≤ 999 := by omega
            rw [if_pos (by omega)] at Ht
            go_wp2
            refine bodyPost_ret (v := (.agg #[.int .i64 ((0, 0)).1, .int .i64 ((0, 0)).2])) (res_Fault (by rfl) (by rfl) (cells_set2 (a := w.alloc (Obj.cells #[Value.int IntKind.i64 0, Value.int IntKind.i64 0] 27)) (B := w.heap.size + 1) (by repeat (first | exact Below.refl _ _ | assumption | refine below_drewN ?_ _ | refine Below.drew ?_ | refine Below.setCell ?_ (by first | omega | (simp; done) | (simp; omega)) _ | refine Below.alloc ?_ (by first | omega | (simp; done) | (simp; omega)) _ | refine below_step (by assumption) ?_ (by first | omega | (simp; done) | (simp; omega)))) (Nat.lt_succ_self _) (by simp; rfl) (by simp; rfl) _ _)) rfl ?_
            have hR := HR.out
            rw [← Ht.out] at hR
            exact hR _ (by repeat (first | exact Below.refl _ _ | assumption | refine below_drewN ?_ _ | refine Below.drew ?_ | refine Below.setCell ?_ (by first | omega | (simp; done) | (simp; omega)) _ | refine Below.alloc ?_ (by first | omega | (simp; done) | (simp; omega)) _ | refine below_step (by assumption) ?_ (by first | omega | (simp; done) | (simp; omega))))
end Go.Proofs.Ytmlmnhhgdcfchaa
