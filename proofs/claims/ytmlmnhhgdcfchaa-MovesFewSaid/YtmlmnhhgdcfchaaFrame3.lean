/- The comparison of two lists of instructions; the exported functions of package frame. -/
import Derived.Test.YtmlmnhhgdcfchaaLib
import Derived.Test.YtmlmnhhgdcfchaaRows
import Derived.IntWalk
import Derived.Test.YtmlmnhhgdcfchaaFrame2
namespace Go.Proofs.Ytmlmnhhgdcfchaa
open Go.RowKit
set_option linter.unusedSimpArgs false
set_option linter.unusedVariables false

theorem neq_Mac (m n : Mac) (w : World) : (binOp .neq 51 (.agg #[.int .i64 m.op, .int .i64 m.dst, .int .i64 m.a, .int .i64 m.b, .int .i64 m.n]) (.agg #[.int .i64 n.op, .int .i64 n.dst, .int .i64 n.a, .int .i64 n.b, .int .i64 n.n])).run Try.prog w = .ok (.bool (!decide (m = n))) w := by
  have hp : Try.prog.stoodInHeld 51 = false := by kernel_rfl
  have ht : Try.prog.underlying 51 = some (.struct (Try.prog.fieldsOf 51)) := by kernel_rfl
  rw [run_neq_struct, run_equalIn_agg _ _ _ _ _ ht hp]
  have h3 := Try.underlying3
  simp [Try.underlying51, go_sem, h3]
  have e : m = n ↔ m.op = n.op ∧ m.dst = n.dst ∧ m.a = n.a ∧ m.b = n.b ∧ m.n = n.n := by
    cases m
    cases n
    simp
  by_cases h1 : m.op = n.op <;> by_cases h2 : m.dst = n.dst <;> by_cases h4 : m.a = n.a <;> by_cases h5 : m.b = n.b <;> by_cases h6 : m.n = n.n <;> simp [e, h1, h2, h4, h5, h6]

theorem eql_Fault (a b c d : Int) (w : World) : (binOp .eql 27 (.agg #[.int .i64 a, .int .i64 b]) (.agg #[.int .i64 c, .int .i64 d])).run Try.prog w = .ok (.bool (decide (a = c ∧ b = d))) w := by
  have hp : Try.prog.stoodInHeld 27 = false := by kernel_rfl
  have ht : Try.prog.underlying 27 = some (.struct (Try.prog.fieldsOf 27)) := by kernel_rfl
  rw [run_eql_struct, run_equalIn_agg _ _ _ _ _ ht hp]
  have h3 := Try.underlying3
  simp [Try.underlying27, go_sem, h3]
  by_cases h1 : a = c <;> by_cases h2 : b = d <;> simp [h1, h2]

theorem neq_Fault (a b c d : Int) (w : World) : (binOp .neq 27 (.agg #[.int .i64 a, .int .i64 b]) (.agg #[.int .i64 c, .int .i64 d])).run Try.prog w = .ok (.bool (!decide (a = c ∧ b = d))) w := by
  have hp : Try.prog.stoodInHeld 27 = false := by kernel_rfl
  have ht : Try.prog.underlying 27 = some (.struct (Try.prog.fieldsOf 27)) := by kernel_rfl
  rw [run_neq_struct, run_equalIn_agg _ _ _ _ _ ht hp]
  have h3 := Try.underlying3
  simp [Try.underlying27, go_sem, h3]
  by_cases h1 : a = c <;> by_cases h2 : b = d <;> simp [h1, h2]

theorem res_Fault {fn : Func} {p : Tmp} (h : fn.results = #[.cell p 27]) {tmps : Array Value} {b : Nat} {w : World} {x y : Value} (hp : tmps.getD p undef = .pointer (some ⟨b, 0, none⟩))
    (hc : w.cell? ⟨b, 0, none⟩ = some x ∧ w.cell? ⟨b, 1, none⟩ = some y) : (results fn tmps).run Try.prog w = .ok (.agg #[x, y]) w := by
  rw [Array.getD_eq_getD_getElem?] at hp
  simp [results, h, hp, go_sem, hc.1, hc.2]

theorem Rp.SL.mac_at {w : World} {B : Nat} {xs : List Mac} {A : Option Addr} {n c k : Nat} (h : rpMac.SL w B xs (.slice A n c)) (hk : k < xs.length) : ∃ b off m, A = some ⟨b, off, none⟩ ∧ b < B ∧ xs[k]? = some m ∧
    w.cell? ⟨b, off + k * 5, none⟩ = some (.int .i64 m.op) ∧ w.cell? ⟨b, off + k * 5 + 1, none⟩ = some (.int .i64 m.dst) ∧ w.cell? ⟨b, off + k * 5 + 2, none⟩ = some (.int .i64 m.a) ∧ w.cell? ⟨b, off + k * 5 + 3, none⟩ = some (.int .i64 m.b) ∧ w.cell? ⟨b, off + k * 5 + 4, none⟩ = some (.int .i64 m.n) := by
  obtain ⟨b, off, cs, hA, hb, hr, hcs⟩ := h.at_ (List.getElem?_eq_getElem hk)
  rw [rpMac_rep] at hr
  subst hr
  exact ⟨b, off, xs[k], hA, hb, List.getElem?_eq_getElem hk, hcs 0 _ rfl, hcs 1 _ rfl, hcs 2 _ rfl, hcs 3 _ rfl, hcs 4 _ rfl⟩

theorem take_same {α : Type} {xs ys : List α} {k : Nat} {x y : α} (h : xs.take k = ys.take k) (hx : xs[k]? = some x) (hy : ys[k]? = some y) (e : x = y) : xs.take (k + 1) = ys.take (k + 1) := by
  rw [List.take_add_one, List.take_add_one, h, hx, hy, e]

set_option maxHeartbeats 400000 in
theorem SameMacs_calls (v1 v2 : Value) (xs ys : List Mac) (w : World) (B : Nat) (h1 : rpMac.SL w B xs v1) (h2 : rpMac.SL w B ys v2) (R : Ending → World → Prop)
    (hR : ∀ n, R (.returned (.bool (decide (xs = ys)))) (w.drewN n)) :
    Calls Try.prog 11 #[v1, v2] w R := by
  obtain ⟨A1, c1, rfl, hm1, _, h1⟩ := h1.cases_
  obtain ⟨A2, c2, rfl, hm2, _, h2⟩ := h2.cases_
  have hms : Try.prog.eqGuardType Try.prog.depth 51 = false := by kernel_rfl
  by_cases hn : xs.length = ys.length
  · have hnb : ((xs.length : Int) != (ys.length : Int)) = false := by simp [hn]
    have hn1 : xs.length ≤ ys.length := by omega
    have Hn := Lib.hid hn
    clear hn
    go_enter Try.func11, Try.ntmps11
    go_wp2
    go_loopw [5] (fun i wr => ∃ k : Nat, k ≤ xs.length ∧ i = .int .i64 k ∧ xs.take k = ys.take k ∧ ∃ n, wr = w.drewN n) (fun i _ => xs.length - (intOf i).toNat)
    case atStart => exact ⟨0, Nat.zero_le _, rfl, rfl, 0, rfl⟩
    case round =>
      obtain ⟨k, hk, rfl, ht, n, rfl⟩ := hrel
      have Ht := Lib.hid ht
      clear ht
      by_cases hlt : k < xs.length
      · obtain ⟨b1, o1, m1, rfl, hb1, e1, p0, p1, p2, p3, p4⟩ := h1.mac_at hlt
        obtain ⟨b2, o2, m2, rfl, hb2, e2, q0, q1, q2, q3, q4⟩ := h2.mac_at (k := k) (by omega)
        have E1 := Lib.hid e1
        have E2 := Lib.hid e2
        have i1 : (0 : Int) ≤ (k : Int) := Int.natCast_nonneg _
        have i2 : (k : Int) < (xs.length : Int) := by omega
        have i3 : (k : Int) < (ys.length : Int) := by omega
        have hne := neq_Mac m1 m2
        clear h1 h2 e1 e2
        by_cases hmm : m1 = m2
        · rw [decide_eq_true hmm] at hne
          have Hmm := Lib.hid hmm
          clear hmm
          go_wp2_with fail
          go_quiet (fail)
          go_wp2
          go_roundw
          case rel => exact ⟨k + 1, by omega, by go_num, take_same Ht.out E1.out E2.out Hmm.out, _, rfl⟩
          case measure => simp [intOf]; omega
        · rw [decide_eq_false hmm] at hne
          have Hmm := Lib.hid hmm
          clear hmm
          go_wp2_with fail
          go_quiet (fail)
          go_wp2
          rw [show decide (xs = ys) = false from decide_eq_false (fun e => Hmm.out (by have e1 := E1.out; rw [e, E2.out] at e1; exact (Option.some.inj e1).symm))] at hR
          have hR' := hR (n + nq)
          rw [← World.drewN_drewN] at hR'
          exact hR'
      · obtain rfl : k = xs.length := by omega
        go_wp2
        rw [show decide (xs = ys) = true from decide_eq_true (by have := Ht.out; rw [List.take_of_length_le (Nat.le_refl _), List.take_of_length_le (by rw [Hn.out]; exact Nat.le_refl _)] at this; exact this)] at hR
        exact hR _
  · have hnb : ((xs.length : Int) != (ys.length : Int)) = true := by simp; omega
    rw [show decide (xs = ys) = false from decide_eq_false (fun e => hn (by rw [e]))] at hR
    clear hn
    go_enter Try.func11, Try.ntmps11
    go_wp2
    exact hR 0

/-- Registers that rise from 6 to 13 are eight at most. -/
theorem saves_rise {xs : List Int} : ∀ (m i : Nat), savesFault xs m i = (0, 0) → i + m = xs.length → (∀ j, j < i → 6 + (j : Int) ≤ xs.getD j 0 ∧ xs.getD j 0 ≤ 13) → ∀ j, j < xs.length → 6 + (j : Int) ≤ xs.getD j 0 ∧ xs.getD j 0 ≤ 13
  | 0, i, _, hi, h, j, hj => h j (by omega)
  | m + 1, i, h0, hi, h, j, hj => by
    rw [savesFault] at h0
    split at h0
    · simp at h0
    · rename_i h1
      split at h0
      · simp at h0
      · rename_i h2
        refine saves_rise m (i + 1) h0 (by omega) (fun j hj => ?_) j hj
        rcases Nat.lt_or_ge j i with hlt | hge
        · exact h j hlt
        · obtain rfl : j = i := by omega
          rcases Nat.eq_zero_or_pos j with rfl | hp
          · constructor <;> omega
          · have := h (j - 1) (by omega)
            constructor <;> omega
theorem frameFault_ok {s : Int} {xs : List Int} (h : (frameFault s xs).1 = 0) : frameFault s xs = (0, 0) ∧ 0 ≤ s ∧ s ≤ 100 ∧ xs.length ≤ 8 := by
  have hs : ∀ m i, (savesFault xs m i).1 = 0 → savesFault xs m i = (0, 0) := by
    intro m
    induction m with
    | zero => intro i _; rfl
    | succ m ih =>
      intro i h
      rw [savesFault] at h ⊢
      split
      · rename_i h1; rw [if_pos h1] at h; simp at h
      · rename_i h1
        rw [if_neg h1] at h
        split
        · rename_i h2; rw [if_pos h2] at h; simp at h
        · rename_i h2; rw [if_neg h2] at h; exact ih _ h
  unfold frameFault at h ⊢
  split
  · rename_i h1; rw [if_pos h1] at h; simp at h
  · rename_i h1
    rw [if_neg h1] at h
    have h2 := hs _ _ h
    refine ⟨h2, by omega, by omega, ?_⟩
    rcases Nat.lt_or_ge 8 xs.length with hlt | hge
    · have := saves_rise xs.length 0 h2 (by omega) (fun j hj => absurd hj (by omega)) 8 hlt
      omega
    · exact hge
theorem frameFault_bad {s : Int} {xs : List Int} (h : (frameFault s xs).1 ≠ 0) : frameFault s xs ≠ (0, 0) := fun e => h (by rw [e])

set_option maxHeartbeats 400000 in
theorem Enter_bad (s : Int) (v : Value) (xs : List Int) (w : World) (h : rpInt.SL w w.heap.size xs v) (f : Int × Int) (hf : frameFault s xs = f) (h1 : f.1 ≠ 0) (R : Ending → World → Prop)
    (hR : ∀ w', Below w.heap.size w w' → R (.returned (.tuple #[.slice none 0 0, (.agg #[.int .i64 (f).1, .int .i64 (f).2])])) w') :
    Calls Try.prog 9 #[.agg #[.int .i64 s, v]] w R := by
  have hc := fault_calls s v xs
  rw [hf] at hc
  have Hc := Lib.hid hc
  have hms : Try.prog.eqGuardType Try.prog.depth 27 = false := by kernel_rfl
  have hne := neq_Fault f.1 f.2 0 0
  rw [decide_eq_false (fun e => h1 e.1)] at hne
  clear hc hf
  go_enter Try.func9, Try.ntmps9
  go_wp2_with fail
  refine Hc.out _ (h.up (by repeat (first | exact Below.refl _ _ | assumption | refine below_drewN ?_ _ | refine Below.drew ?_ | refine Below.setCell ?_ (by first | omega | (simp; done) | (simp; omega)) _ | refine Below.alloc ?_ (by first | omega | (simp; done) | (simp; omega)) _ | refine below_step (by assumption) ?_ (by first | omega | (simp; done) | (simp; omega)))) (by first | omega | (simp; done) | (simp; omega))) _ ?_
  intro w1 hb1
  go_wp2_with fail
  obtain ⟨hc1, hf1⟩ := bcell hb1
  have hz0 : w.heap.size < w1.heap.size := by have := hb1.size; simp at this; omega
  have hz1 : w.heap.size + 1 < w1.heap.size := by have := hb1.size; simp at this; omega
  go_region
  all_goals go_wp2
  all_goals refine bodyPost_ret (v := .tuple #[.slice none 0 0, (.agg #[.int .i64 (f).1, .int .i64 (f).2])]) (by simp [results, Try.results9, go_sem, hc1, hz1]) rfl ?_
  all_goals exact hR _ (by repeat (first | exact Below.refl _ _ | assumption | refine below_drewN ?_ _ | refine Below.drew ?_ | refine Below.setCell ?_ (by first | omega | (simp; done) | (simp; omega)) _ | refine Below.alloc ?_ (by first | omega | (simp; done) | (simp; omega)) _ | refine below_step (by assumption) ?_ (by first | omega | (simp; done) | (simp; omega))))

set_option maxHeartbeats 400000 in
theorem Enter_good (s : Int) (v : Value) (xs : List Int) (w : World) (h : rpInt.SL w w.heap.size xs v) (h1 : frameFault s xs = (0, 0)) (hs0 : 0 ≤ s) (hs1 : s ≤ 100) (hn : xs.length ≤ 8) (R : Ending → World → Prop)
    (hR : ∀ w' v', Below w.heap.size w w' → w'.ownsRow w.heap.size 51 5 v' xs.length ((entered s xs).flatMap Mac.cells) → R (.returned (.tuple #[v', (.agg #[.int .i64 ((0, 0)).1, .int .i64 ((0, 0)).2])])) w') :
    Calls Try.prog 9 #[.agg #[.int .i64 s, v]] w R := by
  have hc := fault_calls s v xs
  rw [h1] at hc
  have Hc := Lib.hid hc
  have hms : Try.prog.eqGuardType Try.prog.depth 27 = false := by kernel_rfl
  have hne := neq_Fault 0 0 0 0
  rw [decide_eq_true ⟨rfl, rfl⟩] at hne
  clear hc h1
  go_enter Try.func9, Try.ntmps9
  go_wp2_with fail
  refine Hc.out _ (h.up (by repeat (first | exact Below.refl _ _ | assumption | refine below_drewN ?_ _ | refine Below.drew ?_ | refine Below.setCell ?_ (by first | omega | (simp; done) | (simp; omega)) _ | refine Below.alloc ?_ (by first | omega | (simp; done) | (simp; omega)) _ | refine below_step (by assumption) ?_ (by first | omega | (simp; done) | (simp; omega)))) (by first | omega | (simp; done) | (simp; omega))) _ ?_
  intro w1 hb1
  obtain ⟨hc1, hf1⟩ := bcell hb1
  have hz0 : w.heap.size < w1.heap.size := by have := hb1.size; simp at this; omega
  have hz1 : w.heap.size + 1 < w1.heap.size := by have := hb1.size; simp at this; omega
  go_wp2_with fail
  refine Entering_calls _ _ _ _ (h.up (by repeat (first | exact Below.refl _ _ | assumption | refine below_drewN ?_ _ | refine Below.drew ?_ | refine Below.setCell ?_ (by first | omega | (simp; done) | (simp; omega)) _ | refine Below.alloc ?_ (by first | omega | (simp; done) | (simp; omega)) _ | refine below_step (by assumption) ?_ (by first | omega | (simp; done) | (simp; omega)))) (by first | omega | (simp; done) | (simp; omega))) hs0 hs1 hn _ ?_
  intro w2 v2 hb2 ho2
  obtain ⟨hc2, hf2⟩ := bcell hb2
  have hy : w1.heap.size < w2.heap.size := by have := hb2.size; simp at this; omega
  have hy0 : w.heap.size < w2.heap.size := by omega
  have hy1 : w.heap.size + 1 < w2.heap.size := by omega
  go_wp2
  refine bodyPost_ret (v := .tuple #[v2, (.agg #[.int .i64 ((0, 0)).1, .int .i64 ((0, 0)).2])]) (by simp [results, Try.results9, go_sem, hc2, hc1, hz0, hz1, hy, hy0, hy1]) rfl ?_
  exact hR _ _ (by repeat (first | exact Below.refl _ _ | assumption | refine below_drewN ?_ _ | refine Below.drew ?_ | refine Below.setCell ?_ (by first | omega | (simp; done) | (simp; omega)) _ | refine Below.alloc ?_ (by first | omega | (simp; done) | (simp; omega)) _ | refine below_step (by assumption) ?_ (by first | omega | (simp; done) | (simp; omega)))) (ownsRow_base (ownsRow_setCell_below (ownsRow_setCell_below ho2 (by first | omega | (simp; done) | (simp; omega)) _) (by first | omega | (simp; done) | (simp; omega)) _) (by first | omega | (simp; done) | (simp; omega)))

set_option maxHeartbeats 400000 in
theorem Leave_bad (s : Int) (v : Value) (xs : List Int) (w : World) (h : rpInt.SL w w.heap.size xs v) (f : Int × Int) (hf : frameFault s xs = f) (h1 : f.1 ≠ 0) (R : Ending → World → Prop)
    (hR : ∀ w', Below w.heap.size w w' → R (.returned (.tuple #[.slice none 0 0, (.agg #[.int .i64 (f).1, .int .i64 (f).2])])) w') :
    Calls Try.prog 13 #[.agg #[.int .i64 s, v]] w R := by
  have hc := fault_calls s v xs
  rw [hf] at hc
  have Hc := Lib.hid hc
  have hms : Try.prog.eqGuardType Try.prog.depth 27 = false := by kernel_rfl
  have hne := neq_Fault f.1 f.2 0 0
  rw [decide_eq_false (fun e => h1 e.1)] at hne
  clear hc hf
  go_enter Try.func13, Try.ntmps13
  go_wp2_with fail
  refine Hc.out _ (h.up (by repeat (first | exact Below.refl _ _ | assumption | refine below_drewN ?_ _ | refine Below.drew ?_ | refine Below.setCell ?_ (by first | omega | (simp; done) | (simp; omega)) _ | refine Below.alloc ?_ (by first | omega | (simp; done) | (simp; omega)) _ | refine below_step (by assumption) ?_ (by first | omega | (simp; done) | (simp; omega)))) (by first | omega | (simp; done) | (simp; omega))) _ ?_
  intro w1 hb1
  go_wp2_with fail
  obtain ⟨hc1, hf1⟩ := bcell hb1
  have hz0 : w.heap.size < w1.heap.size := by have := hb1.size; simp at this; omega
  have hz1 : w.heap.size + 1 < w1.heap.size := by have := hb1.size; simp at this; omega
  go_region
  all_goals go_wp2
  all_goals refine bodyPost_ret (v := .tuple #[.slice none 0 0, (.agg #[.int .i64 (f).1, .int .i64 (f).2])]) (by simp [results, Try.results13, go_sem, hc1, hz1]) rfl ?_
  all_goals exact hR _ (by repeat (first | exact Below.refl _ _ | assumption | refine below_drewN ?_ _ | refine Below.drew ?_ | refine Below.setCell ?_ (by first | omega | (simp; done) | (simp; omega)) _ | refine Below.alloc ?_ (by first | omega | (simp; done) | (simp; omega)) _ | refine below_step (by assumption) ?_ (by first | omega | (simp; done) | (simp; omega))))

set_option maxHeartbeats 400000 in
theorem Leave_good (s : Int) (v : Value) (xs : List Int) (w : World) (h : rpInt.SL w w.heap.size xs v) (h1 : frameFault s xs = (0, 0)) (hs0 : 0 ≤ s) (hs1 : s ≤ 100) (hn : xs.length ≤ 8) (R : Ending → World → Prop)
    (hR : ∀ w' v', Below w.heap.size w w' → w'.ownsRow w.heap.size 51 5 v' (xs.length + 1) ((left s xs ++ [macReturn]).flatMap Mac.cells) → R (.returned (.tuple #[v', (.agg #[.int .i64 ((0, 0)).1, .int .i64 ((0, 0)).2])])) w') :
    Calls Try.prog 13 #[.agg #[.int .i64 s, v]] w R := by
  have hc := fault_calls s v xs
  rw [h1] at hc
  have Hc := Lib.hid hc
  have hms : Try.prog.eqGuardType Try.prog.depth 27 = false := by kernel_rfl
  have hne := neq_Fault 0 0 0 0
  rw [decide_eq_true ⟨rfl, rfl⟩] at hne
  clear hc h1
  go_enter Try.func13, Try.ntmps13
  go_wp2_with fail
  refine Hc.out _ (h.up (by repeat (first | exact Below.refl _ _ | assumption | refine below_drewN ?_ _ | refine Below.drew ?_ | refine Below.setCell ?_ (by first | omega | (simp; done) | (simp; omega)) _ | refine Below.alloc ?_ (by first | omega | (simp; done) | (simp; omega)) _ | refine below_step (by assumption) ?_ (by first | omega | (simp; done) | (simp; omega)))) (by first | omega | (simp; done) | (simp; omega))) _ ?_
  intro w1 hb1
  obtain ⟨hc1, hf1⟩ := bcell hb1
  have hz0 : w.heap.size < w1.heap.size := by have := hb1.size; simp at this; omega
  have hz1 : w.heap.size + 1 < w1.heap.size := by have := hb1.size; simp at this; omega
  go_wp2_with fail
  refine Leaving_calls _ _ _ _ (h.up (by repeat (first | exact Below.refl _ _ | assumption | refine below_drewN ?_ _ | refine Below.drew ?_ | refine Below.setCell ?_ (by first | omega | (simp; done) | (simp; omega)) _ | refine Below.alloc ?_ (by first | omega | (simp; done) | (simp; omega)) _ | refine below_step (by assumption) ?_ (by first | omega | (simp; done) | (simp; omega)))) (by first | omega | (simp; done) | (simp; omega))) hs0 hs1 hn _ ?_
  intro w2 v2 hb2 ho2
  obtain ⟨hc2, hf2⟩ := bcell hb2
  have hy : w1.heap.size < w2.heap.size := by have := hb2.size; simp at this; omega
  have hy0 : w.heap.size < w2.heap.size := by omega
  have hy1 : w.heap.size + 1 < w2.heap.size := by omega
  go_wp2
  refine bodyPost_ret (v := .tuple #[v2, (.agg #[.int .i64 ((0, 0)).1, .int .i64 ((0, 0)).2])]) (by simp [results, Try.results13, go_sem, hc2, hc1, hz0, hz1, hy, hy0, hy1]) rfl ?_
  exact hR _ _ (by repeat (first | exact Below.refl _ _ | assumption | refine below_drewN ?_ _ | refine Below.drew ?_ | refine Below.setCell ?_ (by first | omega | (simp; done) | (simp; omega)) _ | refine Below.alloc ?_ (by first | omega | (simp; done) | (simp; omega)) _ | refine below_step (by assumption) ?_ (by first | omega | (simp; done) | (simp; omega)))) (ownsRow_base (ownsRow_setCell_below (ownsRow_setCell_below ho2 (by first | omega | (simp; done) | (simp; omega)) _) (by first | omega | (simp; done) | (simp; omega)) _) (by first | omega | (simp; done) | (simp; omega)))

end Go.Proofs.Ytmlmnhhgdcfchaa
