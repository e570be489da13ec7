/- Instructions of the machine, as they lie; faults compared; core.Within, core.Fault. -/
import Derived.Test.YtkodcoianakjoaaDoorLib
import Derived.Test.YtkodcoianakjoaaDoorRows
import Derived.IntWalk
namespace Go.Proofs.YtkodcoianakjoaaDoor
open Go.RowKit
set_option linter.unusedSimpArgs false
set_option linter.unusedVariables false
set_option maxHeartbeats 400000 in
theorem Within_calls (n lo hi : Int) (w : World) (R : Ending → World → Prop) (hR : R (.returned (.bool (decide (lo ≤ n ∧ n ≤ hi)))) w) :
    Calls Tryd.prog 25 #[.int .i64 n, .int .i64 lo, .int .i64 hi] w R := by
  by_cases h : lo ≤ n
  · rw [show decide (lo ≤ n ∧ n ≤ hi) = decide (n ≤ hi) from by simp [h]] at hR
    go_enter Tryd.func25, Tryd.ntmps25
    go_wp2
    exact hR
  · rw [show decide (lo ≤ n ∧ n ≤ hi) = false from by simp [h]] at hR
    go_enter Tryd.func25, Tryd.ntmps25
    go_wp2
    exact hR


set_option maxHeartbeats 400000 in
theorem Fault_calls (c a : Int) (w : World) (R : Ending → World → Prop) (hR : ∀ w', Below w.heap.size w w' → R (.returned (.agg #[.int .i64 c, .int .i64 a])) w') :
    Calls Tryd.prog 26 #[.int .i64 c, .int .i64 a] w R := by
  go_enter Tryd.func26, Tryd.ntmps26
  go_wp2
  refine bodyPost_ret (v := (.agg #[.int .i64 ((c, a)).1, .int .i64 ((c, a)).2])) (by simp [results, Tryd.results26, go_sem]) rfl ?_
  exact hR _ (by repeat (first | exact Below.refl _ _ | assumption | refine below_drewN ?_ _ | refine Below.drew ?_ | refine Below.setCell ?_ (by first | omega | (simp; done) | (simp; omega)) _ | refine Below.alloc ?_ (by first | omega | (simp; done) | (simp; omega)) _ | refine below_step (by assumption) ?_ (by first | omega | (simp; done) | (simp; omega))))

theorem info_Mac : (Tryd.prog.info? 70).map (fun i => (i.zero, i.size, i.bytes)) = some (some (.agg #[.int .i64 0, .int .i64 0, .int .i64 0, .int .i64 0, .int .i64 0]), 5, 40) := by kernel_rfl

structure Mac where
  op : Int
  dst : Int
  a : Int
  b : Int
  n : Int
def Mac.tup (m : Mac) : Int × Int × Int × Int × Int := (m.op, m.dst, m.a, m.b, m.n)
theorem Mac.tup_inj {m n : Mac} (h : m.tup = n.tup) : m = n := by
  cases m
  cases n
  simpa [Mac.tup] using h
instance : DecidableEq Mac := fun m n => if h : m.tup = n.tup then isTrue (Mac.tup_inj h) else isFalse (fun e => h (by rw [e]))
def Mac.cells (m : Mac) : List Value := [.int .i64 m.op, .int .i64 m.dst, .int .i64 m.a, .int .i64 m.b, .int .i64 m.n]
def rpMac : Rp Mac := (rpInt.pair (rpInt.pair (rpInt.pair (rpInt.pair rpInt)))).as_ Mac.tup
theorem rpMac_rep {w : World} {B : Nat} {m : Mac} {cs : List Value} : rpMac.rep w B m cs ↔ cs = m.cells := by
  simp [rpMac, Rp.as_, Rp.pair, rpInt, Mac.tup, Mac.cells]
theorem rpMac_size : rpMac.size = 5 := rfl
theorem SLMac_own {w : World} {B base : Nat} {e : TypeId} {v : Value} {xs : List Mac} (h : w.ownsRow base e 5 v xs.length (xs.flatMap Mac.cells)) (hB : w.heap.size ≤ B) : rpMac.SL w B xs v :=
  Rp.SL.of_own (r := rpMac) (fun _ _ _ => rpMac_rep.2 rfl) (fun _ => rfl) h hB

theorem neq_Mac (m n : Mac) (w : World) : (binOp .neq 70 (.agg #[.int .i64 m.op, .int .i64 m.dst, .int .i64 m.a, .int .i64 m.b, .int .i64 m.n]) (.agg #[.int .i64 n.op, .int .i64 n.dst, .int .i64 n.a, .int .i64 n.b, .int .i64 n.n])).run Tryd.prog w = .ok (.bool (!decide (m = n))) w := by
  have hp : Tryd.prog.stoodInHeld 70 = false := by kernel_rfl
  have ht : Tryd.prog.underlying 70 = some (.struct (Tryd.prog.fieldsOf 70)) := by kernel_rfl
  rw [run_neq_struct, run_equalIn_agg _ _ _ _ _ ht hp]
  have h3 := Tryd.underlying3
  simp [Tryd.underlying70, go_sem, h3]
  have e : m = n ↔ m.op = n.op ∧ m.dst = n.dst ∧ m.a = n.a ∧ m.b = n.b ∧ m.n = n.n := by
    cases m
    cases n
    simp
  by_cases h1 : m.op = n.op <;> by_cases h2 : m.dst = n.dst <;> by_cases h4 : m.a = n.a <;> by_cases h5 : m.b = n.b <;> by_cases h6 : m.n = n.n <;> simp [e, h1, h2, h4, h5, h6]

theorem eql_Fault (a b c d : Int) (w : World) : (binOp .eql 27 (.agg #[.int .i64 a, .int .i64 b]) (.agg #[.int .i64 c, .int .i64 d])).run Tryd.prog w = .ok (.bool (decide (a = c ∧ b = d))) w := by
  have hp : Tryd.prog.stoodInHeld 27 = false := by kernel_rfl
  have ht : Tryd.prog.underlying 27 = some (.struct (Tryd.prog.fieldsOf 27)) := by kernel_rfl
  rw [run_eql_struct, run_equalIn_agg _ _ _ _ _ ht hp]
  have h3 := Tryd.underlying3
  simp [Tryd.underlying27, go_sem, h3]
  by_cases h1 : a = c <;> by_cases h2 : b = d <;> simp [h1, h2]

theorem neq_Fault (a b c d : Int) (w : World) : (binOp .neq 27 (.agg #[.int .i64 a, .int .i64 b]) (.agg #[.int .i64 c, .int .i64 d])).run Tryd.prog w = .ok (.bool (!decide (a = c ∧ b = d))) w := by
  have hp : Tryd.prog.stoodInHeld 27 = false := by kernel_rfl
  have ht : Tryd.prog.underlying 27 = some (.struct (Tryd.prog.fieldsOf 27)) := by kernel_rfl
  rw [run_neq_struct, run_equalIn_agg _ _ _ _ _ ht hp]
  have h3 := Tryd.underlying3
  simp [Tryd.underlying27, go_sem, h3]
  by_cases h1 : a = c <;> by_cases h2 : b = d <;> simp [h1, h2]

theorem res_Fault {fn : Func} {p : Tmp} (h : fn.results = #[.cell p 27]) {tmps : Array Value} {b : Nat} {w : World} {x y : Value} (hp : tmps.getD p undef = .pointer (some ⟨b, 0, none⟩))
    (hc : w.cell? ⟨b, 0, none⟩ = some x ∧ w.cell? ⟨b, 1, none⟩ = some y) : (results fn tmps).run Tryd.prog w = .ok (.agg #[x, y]) w := by
  rw [Array.getD_eq_getD_getElem?] at hp
  simp [results, h, hp, go_sem, hc.1, hc.2]

theorem Rp.SL.mac_at {w : World} {B : Nat} {xs : List Mac} {A : Option Addr} {n c k : Nat} (h : rpMac.SL w B xs (.slice A n c)) (hk : k < xs.length) : ∃ b off m, A = some ⟨b, off, none⟩ ∧ b < B ∧ xs[k]? = some m ∧
    w.cell? ⟨b, off + k * 5, none⟩ = some (.int .i64 m.op) ∧ w.cell? ⟨b, off + k * 5 + 1, none⟩ = some (.int .i64 m.dst) ∧ w.cell? ⟨b, off + k * 5 + 2, none⟩ = some (.int .i64 m.a) ∧ w.cell? ⟨b, off + k * 5 + 3, none⟩ = some (.int .i64 m.b) ∧ w.cell? ⟨b, off + k * 5 + 4, none⟩ = some (.int .i64 m.n) := by
  obtain ⟨b, off, cs, hA, hb, hr, hcs⟩ := h.at_ (List.getElem?_eq_getElem hk)
  rw [rpMac_rep] at hr
  subst hr
  exact ⟨b, off, xs[k], hA, hb, List.getElem?_eq_getElem hk, hcs 0 _ rfl, hcs 1 _ rfl, hcs 2 _ rfl, hcs 3 _ rfl, hcs 4 _ rfl⟩
end Go.Proofs.YtkodcoianakjoaaDoor
