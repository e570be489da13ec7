/- Words for variables of two cells: blocks known whole, behind stores; the results Object and Fault. -/
import Derived.Test.YtkodcoianakjoaaDoorLib
import Derived.Test.YtkodcoianakjoaaDoorRows
import Derived.IntWalk
import Derived.Test.YtkodcoianakjoaaDoorLib3
import Derived.Test.YtkodcoianakjoaaDoorRead1
namespace Go.Proofs.YtkodcoianakjoaaDoor
open Go.RowKit
set_option linter.unusedSimpArgs false
set_option linter.unusedVariables false

theorem blk_drew {w : World} {b : Nat} {X : Obj} (h : w.heap[b]? = some X) : w.drew.heap[b]? = some X := h
theorem blk_drewN {w : World} {b : Nat} {X : Obj} (h : w.heap[b]? = some X) (n : Nat) : (w.drewN n).heap[b]? = some X := h
theorem blk_alloc {w : World} {b : Nat} {X : Obj} (h : w.heap[b]? = some X) (o : Obj) : (w.alloc o).heap[b]? = some X :=
  (Below.heap_alloc w o b (Array.getElem?_eq_some_iff.1 h).1).trans h
theorem blk_set0 {w : World} {b : Nat} {x y : Value} {T : TypeId} (h : w.heap[b]? = some (.cells #[x, y] T (0, 0))) (u : Value) : (w.setCell ⟨b, 0, none⟩ u).heap[b]? = some (.cells #[u, y] T (0, 0)) := by
  rw [block_set h]
  rfl
theorem blk_set1 {w : World} {b : Nat} {x y : Value} {T : TypeId} (h : w.heap[b]? = some (.cells #[x, y] T (0, 0))) (u : Value) : (w.setCell ⟨b, 1, none⟩ u).heap[b]? = some (.cells #[x, u] T (0, 0)) := by
  rw [block_set h]
  rfl
theorem blk_other {w : World} {b c j : Nat} {X : Obj} (h : w.heap[b]? = some X) (hne : b ≠ c) (u : Value) : (w.setCell ⟨c, j, none⟩ u).heap[b]? = some X :=
  (Below.heap_setCell _ _ _ _ hne).trans h
theorem blk_lt {w : World} {b : Nat} {X : Obj} (h : w.heap[b]? = some X) : b < w.heap.size := (Array.getElem?_eq_some_iff.1 h).1
theorem cells_blk {w : World} {p : Nat} {u v : Value} {T : TypeId} (h : w.heap[p]? = some (.cells #[u, v] T (0, 0))) : w.cell? ⟨p, 0, none⟩ = some u ∧ w.cell? ⟨p, 1, none⟩ = some v :=
  ⟨(cells_of_block h).1, (cells_of_block h).2.1⟩
theorem res_ObjF {fn : Func} {p q : Tmp} (h : fn.results = #[.cell p 25, .cell q 27]) {tmps : Array Value} {b b' : Nat} {w : World} {x y c a : Value} {T T' : TypeId} (hp : tmps.getD p undef = .pointer (some ⟨b, 0, none⟩)) (hq : tmps.getD q undef = .pointer (some ⟨b', 0, none⟩))
    (hc : w.heap[b]? = some (.cells #[x, y] T (0, 0))) (hf : w.heap[b']? = some (.cells #[c, a] T' (0, 0))) : (results fn tmps).run Tryd.prog w = .ok (.tuple #[.agg #[x, y], .agg #[c, a]]) w := by
  obtain ⟨c0, c1⟩ := cells_blk hc
  obtain ⟨d0, d1⟩ := cells_blk hf
  rw [Array.getD_eq_getD_getElem?] at hp hq
  simp [results, h, hp, hq, go_sem, c0, c1, d0, d1]
theorem res_Obj {fn : Func} {p : Tmp} (h : fn.results = #[.cell p 25]) {tmps : Array Value} {b : Nat} {w : World} {x y : Value} {T : TypeId} (hp : tmps.getD p undef = .pointer (some ⟨b, 0, none⟩))
    (hc : w.heap[b]? = some (.cells #[x, y] T (0, 0))) : (results fn tmps).run Tryd.prog w = .ok (.agg #[x, y]) w := by
  obtain ⟨c0, c1⟩ := cells_blk hc
  rw [Array.getD_eq_getD_getElem?] at hp
  simp [results, h, hp, go_sem, c0, c1]
end Go.Proofs.YtkodcoianakjoaaDoor
