/- Routines and images as they lie in memory. -/
import Derived.Test.YtemakpjickbmnaaDoorBase
import Derived.Test.YtemakpjickbmnaaDoorRows
import Derived.IntWalk
import Derived.Test.YtemakpjickbmnaaDoorLinkQ
import Derived.Test.YtemakpjickbmnaaDoorLinkA
import Derived.Test.YtemakpjickbmnaaDoorCopyA
import Derived.Test.YtemakpjickbmnaaDoorAppA
namespace Go.Proofs.YtemakpjickbmnaaDoor
open Go.RowKit
set_option linter.unusedSimpArgs false
set_option linter.unusedVariables false

def rpRoutine : Rp Routine := (rpStr.pair rpByte.slice).as_ fun r => (r.name, r.code)
theorem rpRoutine_size : rpRoutine.size = 2 := rfl
theorem rpRoutine_rep {w : World} {B : Nat} {s : Routine} {cs : List Value} (h : rpRoutine.rep w B s cs) : ∃ v1, cs = [.string s.name, v1] ∧ rpByte.SL w B s.code v1 := by
  obtain ⟨c1, c2, rfl, rfl, v1, rfl, h1⟩ := h
  exact ⟨v1, rfl, h1⟩
theorem rpRoutine_mk {w : World} {B : Nat} {s : Routine} {v1 : Value} (h1 : rpByte.SL w B s.code v1) : rpRoutine.rep w B s [.string s.name, v1] :=
  ⟨[.string s.name], [v1], rfl, rfl, v1, rfl, h1⟩
theorem Rp.SL.routine_at {w : World} {B : Nat} {xs : List Routine} {A : Option Addr} {n c k : Nat} (h : rpRoutine.SL w B xs (.slice A n c)) (hk : k < xs.length) : ∃ b off s v1, A = some ⟨b, off, none⟩ ∧ b < B ∧ xs[k]? = some s ∧ rpByte.SL w B s.code v1 ∧
    w.cell? ⟨b, off + k * 2, none⟩ = some (.string s.name) ∧ w.cell? ⟨b, off + k * 2 + 1, none⟩ = some v1 := by
  obtain ⟨b, off, cs, hA, hb, hr, hcs⟩ := h.at_ (List.getElem?_eq_getElem hk)
  obtain ⟨v1, rfl, h1⟩ := rpRoutine_rep hr
  exact ⟨b, off, xs[k], v1, hA, hb, List.getElem?_eq_getElem hk, h1, hcs 0 _ rfl, hcs 1 _ rfl⟩
theorem info_Routine : (Tryd.prog.info? 75).map (fun i => (i.zero, i.size, i.bytes)) = some (some (.agg #[.string ByteArray.empty, .slice none 0 0]), 2, 40) := by kernel_rfl
theorem res_ImgF {fn : Func} {p q : Tmp} (h : fn.results = #[.cell p 50, .cell q 25]) {tmps : Array Value} {b b' : Nat} {w : World} {x y c a : Value} {T T' : TypeId} (hp : tmps.getD p undef = .pointer (some ⟨b, 0, none⟩)) (hq : tmps.getD q undef = .pointer (some ⟨b', 0, none⟩))
    (hc : w.heap[b]? = some (.cells #[x, y] T (0, 0))) (hf : w.heap[b']? = some (.cells #[c, a] T' (0, 0))) : (results fn tmps).run Tryd.prog w = .ok (.tuple #[.agg #[x, y], .agg #[c, a]]) w := by
  rw [Array.getD_eq_getD_getElem?] at hp hq
  have h1 := cells_of_block hc
  have h2 := cells_of_block hf
  simp [results, h, hp, hq, go_sem, h1.1, h1.2.1, h2.1, h2.2.1]
/-- Sections of objects that link are fine, each by itself. -/
theorem fine_secs {l : List Object} (h : (linkF l).1 = 0) : ∀ s ∈ allS l, secF s = 0 := fun s hs => by
  obtain ⟨_, _, h2, h3⟩ := linkF_ok h
  obtain ⟨o, ho, hs⟩ := List.mem_flatMap.1 hs
  obtain ⟨k, hk, e⟩ := List.mem_iff_getElem.1 hs
  obtain ⟨k', hk', e'⟩ := List.mem_iff_getElem.1 ho
  exact ((h3 k' o (by rw [List.getElem?_eq_getElem hk', e'])).ok.secs k s (by rw [List.getElem?_eq_getElem hk, e])).fine
/-- The rest of a linking, from the place i on. -/
theorem routsTo_none {S : List Section} {order : List ByteArray} {i : Nat} {nm : ByteArray} {s : Section} {rs : List Routine} {g : Image} (h : order[i]? = some nm) (hs : secFind S nm = some s) (hr : routB order s = none) :
    routsTo S order (order.length - i) i rs g = (⟨[], []⟩, (6, (i : Int))) := by
  have hi := (List.getElem?_eq_some_iff.1 h).1
  obtain ⟨f, hf⟩ : ∃ f, order.length - i = f + 1 := ⟨order.length - i - 1, by omega⟩
  have e : secAt S (order.getD i ByteArray.empty) = s := by unfold secAt; rw [List.getD_eq_getElem?_getD, h, Option.getD_some, hs]; rfl
  rw [hf, routsTo, e, hr]
theorem routsTo_step {S : List Section} {order : List ByteArray} {i : Nat} {nm : ByteArray} {s : Section} {c : List UInt8} {rs : List Routine} {g : Image} (h : order[i]? = some nm) (hs : secFind S nm = some s) (hr : routB order s = some c) :
    routsTo S order (order.length - i) i rs g = routsTo S order (order.length - (i + 1)) (i + 1) (rs ++ [⟨nm, c⟩]) g := by
  have hi := (List.getElem?_eq_some_iff.1 h).1
  obtain ⟨f, hf⟩ : ∃ f, order.length - i = f + 1 := ⟨order.length - i - 1, by omega⟩
  have e : secAt S (order.getD i ByteArray.empty) = s := by unfold secAt; rw [List.getD_eq_getElem?_getD, h, Option.getD_some, hs]; rfl
  rw [hf, routsTo, e, hr, show order.length - (i + 1) = f from by omega]
  simp only []
  rw [List.getD_eq_getElem?_getD, h, Option.getD_some]
theorem routsTo_end {S : List Section} {order : List ByteArray} {rs : List Routine} {g : Image} : routsTo S order (order.length - order.length) order.length rs g = if 40 < rs.length then (⟨[], []⟩, (2, 0)) else (⟨g.globals, rs⟩, (0, 0)) := by
  rw [Nat.sub_self, routsTo]
end Go.Proofs.YtemakpjickbmnaaDoor
