/- object.Saved: an object's bytes. The document's ObjectBytes: an object's bytes. -/
import Derived.Test.YtemakpjickbmnaaDoorBase
import Derived.Test.YtemakpjickbmnaaDoorRows
import Derived.IntWalk
import Derived.Deep.LoopGhost
import Derived.Deep.CutBlock
import Derived.Deep.DeepCutAuto
import Derived.Outline
import Derived.Lib.SlBytesConst
import Derived.Test.YtemakpjickbmnaaDoorAppA
import Derived.Deep.RegionLaw
/- object.Saved: an object's bytes. -/
namespace Go.Proofs.YtemakpjickbmnaaDoor
open Go.RowKit
set_option linter.unusedSimpArgs false
set_option linter.unusedVariables false

/-- A writer lies in block P and has written bs; blocks Pr are not its row. -/
structure WS (T P base : Nat) (Pr : Nat → Prop) (bs : List UInt8) (W0 w : World) : Prop where
  ex : ∃ v, w.heap[P]? = some (.cells #[v] T (0, 0)) ∧ Buf w base v bs ∧ v.ownBlock ≠ some P ∧ ∀ k, Pr k → v.ownBlock ≠ some k
  bel : Below base W0 w
  hP : base ≤ P
  hb : base ≤ W0.heap.size
theorem WS.lt {T P base : Nat} {Pr : Nat → Prop} {bs : List UInt8} {W0 w : World} (h : WS T P base Pr bs W0 w) : P < w.heap.size := by
  obtain ⟨v, h1, _⟩ := h.ex
  exact (Array.getElem?_eq_some_iff.1 h1).1
theorem WS.below {T P base : Nat} {Pr Pr' : Nat → Prop} {bs : List UInt8} {W0 w w' : World} (h : WS T P base Pr bs W0 w) (hb : Below w.heap.size w w') (hp : ∀ k, Pr' k → Pr k ∨ w.heap.size ≤ k) : WS T P base Pr' bs W0 w' := by
  have hl := h.lt
  obtain ⟨v, h1, h2, h3, h4⟩ := h.ex
  have hz : base ≤ w.heap.size := Nat.le_trans h.hb h.bel.size
  refine ⟨⟨v, (hb.block _ hl).trans h1, h2.below hb (Nat.le_refl _), h3, fun k hk e => ?_⟩, h.bel.trans (hb.mono hz), h.hP, h.hb⟩
  rcases hp k hk with h5 | h5
  · exact h4 k h5 e
  · have := (h2.lt k e).2
    omega
theorem WS.step {T P base : Nat} {Pr : Nat → Prop} {bs cs : List UInt8} {W0 w w' : World} {v v' : Value} (h : WS T P base Pr bs W0 w) (hp : w.heap[P]? = some (.cells #[v] T (0, 0))) (hB : Buf w base v bs) (hne : v.ownBlock ≠ some P) (hpr : ∀ k, Pr k → v.ownBlock ≠ some k) (hprl : ∀ k, Pr k → k < w.heap.size)
    (h1 : w'.heap[P]? = some (.cells #[v'] T (0, 0))) (h2 : Buf w' base v' cs) (h3 : Grew (fun k => k = P ∨ v.ownBlock = some k) w w') (h4 : Came w v v') : WS T P base Pr cs W0 w' := by
  have hl := h.lt
  refine ⟨⟨v', h1, h2, h4.ne hne hl, fun k hk e => ?_⟩, h.bel.trans (h3.below (fun k hk e => ?_) (Nat.le_trans h.hb h.bel.size)), h.hP, h.hb⟩
  · rcases h4 k e with h5 | h5
    · exact hpr k hk h5
    · have := hprl k hk
      omega
  · have := h.hP
    rcases e with e | e
    · omega
    · have := (hB.lt k e).1
      omega
theorem two_src {w : World} {x y : UInt8} {u v : Value} (hx : byteCells x = [u]) (hy : byteCells y = [v]) : rpByte.SL (w.alloc (.cells #[u, v] 5)) (w.alloc (.cells #[u, v] 5)).heap.size [x, y] (.slice (some ⟨w.heap.size, 0, none⟩) 2 2) := by
  refine Buf.SL (base := 0) (.inl ⟨rfl, .inr ⟨w.heap.size, 2, #[u, v], rfl, Nat.zero_le _, heap_alloc_new _ _, Nat.le_refl _, by unfold maxLen; omega, rfl, ?_⟩⟩) (Nat.le_refl _)
  rw [List.flatMap_cons, List.flatMap_cons, hx, hy]
  rfl
theorem Grew.of_drew {X : Nat → Prop} {w w' : World} (h : Grew X w.drew w') : Grew X w w' := ⟨h.os, h.tape, h.output, h.size, h.block⟩
/-- A row that a call has left, stored in the writer. -/
theorem WS.store {T P base : Nat} {Pr : Nat → Prop} {bs cs : List UInt8} {W0 w w5 : World} {v v' : Value} (h : WS T P base Pr bs W0 w) (hp : w.heap[P]? = some (.cells #[v] T (0, 0))) (hB : Buf w base v bs) (hne : v.ownBlock ≠ some P) (hpr : ∀ k, Pr k → v.ownBlock ≠ some k) (hprl : ∀ k, Pr k → k < w.heap.size)
    (hg : Grew (fun k => v.ownBlock = some k) w w5) (hb : Buf w5 base v' cs) (hc : Came w v v') : WS T P base Pr cs W0 (w5.setCell ⟨P, 0, none⟩ v') := by
  have hl := h.lt
  have hP5 : w5.heap[P]? = some (.cells #[v] T (0, 0)) := (hg.block _ hl hne).trans hp
  have hn1 := hc.ne hne hl
  exact h.step hp hB hne hpr hprl (one_set hP5 _) (hb.grew (Grew.of_grown (grown_setCell w5 ⟨P, 0, none⟩ _)) (fun k hk e => hn1 (hk.trans e.symm)))
    ((hg.more (fun j _ e => Or.inr e)).trans (Grew.of_grown (grown_setCell w5 ⟨P, 0, none⟩ _)) (fun j _ e => .inl (Option.some.inj e).symm)) hc
theorem restG (o : Object) {k : Nat} {g : Global} (h : o.globals[k]? = some g) : globsB (o.globals.drop k) = textB g.name ++ (numB g.size.toNat ++ (numB g.init.length ++ (initB g.init ++ globsB (o.globals.drop (k + 1))))) := by
  unfold globsB
  rw [flat_step globB h]
  unfold globB
  simp only [List.append_assoc]
theorem restS (o : Object) {k : Nat} {s : Section} (h : o.sections[k]? = some s) : secsB (o.sections.drop k) = textB s.name ++ (textB (strL s.code) ++ (numB s.mends.length ++ (mendsB s.mends ++ secsB (o.sections.drop (k + 1))))) := by
  unfold secsB
  rw [flat_step secB h]
  unfold secB
  simp only [List.append_assoc]

end Go.Proofs.YtemakpjickbmnaaDoor

/- The document's ObjectBytes: an object's bytes. -/
namespace Go.Proofs.YtemakpjickbmnaaDoor
open Go.RowKit
set_option linter.unusedSimpArgs false
set_option linter.unusedVariables false

/-- A row in a slot: bs, from base on; the world above W0. -/
structure OB (base : Nat) (v : Value) (bs : List UInt8) (W0 w : World) : Prop where
  buf : Buf w base v bs
  bel : Below base W0 w
  hb : base ≤ W0.heap.size
theorem OB.below {base : Nat} {v : Value} {bs : List UInt8} {W0 w w' : World} (h : OB base v bs W0 w) (hb : Below w.heap.size w w') : OB base v bs W0 w' :=
  ⟨h.buf.below hb (Nat.le_refl _), h.bel.trans (hb.mono (Nat.le_trans h.hb h.bel.size)), h.hb⟩
theorem OB.app {base : Nat} {v v' : Value} {bs cs : List UInt8} {W0 w w' : World} (h : OB base v bs W0 w) (hb : Buf w' base v' cs) (hg : Grew (fun k => v.ownBlock = some k) w w') : OB base v' cs W0 w' :=
  ⟨hb, h.bel.trans (hg.below (fun k hk e => by have := (h.buf.lt k e).1; omega) (Nat.le_trans h.hb h.bel.size)), h.hb⟩
theorem OB.base {base : Nat} {v : Value} {bs : List UInt8} {W0 w : World} (h : OB base v bs W0 w) : base ≤ w.heap.size := Nat.le_trans h.hb h.bel.size

theorem below_of_drew {w w' : World} (h : Below w.drew.heap.size w.drew w') : Below w.heap.size w w' := ⟨h.os, h.tape, h.output, h.size, h.block⟩
/-- Two texts appended, each made by a call. -/
theorem OB.two {base V : Nat} {v v6 v9 : Value} {cur t1 t2 : List UInt8} {W0 wa w5 w6 w8 w9 : World} (h : OB base v cur W0 wa) (hV : V < wa.heap.size) (hne : v.ownBlock ≠ some V) (hb5 : Below wa.heap.size wa w5) (hb6 : Buf w6 base v6 (cur ++ t1)) (hg6 : Grew (fun k => v.ownBlock = some k) w5 w6) (hc6 : Came w5 v v6)
    (hb8 : Below w6.heap.size w6 w8) (hb9 : Buf w9 base v9 (cur ++ t1 ++ t2)) (hg9 : Grew (fun k => v6.ownBlock = some k) w8 w9) (hc9 : Came w8 v6 v9) : OB base v9 (cur ++ (t1 ++ t2)) W0 w9 ∧ w9.heap[V]? = wa.heap[V]? ∧ v9.ownBlock ≠ some V := by
  have hz5 := hb5.size
  have hz6 := hg6.size
  have hz8 := hb8.size
  refine ⟨?_, ?_⟩
  · rw [← List.append_assoc]
    exact (((h.below hb5).app hb6 hg6).below hb8).app hb9 hg9
  · have hn6 : v6.ownBlock ≠ some V := hc6.ne hne (by omega)
    exact ⟨(hg9.block V (by omega) hn6).trans ((hb8.block V (by omega)).trans ((hg6.block V (by omega) hne).trans (hb5.block V hV))), hc9.ne hn6 (by omega)⟩

end Go.Proofs.YtemakpjickbmnaaDoor
