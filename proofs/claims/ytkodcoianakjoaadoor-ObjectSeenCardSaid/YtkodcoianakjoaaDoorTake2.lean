/- A list that is built in a field of a variable while a taker goes on. -/
import Derived.Test.YtkodcoianakjoaaDoorBase
import Derived.Test.YtkodcoianakjoaaDoorRows
import Derived.IntWalk
import Derived.Outline
import Derived.Test.YtkodcoianakjoaaDoorTake1
namespace Go.Proofs.YtkodcoianakjoaaDoor
open Go.RowKit
set_option linter.unusedSimpArgs false
set_option linter.unusedVariables false

/-- A list lies in a field of the variable G, which holds (put list); the taker lies in p; wl: the world when the list was begun. -/
structure St {β : Type} (r : Rp β) (e T : TypeId) (put : Value → Array Value) (p G : Nat) (L : List UInt8) (wl wi : World) (k : Nat) (q : Bool) (v : Value) (ys : List β) (css : List (List Value)) : Prop where
  tk : Tk wi p L k q
  gb : wi.heap[G]? = some (.cells (put v) T (0, 0))
  bu : Built r wl.heap.size e (fun b => b < wl.heap.size) wi v ys css
  gr : Grew (fun b => b = p ∨ b = G) wl wi
theorem St.begin {β : Type} {r : Rp β} {e T : TypeId} {put : Value → Array Value} {p G : Nat} {L : List UInt8} {w : World} {k : Nat} {q : Bool} (h : Tk w p L k q) (hg : w.heap[G]? = some (.cells (put (.slice none 0 0)) T (0, 0))) : St r e T put p G L w w k q (.slice none 0 0) [] [] :=
  ⟨h, hg, Built.nil _ _ _ _ _ (fun _ h => h), Grew.refl _ _⟩
theorem St.take {β : Type} {r : Rp β} {e T : TypeId} {put : Value → Array Value} {p G : Nat} {L : List UInt8} {wl wi w' : World} {k k' : Nat} {q q' : Bool} {v : Value} {ys : List β} {css : List (List Value)} (h : St r e T put p G L wl wi k q v ys css) (hpG : p < G) (hG : G < wl.heap.size)
    (hg : Grew (fun b => b = p) wi w') (ht : Tk w' p L k' q') : St r e T put p G L wl w' k' q' v ys css :=
  ⟨ht, (hg.block G (blk_lt h.gb) (by omega)).trans h.gb, h.bu.keep hg.size fun j hj hx => hg.block j hj (fun e => hx (by show j < _; omega)), h.gr.trans hg fun j _ e => .inl e⟩
theorem St.far {β : Type} {r : Rp β} {e T : TypeId} {put : Value → Array Value} {p G : Nat} {L : List UInt8} {wr wl wi : World} {k : Nat} {q : Bool} {v : Value} {ys : List β} {css : List (List Value)} (h : St r e T put p G L wl wi k q v ys css) (hg : Grew (fun b => b = p) wr wl) (hG : wr.heap.size ≤ G) : Grew (fun b => b = p) wr wi :=
  hg.trans h.gr fun j hj e => by
    rcases e with e | e
    · exact e
    · omega
theorem Apart.plain {β : Type} {r : Rp β} {X : Nat → Prop} {w : World} {v : Value} {x : β} {cs : List Value} (hr : ∀ w B, r.rep w B x cs) : Apart r X w v x cs :=
  ⟨only w fun _ => false, hr _ _, fun p u hp => by have := (only_cell hp).2; cases this⟩
/-- A thing is appended. -/
theorem St.push {β : Type} {r : Rp β} {e T : TypeId} {put : Value → Array Value} {p G : Nat} {L : List UInt8} {wl wi w3 : World} {k : Nat} {q : Bool} {v : Value} {ys : List β} {css : List (List Value)} (h : St r e T put p G L wl wi k q v ys css) (hpG : p < G) (hG : G < wl.heap.size) (o : Obj)
    {x : β} {cs : List Value} {g cap n j : Nat} (hput : ∀ a u, (put a).setIfInBounds j u = put u) (hx : Apart r (fun b => b < wl.heap.size) (wi.alloc o) v x cs)
    (hown : w3.ownsRow wl.heap.size e r.size (.slice (some ⟨g, 0, none⟩) n cap) n (css.flatten ++ cs)) (hn : n = ys.length + 1) (hg : (wi.alloc o).grownBy w3 v.ownBlock) (hat : v.ownBlock = some g ∨ g = (wi.alloc o).heap.size) :
    w3.heap[G]? = some (.cells (put v) T (0, 0)) ∧ St r e T put p G L wl (w3.setCell ⟨G, j, none⟩ (.slice (some ⟨g, 0, none⟩) n cap)) k q (.slice (some ⟨g, 0, none⟩) n cap) (ys ++ [x]) (css ++ [cs]) := by
  have hl := h.tk.lt
  have hGl := blk_lt h.gb
  have hown0 : ∀ j, v.ownBlock = some j → wl.heap.size ≤ j := fun j hj => (h.bu.own.lt j hj).1
  have hG3 : w3.heap[G]? = some (.cells (put v) T (0, 0)) := (hg.block G (by simp; omega) (fun e => by have := hown0 _ e.symm; omega)).trans (blk_alloc h.gb o)
  have hB3 := (h.bu.alloc o).push hown hn hg hat hx
  have hgr : Grew (fun b => b = p ∨ b = G) wl w3 := (h.gr.alloc o).trans (Grew.of_grown hg) fun j hj e => by have := hown0 _ e; omega
  have htk : Tk w3 p L k q := by
    obtain ⟨a, Ta, h1, h2, h3⟩ := h.tk.other ((Below.refl _ _).alloc (Nat.le_refl _) o)
    refine ⟨a, Ta, (hg.block p (by simp; omega) (fun e => by have := hown0 _ e.symm; omega)).trans h1, h2.keep fun d hd => World.cell?_of_block (hg.block _ (by simp; omega) (fun e => by have := hown0 _ e.symm; omega)), h3⟩
  refine ⟨hG3, ⟨?_, ?_, ?_, ?_⟩⟩
  · obtain ⟨a, Ta, h1, h2, h3⟩ := htk
    exact ⟨a, Ta, blk_other h1 (by omega) _, by
      exact h2.keep fun d hd => World.cell?_of_block (Below.heap_setCell _ _ _ _ (by show _ ≠ G; omega)), h3⟩
  · rw [block_set hG3, hput]
  · exact hB3.setCell _ hG _
  · exact hgr.setCell _ (.inl (.inr rfl)) _
end Go.Proofs.YtkodcoianakjoaaDoor
