/- A list that is built in a field of a variable. -/
import Derived.Test.YtcakodemngchpaaGreatDoorBase
import Derived.Test.YtcakodemngchpaaGreatDoorRows
import Derived.IntWalk
import Derived.Outline
import Derived.Test.YtcakodemngchpaaGreatDoorAppA
namespace Go.Proofs.YtcakodemngchpaaGreatDoor
open Go.RowKit
set_option linter.unusedSimpArgs false
set_option linter.unusedVariables false

/-- A list lies in a field of the variable G, which holds (put list); wl: the world when the list was begun. -/
structure Fb {β : Type} (r : Rp β) (e T : TypeId) (put : Value → Array Value) (G : Nat) (wl wi : World) (v : Value) (ys : List β) (css : List (List Value)) : Prop where
  gb : wi.heap[G]? = some (.cells (put v) T (0, 0))
  bu : Built r wl.heap.size e (fun b => b < wl.heap.size) wi v ys css
  gr : Grew (fun b => b = G) wl wi
theorem Fb.begin {β : Type} {r : Rp β} {e T : TypeId} {put : Value → Array Value} {G : Nat} {w : World} (hg : w.heap[G]? = some (.cells (put (.slice none 0 0)) T (0, 0))) : Fb r e T put G w w (.slice none 0 0) [] [] :=
  ⟨hg, Built.nil _ _ _ _ _ (fun _ h => h), Grew.refl _ _⟩
theorem Fb.take {β : Type} {r : Rp β} {e T : TypeId} {put : Value → Array Value} {G : Nat} {wl wi w' : World} {v : Value} {ys : List β} {css : List (List Value)} (h : Fb r e T put G wl wi v ys css) (hb : Below wi.heap.size wi w') : Fb r e T put G wl w' v ys css :=
  ⟨(hb.block G (blk_lt h.gb)).trans h.gb, h.bu.keep hb.size fun j hj hx => hb.block j hj, h.gr.on hb⟩
/-- A thing is appended. -/
theorem Fb.push {β : Type} {r : Rp β} {e T : TypeId} {put : Value → Array Value} {G : Nat} {wl wi w3 : World} {v : Value} {ys : List β} {css : List (List Value)} (h : Fb r e T put G wl wi v ys css) (hG : G < wl.heap.size) (o : Obj)
    {x : β} {cs : List Value} {g cap n j : Nat} (hput : ∀ a u, (put a).setIfInBounds j u = put u) (hx : Apart r (fun b => b < wl.heap.size) (wi.alloc o) v x cs)
    (hown : w3.ownsRow wl.heap.size e r.size (.slice (some ⟨g, 0, none⟩) n cap) n (css.flatten ++ cs)) (hn : n = ys.length + 1) (hg : (wi.alloc o).grownBy w3 v.ownBlock) (hat : v.ownBlock = some g ∨ g = (wi.alloc o).heap.size) :
    w3.heap[G]? = some (.cells (put v) T (0, 0)) ∧ Fb r e T put G wl (w3.setCell ⟨G, j, none⟩ (.slice (some ⟨g, 0, none⟩) n cap)) (.slice (some ⟨g, 0, none⟩) n cap) (ys ++ [x]) (css ++ [cs]) := by
  have hGl := blk_lt h.gb
  have hown0 : ∀ j, v.ownBlock = some j → wl.heap.size ≤ j := fun j hj => (h.bu.own.lt j hj).1
  have hG3 : w3.heap[G]? = some (.cells (put v) T (0, 0)) := (hg.block G (by simp; omega) (fun e => by have := hown0 _ e.symm; omega)).trans (blk_alloc h.gb o)
  have hB3 := (h.bu.alloc o).push hown hn hg hat hx
  have hgr : Grew (fun b => b = G) wl w3 := (h.gr.alloc o).trans (Grew.of_grown hg) fun j hj e => by have := hown0 _ e; omega
  refine ⟨hG3, ⟨?_, ?_, ?_⟩⟩
  · rw [block_set hG3, hput]
  · exact hB3.setCell _ hG _
  · exact hgr.setCell _ (.inl rfl) _
end Go.Proofs.YtcakodemngchpaaGreatDoor
