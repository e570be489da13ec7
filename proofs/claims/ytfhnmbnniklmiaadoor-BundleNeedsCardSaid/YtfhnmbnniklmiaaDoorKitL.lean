/- Two rows that grow side by side: mends in a section's field, and instructions. -/
import Derived.Test.YtfhnmbnniklmiaaDoorBase
import Derived.Test.YtfhnmbnniklmiaaDoorRows
import Derived.IntWalk
import Derived.Test.YtfhnmbnniklmiaaDoorKitR
import Derived.Test.YtfhnmbnniklmiaaDoorCopyA
import Derived.Test.YtfhnmbnniklmiaaDoorAppA
namespace Go.Proofs.YtfhnmbnniklmiaaDoor
open Go.RowKit
set_option linter.unusedSimpArgs false
set_option linter.unusedVariables false

structure KSt (w4 : World) (G : Nat) (nm : ByteArray) (ms : List Mend) (os : List Mac) (wi : World) (so vm : Value) : Prop where
  gb : wi.heap[G]? = some (.cells #[.string nm, .slice none 0 0, vm] 64 (0, 0))
  mn : wi.ownsRow w4.heap.size 69 2 vm ms.length (ms.flatMap Mend.cells)
  ow : wi.ownsRow w4.heap.size 90 5 so os.length (os.flatMap Mac.cells)
  ne : ∀ g, vm.ownBlock = some g → so.ownBlock ≠ some g
  gr : Grew (fun b => b = G) w4 wi

theorem KSt.begin {w4 : World} {G : Nat} {nm : ByteArray} (h : w4.heap[G]? = some (.cells #[.string nm, .slice none 0 0, .slice none 0 0] 64 (0, 0))) : KSt w4 G nm [] [] w4 (.slice none 0 0) (.slice none 0 0) :=
  ⟨h, World.ownsRow_nil _ _ _ _, World.ownsRow_nil _ _ _ _, fun g e => (by cases e), Grew.refl _ _⟩
theorem KSt.below {w4 wi w' : World} {G : Nat} {nm : ByteArray} {ms : List Mend} {os : List Mac} {so vm : Value} (h : KSt w4 G nm ms os wi so vm) (hb : Below wi.heap.size wi w') : KSt w4 G nm ms os w' so vm :=
  ⟨(hb.block G (blk_lt h.gb)).trans h.gb, own_below h.mn hb, own_below h.ow hb, h.ne, h.gr.on hb⟩
theorem own_type {w : World} {base : Nat} {e : TypeId} {size n : Nat} {v : Value} {xs : List Value} (h : w.ownsRow base e size v n xs) {g : Nat} (hg : v.ownBlock = some g) : ∃ cur, w.heap[g]? = some (.cells cur e (0, 0)) := by
  rcases h.2 with ⟨rfl, _⟩ | ⟨g', cap, cur, rfl, _, hh, _⟩
  · cases hg
  · obtain rfl : g' = g := Option.some.inj hg
    exact ⟨cur, hh⟩
theorem KSt.setM {w4 wi : World} {G M j : Nat} {nm : ByteArray} {ms : List Mend} {os : List Mac} {so vm : Value} {a : Array Value} (h : KSt w4 G nm ms os wi so vm) (hM : wi.heap[M]? = some (.cells a 90 (0, 0))) (hs : ∀ g, so.ownBlock = some g → g < M) (hG : G < M) (hl : w4.heap.size ≤ M) (u : Value) :
    KSt w4 G nm ms os (wi.setCell ⟨M, j, none⟩ u) so vm := by
  refine ⟨blk_other h.gb (by omega) _, own_setCell_other h.mn (fun e => ?_) _, own_setCell_other h.ow (fun e => ?_) _, h.ne, h.gr.setCell _ (.inr hl) _⟩
  · obtain ⟨cur, hc⟩ := own_type h.mn e
    rw [hM] at hc
    cases hc
  · have := hs _ e
    simp at this
theorem KSt.mend {w4 wi w3 : World} {G : Nat} {nm : ByteArray} {ms : List Mend} {os : List Mac} {so vm : Value} (h : KSt w4 G nm ms os wi so vm) (hG : G < w4.heap.size) (o : Obj) (x : Mend) {g n cap : Nat}
    (hown : w3.ownsRow w4.heap.size 69 2 (.slice (some ⟨g, 0, none⟩) n cap) n (ms.flatMap Mend.cells ++ [.int .i64 x.at_, .string x.name])) (hn : n = ms.length + 1) (hg : (wi.alloc o).grownBy w3 vm.ownBlock) (hat : vm.ownBlock = some g ∨ g = (wi.alloc o).heap.size) :
    w3.heap[G]? = some (.cells #[.string nm, .slice none 0 0, vm] 64 (0, 0)) ∧ KSt w4 G nm (ms ++ [x]) os (w3.setCell ⟨G, 2, none⟩ (.slice (some ⟨g, 0, none⟩) n cap)) so (.slice (some ⟨g, 0, none⟩) n cap) := by
  have hGl := blk_lt h.gb
  have hv := h.mn.lt
  have hs := h.ow.lt
  have hG3 : w3.heap[G]? = some (.cells #[.string nm, .slice none 0 0, vm] 64 (0, 0)) := (hg.block G (by simp; omega) (fun e => by have := (hv _ e.symm).1; omega)).trans (blk_alloc h.gb o)
  have hgs : so.ownBlock ≠ some g := by
    rcases hat with e | e
    · exact h.ne g e
    · intro e'
      have := (hs _ e').2
      simp at e
      omega
  have hgg : w4.heap.size ≤ g := by
    rcases hat with e | e
    · exact (hv _ e).1
    · have := h.gr.size
      simp at e
      omega
  have how : w3.ownsRow w4.heap.size 90 5 so os.length (os.flatMap Mac.cells) := by
    refine (own_below h.ow ((Below.refl _ _).alloc (Nat.le_refl _) o)).kept hg ?_
    cases hvo : vm.ownBlock with
    | none => cases hso : so.ownBlock <;> simp
    | some k => exact .inr (h.ne k hvo)
  refine ⟨hG3, ⟨?_, ?_, own_setCell_other how (fun e => ?_) _, fun k e => ?_, ?_⟩⟩
  · rw [block_set hG3]
    rfl
  · rw [List.flatMap_append, List.length_append]
    subst hn
    exact own_setCell_other (by simpa [Mend.cells] using hown) (fun e => by
      have : g = G := Option.some.inj e
      omega) _
  · have := (hs _ e).1
    simp at this
    omega
  · obtain rfl : g = k := Option.some.inj e
    exact hgs
  · exact ((h.gr.alloc o).trans (Grew.of_grown hg) fun j hj e => by have := (hv _ e).1; omega).setCell _ (.inl rfl) _
theorem KSt.mac {w4 wi w3 : World} {G : Nat} {nm : ByteArray} {ms : List Mend} {os : List Mac} {so vm : Value} (h : KSt w4 G nm ms os wi so vm) (hG : G < w4.heap.size) (o : Obj) (x : Mac) {g n cap : Nat}
    (hown : w3.ownsRow w4.heap.size 90 5 (.slice (some ⟨g, 0, none⟩) n cap) n (os.flatMap Mac.cells ++ [.int .i64 x.op, .int .i64 x.dst, .int .i64 x.a, .int .i64 x.b, .int .i64 x.n])) (hn : n = os.length + 1) (hg : (wi.alloc o).grownBy w3 so.ownBlock) (hat : so.ownBlock = some g ∨ g = (wi.alloc o).heap.size) :
    KSt w4 G nm ms (os ++ [x]) w3 (.slice (some ⟨g, 0, none⟩) n cap) vm := by
  have hGl := blk_lt h.gb
  have hv := h.mn.lt
  have hs := h.ow.lt
  have hG3 : w3.heap[G]? = some (.cells #[.string nm, .slice none 0 0, vm] 64 (0, 0)) := (hg.block G (by simp; omega) (fun e => by have := (hs _ e.symm).1; omega)).trans (blk_alloc h.gb o)
  refine ⟨hG3, ?_, ?_, fun k e e' => ?_, ?_⟩
  · refine (own_below h.mn ((Below.refl _ _).alloc (Nat.le_refl _) o)).kept hg ?_
    cases hso : so.ownBlock with
    | none => cases hvo : vm.ownBlock <;> simp
    | some k => exact .inr (fun e => h.ne k e hso)
  · rw [List.flatMap_append, List.length_append]
    subst hn
    simpa [Mac.cells] using hown
  · obtain rfl : g = k := Option.some.inj e'
    rcases hat with e2 | e2
    · exact h.ne g e e2
    · have := (hv _ e).2
      simp at e2
      omega
  · exact (h.gr.alloc o).trans (Grew.of_grown hg) fun j hj e => by have := (hs _ e).1; omega
theorem mendName_eq (len n : Nat) (main : Bool) (nn : Nat) : mendName len n main (nn : Int) = if (decide (len ≤ nn) || decide (n ≤ nn)) = true then nameAway else if (decide (nn = 0) && main) = true then nameMain else nameF nn := by
  unfold mendName
  by_cases a1 : len ≤ nn ∨ n ≤ nn
  · rw [if_pos (show (len : Int) ≤ (nn : Int) ∨ (n : Int) ≤ (nn : Int) by omega), if_pos (by simpa using a1)]
  · rw [if_neg (show ¬ ((len : Int) ≤ (nn : Int) ∨ (n : Int) ≤ (nn : Int)) by omega), if_neg (show ¬ (decide (len ≤ nn) || decide (n ≤ nn)) = true by simpa using a1)]
    by_cases a3 : nn = 0 ∧ main = true
    · rw [if_pos (show ((nn : Int) = 0 ∧ main = true) from ⟨by omega, a3.2⟩), if_pos (by simp [a3.1, a3.2])]
    · rw [if_neg (show ¬ ((nn : Int) = 0 ∧ main = true) from fun h => a3 ⟨by omega, h.2⟩), if_neg (by simpa using a3)]
      rfl
end Go.Proofs.YtfhnmbnniklmiaaDoor
