/- link: a name is met; what is reached from main on. -/
import Derived.Test.YtfhnmbnniklmiaaDoorBase
import Derived.Test.YtfhnmbnniklmiaaDoorRows
import Derived.IntWalk
import Derived.Deep.LoopGhost
import Derived.Deep.CutBlock
import Derived.Deep.DeepCutAuto
import Derived.Deep.RegionHeld3
import Derived.Outline
import Derived.Test.YtfhnmbnniklmiaaDoorLink5
namespace Go.Proofs.YtfhnmbnniklmiaaDoor
open Go.RowKit
set_option linter.unusedSimpArgs false
set_option linter.unusedVariables false

/-- The linker's variable: globals, sections by their names, what is reached, what is undone. -/
structure Lk (w0 w : World) (X : Nat) (gs : List Global) (G : Option Addr) (gc : Nat) (S : List Section) (base : Nat) (vo vu : Value) (st : List ByteArray × List ByteArray) : Prop where
  blk : w.heap[X + 1]? = some (.cells #[.slice G gs.length gc, .map (some X), vo, vu] 76 (0, 0))
  mp : MapSec w0 w X S.length S
  two : Two w base vo vu st
  bel : Below w0.heap.size w0 w
  low : w0.heap.size ≤ X ∧ X + 1 < base ∧ base ≤ w.heap.size
theorem Lk.below {w0 w w' : World} {X : Nat} {gs : List Global} {G : Option Addr} {gc : Nat} {S : List Section} {base : Nat} {vo vu : Value} {st : List ByteArray × List ByteArray} (h : Lk w0 w X gs G gc S base vo vu st) (hb : Below w.heap.size w w') : Lk w0 w' X gs G gc S base vo vu st :=
  ⟨(hb.block _ (blk_lt h.blk)).trans h.blk, h.mp.below hb, h.two.below hb, h.bel.trans (hb.mono h.bel.size), h.low.1, h.low.2.1, Nat.le_trans h.low.2.2 hb.size⟩
theorem four_cells {w : World} {b : Nat} {x y z u : Value} {T : TypeId} (h : w.heap[b]? = some (.cells #[x, y, z, u] T (0, 0))) : w.cell? ⟨b, 0, none⟩ = some x ∧ w.cell? ⟨b, 1, none⟩ = some y ∧ w.cell? ⟨b, 2, none⟩ = some z ∧ w.cell? ⟨b, 3, none⟩ = some u ∧ (∀ j, w.frozen? ⟨b, j, none⟩ = false) := by
  refine ⟨?_, ?_, ?_, ?_, fun j => ?_⟩ <;> simp [World.cell?, World.frozen?, h]
/-- A name more is reached. -/
theorem Lk.push1 {w0 w w3 : World} {X : Nat} {gs : List Global} {G : Option Addr} {gc : Nat} {S : List Section} {base : Nat} {vo vu : Value} {st : List ByteArray × List ByteArray} (h : Lk w0 w X gs G gc S base vo vu st) (o : Obj) (x : ByteArray) {g n cap : Nat}
    (hown : w3.ownsRow base 9 1 (.slice (some ⟨g, 0, none⟩) n cap) n (st.1.flatMap strCells ++ [.string x])) (hn : n = st.1.length + 1) (hg : (w.alloc o).grownBy w3 vo.ownBlock) (hat : vo.ownBlock = some g ∨ g = (w.alloc o).heap.size) :
    w3.heap[X + 1]? = some (.cells #[.slice G gs.length gc, .map (some X), vo, vu] 76 (0, 0)) ∧ Lk w0 (w3.setCell ⟨X + 1, 2, none⟩ (.slice (some ⟨g, 0, none⟩) n cap)) X gs G gc S base (.slice (some ⟨g, 0, none⟩) n cap) vu (st.1 ++ [x], st.2) ∧ Grew (fun b => b = X + 1 ∨ base ≤ b) w (w3.setCell ⟨X + 1, 2, none⟩ (.slice (some ⟨g, 0, none⟩) n cap)) := by
  obtain ⟨l1, l2, l3⟩ := h.low
  have hv : ∀ j, vo.ownBlock = some j → base ≤ j := fun j hj => (h.two.ord.lt j hj).1
  have hX := blk_lt h.blk
  have hb3 : w3.heap[X + 1]? = some (.cells #[.slice G gs.length gc, .map (some X), vo, vu] 76 (0, 0)) := (hg.block _ (by simp; omega) (fun e => by have := hv _ e.symm; omega)).trans (blk_alloc h.blk o)
  have hs3 := hg.size
  simp at hs3
  refine ⟨hb3, ⟨?_, ?_, ?_, ?_, l1, l2, ?_⟩, ?_⟩
  · rw [block_set hb3]
    rfl
  · refine ((h.mp.below ((Below.refl _ _).alloc (Nat.le_refl _) o)).kept hg (fun e => by have := hv _ e.symm; omega)).kept (grown_setCell _ _ _) (fun e => ?_)
    have := Option.some.inj e
    simp at this
  · exact (h.two.push1 o x hown hn hg hat).set ⟨X + 1, 2, none⟩ l2 _
  · exact ((h.bel.alloc (Nat.le_trans l1 (by omega)) o).grown hg (by simp; omega) (fun j hj => by have := hv j hj; omega)).setCell (p := ⟨X + 1, 2, none⟩) (by show _ ≤ X + 1; omega) _
  · simp [World.setCell]
    omega
  · exact (((Grew.refl _ w).alloc o).trans (Grew.of_grown hg) fun j _ e => .inr (hv j e)).setCell _ (.inl (.inl rfl)) _
/-- A name more is undone. -/
theorem Lk.push2 {w0 w w3 : World} {X : Nat} {gs : List Global} {G : Option Addr} {gc : Nat} {S : List Section} {base : Nat} {vo vu : Value} {st : List ByteArray × List ByteArray} (h : Lk w0 w X gs G gc S base vo vu st) (o : Obj) (x : ByteArray) {g n cap : Nat}
    (hown : w3.ownsRow base 9 1 (.slice (some ⟨g, 0, none⟩) n cap) n (st.2.flatMap strCells ++ [.string x])) (hn : n = st.2.length + 1) (hg : (w.alloc o).grownBy w3 vu.ownBlock) (hat : vu.ownBlock = some g ∨ g = (w.alloc o).heap.size) :
    w3.heap[X + 1]? = some (.cells #[.slice G gs.length gc, .map (some X), vo, vu] 76 (0, 0)) ∧ Lk w0 (w3.setCell ⟨X + 1, 3, none⟩ (.slice (some ⟨g, 0, none⟩) n cap)) X gs G gc S base vo (.slice (some ⟨g, 0, none⟩) n cap) (st.1, st.2 ++ [x]) ∧ Grew (fun b => b = X + 1 ∨ base ≤ b) w (w3.setCell ⟨X + 1, 3, none⟩ (.slice (some ⟨g, 0, none⟩) n cap)) := by
  obtain ⟨l1, l2, l3⟩ := h.low
  have hv : ∀ j, vu.ownBlock = some j → base ≤ j := fun j hj => (h.two.und.lt j hj).1
  have hX := blk_lt h.blk
  have hb3 : w3.heap[X + 1]? = some (.cells #[.slice G gs.length gc, .map (some X), vo, vu] 76 (0, 0)) := (hg.block _ (by simp; omega) (fun e => by have := hv _ e.symm; omega)).trans (blk_alloc h.blk o)
  have hs3 := hg.size
  simp at hs3
  refine ⟨hb3, ⟨?_, ?_, ?_, ?_, l1, l2, ?_⟩, ?_⟩
  · rw [block_set hb3]
    rfl
  · refine ((h.mp.below ((Below.refl _ _).alloc (Nat.le_refl _) o)).kept hg (fun e => by have := hv _ e.symm; omega)).kept (grown_setCell _ _ _) (fun e => ?_)
    have := Option.some.inj e
    simp at this
  · exact (h.two.push2 o x hown hn hg hat).set ⟨X + 1, 3, none⟩ l2 _
  · exact ((h.bel.alloc (Nat.le_trans l1 (by omega)) o).grown hg (by simp; omega) (fun j hj => by have := hv j hj; omega)).setCell (p := ⟨X + 1, 3, none⟩) (by show _ ≤ X + 1; omega) _
  · simp [World.setCell]
    omega
  · exact (((Grew.refl _ w).alloc o).trans (Grew.of_grown hg) fun j _ e => .inr (hv j e)).setCell _ (.inl (.inl rfl)) _

set_option maxRecDepth 100000 in
set_option maxHeartbeats 4000000 in
theorem meet_calls (w0 w : World) (X : Nat) (gs : List Global) (G : Option Addr) (gc : Nat) (S : List Section) (base : Nat) (vo vu : Value) (st : List ByteArray × List ByteArray) (h : Lk w0 w X gs G gc S base vo vu st) (nm : ByteArray) (hs : nm.size ≤ maxLen) (hl1 : st.1.length ≤ 480) (hl2 : st.2.length ≤ 3000000) (R : Ending → World → Prop)
    (hR : ∀ w' vo' vu', Lk w0 w' X gs G gc S base vo' vu' (meetL S st nm) → Grew (fun b => b = X + 1 ∨ base ≤ b) w w' → R (.returned (.tuple #[])) w') :
    Calls Tryd.prog 58 #[.pointer (some ⟨X + 1, 0, none⟩), .string nm] w R := by
  obtain ⟨iS, hiS, zS0, zS1, zS2⟩ := info_parts info_string
  obtain ⟨A8, c8, hs8⟩ := own_slice h.two.ord
  obtain ⟨A9, c9, hs9⟩ := own_slice h.two.und
  obtain ⟨yo, yu⟩ := st
  simp only [] at hs8 hs9 hl1 hl2
  subst hs8 hs9
  have HR := Lib.hid hR
  have Hh := Lib.hid h
  obtain ⟨x0, x1, x2, x3, xz⟩ := four_cells h.blk
  have hlX := blk_lt h.blk
  obtain ⟨B1, m1, d1, B2, m2, d2, nm', hlook⟩ := h.mp.look_ok hs
  have hlk0 := hlook w (Below.refl _ _)
  have hlow := h.low
  obtain ⟨W1, hW1⟩ : ∃ W1, W1 = w.alloc (Obj.cells #[.string nm', .slice B1 m1 d1, .slice B2 m2 d2] 64) := ⟨_, rfl⟩
  have hb1 : Below w.heap.size w W1 := by subst hW1; exact (by repeat (first | exact Below.refl _ _ | assumption | refine below_drewN ?_ _ | refine Below.drew ?_ | refine Below.setCell ?_ (by first | omega | (simp; done) | (simp; omega)) _ | refine Below.alloc ?_ (by first | omega | (simp; done) | (simp; omega)) _ | refine below_step (by assumption) ?_ (by first | omega | (simp; done) | (simp; omega))))
  have h1 := h.below hb1
  have HW1 := Lib.hid hW1.symm
  have H1 := Lib.hid h1
  have hgr1 : Grew (fun b => b = X + 1 ∨ base ≤ b) w W1 := (Grew.refl _ _).on hb1
  have Hgr1 := Lib.hid hgr1
  clear hR h hlook hW1 hb1 h1 hgr1
  go_enter Tryd.func58, Tryd.ntmps58
  go_upto_region 2 with fail
  rw [HW1.out]
  clear hlk0 x0 x1 x2 x3 xz
  obtain ⟨x0, x1, x2, x3, xz⟩ := four_cells H1.out.blk
  have hlX1 := blk_lt H1.out.blk
  cases hh : hasS S nm with
  | true =>
    have hmeet : meetL S (yo, yu) nm = if inB yo nm = true then (yo, yu) else (yo ++ [nm], yu) := by unfold meetL; rw [if_pos hh]
    have Hmeet := Lib.hid hmeet
    clear hmeet hh
    go_wp2_with fail
    refine ContainsStr_calls yo _ nm _ (SLstr_own H1.out.two.ord (Nat.le_refl _)) _ ?_
    cases hin : inB yo nm with
    | true =>
      have hm2 := Hmeet.out
      rw [if_pos hin] at hm2
      have hfin := Lib.hid (HR.out W1 _ _ (by rw [hm2]; exact H1.out) Hgr1.out)
      clear hm2 hin
      go_wp2
      go_end0
      exact hfin.out
    | false =>
      have hm2 := Hmeet.out
      rw [if_neg (by rw [hin]; simp)] at hm2
      have Hm2 := Lib.hid hm2
      have hW : Hid ((W1.alloc (Obj.cells #[.string nm] 9)).ownsRow base 9 1 (.slice A8 yo.length c8) yo.length (yo.flatMap strCells)) := Lib.hid (H1.out.two.ord.alloc _)
      have hbase := H1.out.low.2.2
      clear hm2 hin
      go_wp2_with (at_builtin; refine wpList_append_lies _ rfl _ _ 23 rfl base 9 iS _ 1 16 Tryd.underlying23 hiS zS0 zS1 zS2 rfl (by decide) (.slice A8 yo.length c8) yo.length (yo.flatMap strCells) rfl hW.out ⟨W1.heap.size, 0, none⟩ 1 1 [.string nm] rfl rfl ?_ ?_ (by decide) ?_ ?_ ?_ _ rfl ?_)
      any_goals (first | exact World.news_of_block (cs := #[.string nm]) (t := 9) (fr := (0, 0)) (heap_alloc_new _ _) | (simp [Value.oneCell']; done) | (unfold maxLen; omega) | omega | (simp; done) | (simp; omega))
      intro gb cap2 w7 hown7 hgrow7 hat7 hlt7
      obtain ⟨hX7, h7, hgr7⟩ := H1.out.push1 (Obj.cells #[.string nm] 9) nm hown7 rfl hgrow7 (by simpa using hat7)
      have hfin := Lib.hid (HR.out _ _ _ (by rw [Hm2.out]; exact h7) (Hgr1.out.trans hgr7 fun j _ e => e))
      clear x0 x1 x2 x3 xz
      obtain ⟨x0, x1, x2, x3, xz⟩ := four_cells hX7
      have hlX7 := blk_lt hX7
      clear hown7 hgrow7 hat7 h7 hgr7 hX7
      go_wp2
      go_end0
      exact hfin.out
  | false =>
    have hmeet : meetL S (yo, yu) nm = if inB yu nm = true then (yo, yu) else (yo, yu ++ [nm]) := by unfold meetL; rw [if_neg (by rw [hh]; simp)]
    have Hmeet := Lib.hid hmeet
    clear hmeet hh
    go_wp2_with fail
    refine ContainsStr_calls yu _ nm _ (SLstr_own H1.out.two.und (Nat.le_refl _)) _ ?_
    cases hin : inB yu nm with
    | true =>
      have hm2 := Hmeet.out
      rw [if_pos hin] at hm2
      have hfin := Lib.hid (HR.out W1 _ _ (by rw [hm2]; exact H1.out) Hgr1.out)
      clear hm2 hin
      go_wp2
      go_end0
      exact hfin.out
    | false =>
      have hm2 := Hmeet.out
      rw [if_neg (by rw [hin]; simp)] at hm2
      have Hm2 := Lib.hid hm2
      have hW : Hid ((W1.alloc (Obj.cells #[.string nm] 9)).ownsRow base 9 1 (.slice A9 yu.length c9) yu.length (yu.flatMap strCells)) := Lib.hid (H1.out.two.und.alloc _)
      have hbase := H1.out.low.2.2
      clear hm2 hin
      go_wp2_with (at_builtin; refine wpList_append_lies _ rfl _ _ 23 rfl base 9 iS _ 1 16 Tryd.underlying23 hiS zS0 zS1 zS2 rfl (by decide) (.slice A9 yu.length c9) yu.length (yu.flatMap strCells) rfl hW.out ⟨W1.heap.size, 0, none⟩ 1 1 [.string nm] rfl rfl ?_ ?_ (by decide) ?_ ?_ ?_ _ rfl ?_)
      any_goals (first | exact World.news_of_block (cs := #[.string nm]) (t := 9) (fr := (0, 0)) (heap_alloc_new _ _) | (simp [Value.oneCell']; done) | (unfold maxLen; omega) | omega | (simp; done) | (simp; omega))
      intro gb cap2 w7 hown7 hgrow7 hat7 hlt7
      obtain ⟨hX7, h7, hgr7⟩ := H1.out.push2 (Obj.cells #[.string nm] 9) nm hown7 rfl hgrow7 (by simpa using hat7)
      have hfin := Lib.hid (HR.out _ _ _ (by rw [Hm2.out]; exact h7) (Hgr1.out.trans hgr7 fun j _ e => e))
      clear x0 x1 x2 x3 xz
      obtain ⟨x0, x1, x2, x3, xz⟩ := four_cells hX7
      have hlX7 := blk_lt hX7
      clear hown7 hgrow7 hat7 h7 hgr7 hX7
      go_wp2
      go_end0
      exact hfin.out
end Go.Proofs.YtfhnmbnniklmiaaDoor
