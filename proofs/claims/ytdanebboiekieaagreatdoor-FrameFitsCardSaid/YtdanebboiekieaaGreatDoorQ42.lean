/- frame.Of: the frame of a function; the walk. FrameFits, plainly. Package frame: Leave; Picked. (printed by genff1.py out of XFk1) The document's answer: what takes a register; how often one is named in a value; within a list; taken; given. The document's answer: Given; what a register asks for. -/
import Derived.Test.YtdanebboiekieaaGreatDoorQ41
import Derived.Test.YtdanebboiekieaaGreatDoorQ01
import Derived.Test.YtdanebboiekieaaGreatDoorRows
import Derived.IntWalk
import Derived.BigRegion
import Derived.Outline
import Derived.Deep.LoopGhost
import Derived.Deep.RegionLaw
import Derived.Deep.RegionHeld3
import Derived.Deep.CutBlock
import Derived.Deep.DeepCutAuto
import Derived.Test.YtdanebboiekieaaGreatDoorQ03
import Derived.Test.YtdanebboiekieaaGreatDoorQ05
import Derived.Test.YtdanebboiekieaaGreatDoorQ06
import Derived.Test.YtdanebboiekieaaGreatDoorQ02
import Derived.Test.YtdanebboiekieaaGreatDoorQ25
import Derived.Test.YtdanebboiekieaaGreatDoorQ38
namespace Go.Proofs.YtdanebboiekieaaGreatDoor
open Go.RowKit
set_option linter.unusedSimpArgs false
set_option linter.unusedVariables false

theorem colourL_mem {f : UFun} {n : Nat} {many : Int} {C : Int → Int → Bool} {A L : Int → Bool} : (colourL f n many C A L).length = n := by
 have hfl : ∀ (xs : List Int) (pl : List Int), (xs.foldl (stepP1 f many A (rowsC C n)) pl).length = pl.length := fun xs => by
  induction xs with
  | nil => exact fun pl => rfl
  | cons x xs ih => exact fun pl => by rw [List.foldl_cons, ih]; unfold stepP1; rw [List.length_set]
 unfold colourL
 rw [hfl, List.length_replicate]
theorem ColIs_calls {u : Unt} (hu : UntI u) {k many : Int} {pl : List Int} {fl : Int × Int} (h : ColIs u k many pl fl) (gA fA : Option Addr) (gn gc fn fc : Nat) (w : World) (hW : Ways w) (hg : rpGlobal.SL w w.heap.size u.globals (.slice gA gn gc)) (hf : rpFun.SL w w.heap.size u.funcs (.slice fA fn fc)) (R : Ending → World → Prop)
 (hR : ∀ w' v, Below w.heap.size w w' → rpInt.SLF w' w.heap.size w'.heap.size pl v → R (.returned (.tuple #[v, (.agg #[.int .i64 (fl).1, .int .i64 (fl).2])])) w') :
 Calls Tryz.prog 20 #[.agg #[.slice gA gn gc, .slice fA fn fc], .int .i64 k, .int .i64 many] w R := by
 have e2 := hf.len
 subst e2
 rcases h with ⟨h1, rfl, rfl⟩ | ⟨h1, h2, rfl, rfl⟩ | ⟨j, f, n, C, A, L, rfl, hc, rfl, rfl⟩
 ·obtain ⟨⟨c, a⟩, hca⟩ : ∃ p, p = clashF u k := ⟨_, rfl⟩
  rw [← hca] at hR h1
  exact ColourBad_calls u hu k many c a hca.symm (fun e => h1 (by rw [e.1, e.2])) _ _ _ _ _ _ w hW hg hf R (fun w' hb => hR w' _ hb (Rp.SLF.nil _ _ _ _))
 ·obtain ⟨hok, j, f, rfl, hfj, hnp⟩ := clashF_zero h1
  obtain ⟨L, hL⟩ := bool_of (fun p : Nat × Nat × Int => LvI f p.2.2 p.1 p.2.1)
  obtain ⟨C, hC⟩ := bool_of (fun p : Int × Int => Clash f p.1 p.2)
  have hfo := funOk hok hfj
  obtain ⟨n, hn⟩ : ∃ n : Nat, f.regs = (n : Int) := ⟨f.regs.toNat, by have := hfo.regs; have := hfo.params; omega⟩
  exact ColourMany_calls (fun a b => C (a, b)) (fun i k r => L (i, k, r)) u hu hok j f hfj hnp (endOk_to hok hfj) n hn (fun i k r => hL (i, k, r)) (fun a b => hC (a, b)) many h2 _ _ _ _ _ w hW hg hf R (fun w' hb => hR w' _ hb (Rp.SLF.nil _ _ _ _))
 ·refine Colour_calls C L A u hu hc.ok j f hc.fn hc.np hc.tos n hc.regs hc.hL hc.hC hc.hA many hc.many _ _ _ _ _ w hW hg hf R (fun w' g hb hg hI => ?_)
  have hn1 : n ≤ 100 := by have := (funOk hc.ok hc.fn).regs.2; have := hc.regs; omega
  have hl : (colourL f n many C A (L 0 0)).length = n := colourL_mem
  refine hR w' _ hb ?_
  have hI' : IntAt g (colourL f n many C A (L 0 0)) (only w' fun k => decide (w.heap.size ≤ k)) := by
   obtain ⟨A, h1, h2⟩ := hI
   exact ⟨A, (only_heap _ _ _ (decide_eq_true hg)).trans h1, h2⟩
  have := hI'.SL (cp := n) (by rw [hl]; unfold maxLen; omega) (by rw [hl]; exact Nat.le_refl _)
  rw [hl] at this
  have h3 := Rp.SL.more this (B' := w'.heap.size) (by simp [only])
  exact h3
/-- Places that are given. -/
def placeOk (many p : Int) : Prop := p = -1 ∨ givenB many p = true ∨ (16 ≤ p ∧ p ≤ 116)
theorem slotP_in (t : Int → Bool) : 16 ≤ slotP t ∧ slotP t ≤ 116 := by
 unfold slotP
 cases hx : (List.range 101).find? fun i : Nat => !t (16 + (i : Int)) with
 | none => simp
 | some j =>
   have := List.mem_of_find?_eq_some hx
   rw [List.mem_range] at this
   simp only [Option.getD_some]
   omega
theorem paintP_ok (f : UFun) (many : Int) (ac : Bool) (row pl : List Int) (r : Int) : givenB many (paintP f many ac row pl r) = true ∨ (16 ≤ paintP f many ac row pl r ∧ paintP f many ac row pl r ≤ 116) := by
 unfold paintP
 cases hx : (asksF f pl r ++ givenL many).find? (freeB many ac row pl) with
 | none => exact .inr (slotP_in _)
 | some p =>
   left
   have := List.find?_some hx
   unfold freeB at this
   rw [Bool.and_eq_true, Bool.and_eq_true] at this
   exact this.1.1
theorem colourL_ok {f : UFun} {n : Nat} {many : Int} {C : Int → Int → Bool} {A L : Int → Bool} : ∀ p ∈ colourL f n many C A L, placeOk many p := by
 have hfl : ∀ (xs : List Int) (pl : List Int), (∀ p ∈ pl, placeOk many p) → ∀ p ∈ xs.foldl (stepP1 f many A (rowsC C n)) pl, placeOk many p := fun xs => by
  induction xs with
  | nil => exact fun pl h => h
  | cons x xs ih =>
    intro pl h
    rw [List.foldl_cons]
    refine ih _ (fun p hp => ?_)
    unfold stepP1 at hp
    rcases List.mem_or_eq_of_mem_set hp with h1 | h1
    ·exact h p h1
    ·rw [h1]
     exact .inr (paintP_ok _ _ _ _ _ _)
 unfold colourL
 refine hfl _ _ (fun p hp => ?_)
 rw [List.mem_replicate] at hp
 exact .inl hp.2
theorem givenB_in {many p : Int} (h : givenB many p = true) (hm : 2 ≤ many ∧ many ≤ 14) : 0 ≤ p ∧ p < 14 := by
 unfold givenB halfC at h
 rw [decide_eq_true_eq] at h
 split at h <;> omega
theorem colourL_small {u : Unt} {k many : Int} {pl : List Int} {fl : Int × Int} (h : ColIs u k many pl fl) : ∀ p ∈ pl, -1 ≤ p ∧ p ≤ 116 := by
 rcases h with ⟨h1, rfl, rfl⟩ | ⟨h1, h2, rfl, rfl⟩ | ⟨j, f, n, C, A, L, rfl, hc, rfl, rfl⟩
 ·intro p hp; cases hp
 ·intro p hp; cases hp
 ·intro p hp
  rcases colourL_ok p hp with h | h | h
  ·omega
  ·have := givenB_in h hc.many
   omega
  ·omega
set_option maxRecDepth 100000 in
set_option maxHeartbeats 8000000 in
theorem FrameOf_calls {u : Unt} (hu : UntI u) {k many : Int} {pl : List Int} {fl : Int × Int} (h : ColIs u k many pl fl) (gA fA : Option Addr) (gn gc fn fc : Nat) (w : World) (hW : Ways w) (hg : rpGlobal.SL w w.heap.size u.globals (.slice gA gn gc)) (hf : rpFun.SL w w.heap.size u.funcs (.slice fA fn fc)) (R : Ending → World → Prop)
 (hR : ∀ w' vs, Below w.heap.size w w' → w'.ownsRow w.heap.size 3 1 vs (savesP pl).length ((savesP pl).flatMap intCells) → R (.returned (.tuple #[.agg #[.int .i64 (spillsP pl), vs], (.agg #[.int .i64 (fl).1, .int .i64 (fl).2])])) w') :
 Calls Tryz.prog 7 #[.agg #[.slice gA gn gc, .slice fA fn fc], .int .i64 k, .int .i64 many] w R := by
 have HR := Lib.hid hR
 have Hg := Lib.hid hg
 have Hf := Lib.hid hf
 have HW := Lib.hid hW
 have HC := Lib.hid h
 have Hsm := Lib.hid (colourL_small h)
 clear hR hg hf hW h
 go_enter Tryz.func7, Tryz.ntmps7
 go_upto_region 1 with fail
 obtain ⟨W2, hW2⟩ : ∃ W2, W2 = ((w.alloc (Obj.cells #[.slice gA gn gc, .slice fA fn fc] 25)).alloc (Obj.cells #[.int .i64 0, .slice none 0 0] 28)).alloc (Obj.cells #[.int .i64 0, .int .i64 0] 30) := ⟨_, rfl⟩
 have hb2 : Below w.heap.size w W2 := by subst hW2; exact bl0
 have hU2 : W2.heap[w.heap.size]? = some (.cells #[.slice gA gn gc, .slice fA fn fc] 25 (0, 0)) := by subst hW2; exact blk_alloc (blk_alloc (heap_alloc_new _ _) _) _
 have hA2 : W2.heap[w.heap.size + 1]? = some (.cells #[.int .i64 0, .slice none 0 0] 28 (0, 0)) := by
  subst hW2
  refine blk_alloc ?_ _
  have := heap_alloc_new (w.alloc (Obj.cells #[.slice gA gn gc, .slice fA fn fc] 25)) (Obj.cells #[.int .i64 0, .slice none 0 0] 28)
  simpa using this
 have hF2 : W2.heap[w.heap.size + 2]? = some (.cells #[.int .i64 0, .int .i64 0] 30 (0, 0)) := by
  subst hW2
  have := heap_alloc_new ((w.alloc (Obj.cells #[.slice gA gn gc, .slice fA fn fc] 25)).alloc (Obj.cells #[.int .i64 0, .slice none 0 0] 28)) (Obj.cells #[.int .i64 0, .int .i64 0] 30)
  simpa using this
 rw [← hW2]
 have Hb2 := Lib.hid hb2
 have HU2 := Lib.hid hU2
 have HA2 := Lib.hid hA2
 have HF2 := Lib.hid hF2
 have hz2 := hb2.size
 obtain ⟨u0, u1⟩ := cells_blk hU2
 have lU := blk_lt hU2
 clear hW2 hb2 hU2 hA2 hF2
 go_wp2_with fail
 refine ColIs_calls hu HC.out _ _ _ _ _ _ _ (HW.out.up Hb2.out HW.out.1) (Hg.out.up Hb2.out hz2) (Hf.out.up Hb2.out hz2) _ (fun w3 v3 hb3 hsl3 => ?_)
 obtain ⟨pA, pc, rfl, _, _, hsl3⟩ := hsl3.cases_
 have Hsl3 := Lib.hid hsl3.SL
 have Hb3 := Lib.hid (Hb2.out.trans (hb3.mono hz2))
 have HA3 := Lib.hid ((hb3.block _ (blk_lt HA2.out)).trans HA2.out)
 have HF3 := Lib.hid ((hb3.block _ (blk_lt HF2.out)).trans HF2.out)
 have hz3 := Hb3.out.size
 clear hb3 u0 u1 lU hsl3
 obtain ⟨⟨c, a⟩, hca⟩ : ∃ p, p = fl := ⟨_, rfl⟩
 rw [← hca]
 dsimp only
 have Hca := Lib.hid hca
 clear hca
 obtain ⟨E, hE⟩ : ∃ E, E = w3.heap.size := ⟨_, rfl⟩
 obtain ⟨W4, hW4⟩ : ∃ W4, W4 = w3.alloc (Obj.cells #[.int .i64 c, .int .i64 a] 30) := ⟨_, rfl⟩
 have hb34 : Below w3.heap.size w3 W4 := by subst hW4; exact bl0
 have hE4 : W4.heap[E]? = some (.cells #[.int .i64 c, .int .i64 a] 30 (0, 0)) := by subst hW4 hE; exact heap_alloc_new _ _
 have Hb4 := Lib.hid (Hb3.out.trans (hb34.mono hz3))
 have HA4 := Lib.hid ((hb34.block _ (blk_lt HA3.out)).trans HA3.out)
 have HF4 := Lib.hid ((hb34.block _ (blk_lt HF3.out)).trans HF3.out)
 have Hsl4 := Lib.hid (Hsl3.out.up hb34 hb34.size)
 have HW4 := Lib.hid hW4.symm
 have HEs : Hid (w.heap.size + 2 < E) := Lib.hid (by rw [hE]; exact blk_lt HF3.out)
 have HEe := Lib.hid hE
 have HE4 := Lib.hid hE4
 clear hW4 hb34 hE4 hE
 obtain ⟨e0, e1⟩ := cells_blk HE4.out
 have lE := blk_lt HE4.out
 obtain ⟨f0, f1⟩ := cells_blk HF4.out
 have lF := blk_lt HF4.out
 obtain ⟨a0, a1⟩ := cells_blk HA4.out
 have lA := blk_lt HA4.out
 have y0 : W4.frozen? ⟨w.heap.size + 2, 0, none⟩ = false := by simp [World.frozen?, HF4.out]
 have y1 : W4.frozen? ⟨w.heap.size + 2, 1, none⟩ = false := by simp [World.frozen?, HF4.out]
 have j0 : W4.frozen? ⟨w.heap.size + 1, 0, none⟩ = false := by simp [World.frozen?, HA4.out]
 have j1 : W4.frozen? ⟨w.heap.size + 1, 1, none⟩ = false := by simp [World.frozen?, HA4.out]
 have n1 : w.heap.size + 1 ≠ E := by have := HEs.out; omega
 have n2 : E ≠ w.heap.size + 1 := by omega
 have n3 : w.heap.size + 2 ≠ E := by have := HEs.out; omega
 have n4 : E ≠ w.heap.size + 2 := by omega
 go_upto_region 2 with fail
 rw [← HEe.out, HW4.out, show w.heap.size + 1 + 1 = w.heap.size + 2 from rfl]
 rcases HC.out.code with h0 | ⟨h0, hpl⟩
 ·have e3 : (c, a) = ((0 : Int), (0 : Int)) := by rw [Hca.out]; exact h0
  injection e3 with e4 e5
  subst e4 e5
  clear h0
  rw [← Hca.out] at HR
  go_upto_region 4 with fail
  have hS0 : W4.cell? ⟨E, 0, none⟩ = some (.int .i64 0) ∧ W4.cell? ⟨E, 1, none⟩ = some (.int .i64 0) := ⟨e0, e1⟩
  clear e0 e1
  go_region_held3 (fun W : World => W.cell? ⟨E, 0, none⟩ = some (.int .i64 0) ∧ W.cell? ⟨E, 1, none⟩ = some (.int .i64 0)) (first | with_reducible exact hS0 | with_reducible exact hSy | with_reducible exact hSz | go_keep) ((go_at_call 21; refine By_calls pl _ _ (Hsl4.out.up (by exact bl0 : Below W4.heap.size W4 W4.drew) (Nat.le_refl _)) (fun p hp => by have := Hsm.out p hp; omega) _ ?_; intro wy vs hby hoy; have hb4y : Below W4.heap.size W4 wy := (by exact bl0 : Below W4.heap.size W4 W4.drew).trans hby; obtain ⟨sA, sc, hvs⟩ := own_slice hoy; subst hvs; have hAy := (hb4y.block _ lA).trans HA4.out; have hFy := (hb4y.block _ lF).trans HF4.out; have hEy := (hb4y.block _ lE).trans HE4.out; have hSy := cells_blk hEy; obtain ⟨b0, b1⟩ := cells_blk hAy; obtain ⟨d0, d1⟩ := cells_blk hFy; have lAy := blk_lt hAy; have lFy := blk_lt hFy; have z0 : wy.frozen? ⟨w.heap.size + 2, 0, none⟩ = false := (by simp [World.frozen?, hFy]); have z1 : wy.frozen? ⟨w.heap.size + 2, 1, none⟩ = false := (by simp [World.frozen?, hFy]); have z2 : wy.frozen? ⟨w.heap.size + 1, 0, none⟩ = false := (by simp [World.frozen?, hAy]); have z3 : wy.frozen? ⟨w.heap.size + 1, 1, none⟩ = false := (by simp [World.frozen?, hAy])))
  have hl0 : w.heap.size ≤ W4.heap.size := Hb4.out.size
  have hbz := below_sets ((Hb4.out.trans (hb4y.mono hl0))) [(⟨w.heap.size + 1, 0, none⟩, .int .i64 (spillsP pl)), (⟨w.heap.size + 1, 1, none⟩, .slice sA (savesP pl).length sc), (⟨w.heap.size + 2, 0, none⟩, .int .i64 0), (⟨w.heap.size + 2, 1, none⟩, .int .i64 0)] (by simp)
  have hnb : ∀ j, j < W4.heap.size → (Value.slice sA (savesP pl).length sc).ownBlock ≠ some j := fun j hj e => by
   have h1 : W4.heap.size ≤ j := (hoy.lt j e).1
   omega
  have hoz := own_setCell_other (own_setCell_other (own_setCell_other (own_setCell_other hoy (p := ⟨w.heap.size + 1, 0, none⟩) (hnb _ lA) (.int .i64 (spillsP pl))) (p := ⟨w.heap.size + 1, 1, none⟩) (hnb _ lA) (.slice sA (savesP pl).length sc)) (p := ⟨w.heap.size + 2, 0, none⟩) (hnb _ lF) (.int .i64 0)) (p := ⟨w.heap.size + 2, 1, none⟩) (hnb _ lF) (.int .i64 0)
  have Hbz := Lib.hid hbz
  have HOz := Lib.hid (ownsRow_base (B' := w.heap.size) hoz hl0)
  clear hbz hoz hnb hSy hoy hby hb4y hAy hFy hEy a0 a1 f0 f1 y0 y1 j0 j1 lA lF lE hS0
  go_wp2
  refine bodyPost_ret (v := .tuple #[.agg #[.int .i64 (spillsP pl), .slice sA (savesP pl).length sc], (.agg #[.int .i64 (((0 : Int), (0 : Int))).1, .int .i64 (((0 : Int), (0 : Int))).2])]) (by simp [results, Tryz.results7, go_sem, b0, b1, d0, d1, lAy, lFy]) rfl ?_
  exact HR.out _ _ Hbz.out HOz.out
 ·subst hpl
  have hc : ¬ c = 0 := by rw [← Hca.out] at h0; exact h0
  rw [← Hca.out] at HR
  clear h0
  have Hbl := Lib.hid (below_sets Hb4.out [(⟨w.heap.size + 1, 0, none⟩, .int .i64 0), (⟨w.heap.size + 1, 1, none⟩, .slice none 0 0), (⟨w.heap.size + 2, 0, none⟩, .int .i64 c), (⟨w.heap.size + 2, 1, none⟩, .int .i64 a)] (by simp))
  have hOz : W4.ownsRow w.heap.size 3 1 (.slice none 0 0) (savesP []).length ((savesP []).flatMap intCells) := World.ownsRow_nil _ _ _ _
  have HOz := Lib.hid (own_setCell_other (own_setCell_other (own_setCell_other (own_setCell_other hOz (p := ⟨w.heap.size + 1, 0, none⟩) (fun e => by cases e) (.int .i64 0)) (p := ⟨w.heap.size + 1, 1, none⟩) (fun e => by cases e) (.slice none 0 0)) (p := ⟨w.heap.size + 2, 0, none⟩) (fun e => by cases e) (.int .i64 c)) (p := ⟨w.heap.size + 2, 1, none⟩) (fun e => by cases e) (.int .i64 a))
  clear hOz
  go_wp2
  go_region
  go_wp2
  refine bodyPost_ret (v := .tuple #[.agg #[.int .i64 0, .slice none 0 0], (.agg #[.int .i64 ((c, a)).1, .int .i64 ((c, a)).2])]) (by simp [results, Tryz.results7, go_sem, a0, a1, f0, f1, lA, lF]) rfl ?_
  exact HR.out _ _ (Hbl.out.drew) (own_below HOz.out (by exact bl0))
end Go.Proofs.YtdanebboiekieaaGreatDoor
namespace Go.Proofs.YtdanebboiekieaaGreatDoor
open Go.RowKit
set_option linter.unusedSimpArgs false
set_option linter.unusedVariables false

theorem savesTo_len (pl : List Int) : ∀ m, (savesTo pl (6 + m)).length ≤ m
 | 0 => by rw [savesTo_six]; exact Nat.le_refl _
 | m + 1 => by
   have h := savesTo_len pl m
   rw [show 6 + (m + 1) = (6 + m) + 1 from rfl, savesTo_succ pl _ (by omega), List.length_append]
   split
   ·rw [List.length_singleton]; omega
   ·rw [List.length_nil]; omega
theorem savesP_len (pl : List Int) : (savesP pl).length ≤ 8 := savesTo_len pl 8
theorem savesP_mem {pl : List Int} {s : Int} (h : s ∈ savesP pl) : s ∈ pl ∧ 6 ≤ s ∧ s < 14 := by
 unfold savesP at h
 rw [List.mem_filter, mem_rowX, decide_eq_true_eq, decide_eq_true_eq] at h
 exact ⟨h.1.2, h.2, h.1.1.2⟩
theorem savesP_rise (pl : List Int) : (savesP pl).Pairwise (· < ·) := (rowX_sorted _ _).filter _
theorem ColIs.ok {u : Unt} {k many : Int} {pl : List Int} {fl : Int × Int} (h : ColIs u k many pl fl) : ∀ p ∈ pl, placeOk many p := by
 rcases h with ⟨h1, rfl, rfl⟩ | ⟨h1, h2, rfl, rfl⟩ | ⟨j, f, n, C, A, L, rfl, hc, rfl, rfl⟩
 ·intro p hp; cases hp
 ·intro p hp; cases hp
 ·exact colourL_ok
/-- All that the law asks of the frame of places that are told: s spilled words, the registers S kept. -/
structure Fits (many : Int) (s : Int) (S : List Int) (fl : Int × Int) : Prop where
 spills : 0 ≤ s ∧ s ≤ 101
 len : S.length ≤ 8
 rise : S.Pairwise (· < ·)
 given : ∀ x ∈ S, givenB many x = true ∧ 6 ≤ x ∧ x < 14
 bad : fl = (0, 0) ∨ (fl.1 ≠ 0 ∧ s = 0 ∧ S = [])
theorem fits {u : Unt} {k many : Int} {pl : List Int} {fl : Int × Int} (h : ColIs u k many pl fl) : Fits many (spillsP pl) (savesP pl) fl where
 spills := ⟨spillsP_nonneg _, spillsP_le (by omega) (fun p hp => by have := colourL_small h p hp; omega)⟩
 len := savesP_len pl
 rise := savesP_rise pl
 given := fun s hs => by
  obtain ⟨h1, h2, h3⟩ := savesP_mem hs
  refine ⟨?_, h2, h3⟩
  rcases h.ok s h1 with h4 | h4 | h4
  ·omega
  ·exact h4
  ·omega
 bad := by
  rcases h.code with h1 | ⟨h1, h2⟩
  ·exact .inl h1
  ·right
   refine ⟨h1, ?_, ?_⟩
   ·rw [h2]; rfl
   ·rw [h2]; rfl
theorem Fits.next {many s : Int} {S : List Int} {fl : Int × Int} (h : Fits many s S fl) {i : Nat} (hi : i + 1 < S.length) : iAt S i < iAt S (i + 1) := by
 rw [iAt_mem (by omega : i < S.length), iAt_mem hi]
 exact List.pairwise_iff_getElem.1 h.rise i (i + 1) _ hi (Nat.lt_succ_self _)
theorem Fits.at_ {many s : Int} {S : List Int} {fl : Int × Int} (h : Fits many s S fl) {i : Nat} (hi : i < S.length) : givenB many (iAt S i) = true ∧ 6 ≤ iAt S i ∧ iAt S i < 14 := by
 rw [iAt_mem hi]
 exact h.given _ (List.getElem_mem hi)
end Go.Proofs.YtdanebboiekieaaGreatDoor
namespace Go.Proofs.YtdanebboiekieaaGreatDoor
open Go.RowKit
set_option linter.unusedSimpArgs false
set_option linter.unusedVariables false

/-- What is wrong with the registers that are kept, from place k on. -/
def savesFault (xs : List Int) : Nat → Nat → Int × Int
 | 0, _ => (0, 0)
 | m + 1, i => if xs.getD i 0 < 6 ∨ 13 < xs.getD i 0 then (3, (i : Int)) else if 0 < i ∧ xs.getD i 0 ≤ xs.getD (i - 1) 0 then (5, (i : Int)) else savesFault xs m (i + 1)
def frameFault (s : Int) (xs : List Int) : Int × Int := if s < 0 ∨ 100 < s then (3, 0) else savesFault xs xs.length 0
theorem savesFault_step {xs : List Int} {k : Nat} (h : k < xs.length) : savesFault xs (xs.length - k) k = if xs.getD k 0 < 6 ∨ 13 < xs.getD k 0 then (3, (k : Int)) else if 0 < k ∧ xs.getD k 0 ≤ xs.getD (k - 1) 0 then (5, (k : Int)) else savesFault xs (xs.length - (k + 1)) (k + 1) := by
 rw [show xs.length - k = (xs.length - (k + 1)) + 1 from by omega, savesFault]
theorem savesFault_end (xs : List Int) : savesFault xs (xs.length - xs.length) xs.length = (0, 0) := by rw [Nat.sub_self, savesFault]
set_option maxHeartbeats 400000 in
theorem fault_calls (s : Int) (v : Value) (xs : List Int) (w : World) (h : rpInt.SL w w.heap.size xs v) (R : Ending → World → Prop) 
 (hR : ∀ w', Below w.heap.size w w' → R (.returned (.agg #[.int .i64 (frameFault s xs).1, .int .i64 (frameFault s xs).2])) w') :
 Calls Tryz.prog 24 #[.agg #[.int .i64 s, v]] w R := by
 by_cases h0 : 0 ≤ s ∧ s ≤ 100
 ·have he : frameFault s xs = savesFault xs xs.length 0 := by rw [frameFault, if_neg (by omega)]
  have hs : decide (0 ≤ s ∧ s ≤ 100) = true := by simp [h0]
  rw [he] at hR
  clear h0 he
  obtain ⟨A, c, rfl, hm, _, h⟩ := h.cases_
  go_enter Tryz.func24, Tryz.ntmps24
  go_wp2_with (go_at_call 38; refine Within_calls _ _ _ _ _ ?_)
  go_loop [13] (fun i => ∃ k : Nat, k ≤ xs.length ∧ i = .int .i64 k ∧ savesFault xs (xs.length - k) k = savesFault xs xs.length 0) (fun i => xs.length - (intOf i).toNat)
  case atStart => exact ⟨0, Nat.zero_le _, rfl, rfl⟩
  case round =>
   obtain ⟨k, hk, rfl, ht⟩ := hrel
   have Ht := Lib.hid ht
   clear ht
   by_cases hlt : k < xs.length
   ·obtain ⟨b, off, rfl, hb, c0⟩ := h.int_at hlt
    have Hs := Lib.hid (savesFault_step hlt)
    by_cases hw : 6 ≤ xs.getD k 0 ∧ xs.getD k 0 ≤ 13
    ·have hw' : decide (6 ≤ xs.getD k 0 ∧ xs.getD k 0 ≤ 13) = true := by simp only [decide_eq_true_eq]; exact hw
     by_cases hk0 : 0 < k
     ·obtain ⟨b', off', he, _, c1⟩ := h.int_at (k := k - 1) (by omega)
      injection he with he
      injection he with he1 he2
      subst he1 he2
      clear h
      have g1 : (0 : Int) < (k : Int) := by omega
      have b1 : (0 : Int) ≤ (k : Int) - 1 := by omega
      have b2 : (k : Int) - 1 < xs.length := by omega
      have b3 : ((k : Int) - 1).toNat = k - 1 := by omega
      have b4 : IntKind.i64.wrap ((k : Int) - 1) = (k : Int) - 1 := IntWalk.i64_in _ (by omega)
      generalize hx : xs.getD k 0 = x at *
      generalize hy : xs.getD (k-1) 0 = y at *
      clear hx hy
      go_wp2_with (first | (go_at_call 38; refine Within_calls _ _ _ _ _ ?_) | (go_at_call 39; refine Fault_calls _ _ _ _ ?_; intro w1 hb1; obtain ⟨hc1, hf1⟩ := bcell hb1))
      ·refine bodyPost_ret (v := (.agg #[.int .i64 ((5, (k : Int))).1, .int .i64 ((5, (k : Int))).2])) (by first | (simp [results, Tryz.results24, go_sem, hc1]; done) | (simp only [results, Tryz.results24]; go_simp)) rfl ?_
       rw [← Ht.out, Hs.out, if_neg (by omega), if_pos ⟨hk0, by assumption⟩] at hR
       exact hR _ bl0
      ·go_roundw
       case rel => 
        refine ⟨k + 1, by omega, by go_num, ?_⟩
        rw [← Ht.out, Hs.out, if_neg (by omega), if_neg (by omega)]
       case measure => simp [intOf]; omega
     ·have g1 : (k : Int) ≤ 0 := by omega
      clear h
      generalize hx : xs.getD k 0 = x at *
      clear hx
      go_wp2_with (first | (go_at_call 38; refine Within_calls _ _ _ _ _ ?_) | (go_at_call 39; refine Fault_calls _ _ _ _ ?_; intro w1 hb1; obtain ⟨hc1, hf1⟩ := bcell hb1))
      go_roundw
      case rel => 
       refine ⟨k + 1, by omega, by go_num, ?_⟩
       rw [← Ht.out, Hs.out, if_neg (by omega), if_neg (by omega)]
      case measure => simp [intOf]; omega
    ·have hw' : decide (6 ≤ xs.getD k 0 ∧ xs.getD k 0 ≤ 13) = false := by simp only [decide_eq_false_iff_not]; exact hw
     clear h
     generalize hx : xs.getD k 0 = x at *
     clear hx
     go_wp2_with (first | (go_at_call 38; refine Within_calls _ _ _ _ _ ?_) | (go_at_call 39; refine Fault_calls _ _ _ _ ?_; intro w1 hb1; obtain ⟨hc1, hf1⟩ := bcell hb1))
     refine bodyPost_ret (v := (.agg #[.int .i64 ((3, (k : Int))).1, .int .i64 ((3, (k : Int))).2])) (by first | (simp [results, Tryz.results24, go_sem, hc1]; done) | (simp only [results, Tryz.results24]; go_simp)) rfl ?_
     rw [← Ht.out, Hs.out, if_pos (by omega)] at hR
     exact hR _ bl0
   ·obtain rfl : k = xs.length := by omega
    rw [savesFault_end] at Ht
    go_wp2
    refine bodyPost_ret (v := (.agg #[.int .i64 ((0, 0)).1, .int .i64 ((0, 0)).2])) (by simp [results, Tryz.results24, go_sem]) rfl ?_
    rw [← Ht.out] at hR
    exact hR _ bl0
 ·have he : frameFault s xs = (3, 0) := by rw [frameFault, if_pos (by omega)]
  have hs : decide (0 ≤ s ∧ s ≤ 100) = false := by simp only [decide_eq_false_iff_not]; exact h0
  rw [he] at hR
  clear h0 he
  go_enter Tryz.func24, Tryz.ntmps24
  go_wp2_with (first | (go_at_call 38; refine Within_calls _ _ _ _ _ ?_) | (go_at_call 39; refine Fault_calls _ _ _ _ ?_; intro w1 hb1; obtain ⟨hc1, hf1⟩ := bcell hb1))
  refine bodyPost_ret (v := (.agg #[.int .i64 ((3, 0)).1, .int .i64 ((3, 0)).2])) (by first | (simp [results, Tryz.results24, go_sem, hc1]; done) | (simp only [results, Tryz.results24]; go_simp)) rfl ?_
  exact hR _ bl0
def left (s : Int) (xs : List Int) : List Mac := xs.zipIdx.map fun p => ⟨35, p.1, 0, 0, s + (p.2 : Int)⟩
theorem left_length (s : Int) (xs : List Int) : (left s xs).length = xs.length := by simp [left]
theorem left_take {s : Int} {xs : List Int} {k : Nat} (h : k < xs.length) : (left s xs).take (k + 1) = (left s xs).take k ++ [⟨35, xs.getD k 0, 0, 0, s + (k : Int)⟩] := by
 rw [List.take_succ_eq_append_getElem (by rw [left_length]; exact h)]
 simp [left, List.getD_eq_getElem?_getD, h]
def macReturn : Mac := ⟨45, 0, 0, 0, 0⟩
set_option maxHeartbeats 400000 in
theorem Leaving_calls (s : Int) (v : Value) (xs : List Int) (w : World) (h : rpInt.SL w w.heap.size xs v) (hs0 : 0 ≤ s) (hs1 : s ≤ 100) (hn : xs.length ≤ 8) (R : Ending → World → Prop) 
 (hR : ∀ w' v', Below w.heap.size w w' → w'.ownsRow w.heap.size 45 5 v' (xs.length + 1) ((left s xs ++ [macReturn]).flatMap Mac.cells) → R (.returned v') w') :
 Calls Tryz.prog 25 #[.agg #[.int .i64 s, v]] w R := by
 obtain ⟨A, c, rfl, hm, _, h⟩ := h.cases_
 obtain ⟨i0, hi, hz0, hz1, hz2⟩ := info_parts info_Mac
 go_enter Tryz.func25, Tryz.ntmps25
 go_wp2
 go_loopw [3, 9] (fun u i wr => ∃ k : Nat, k ≤ xs.length ∧ i = .int .i64 k ∧ wr.ownsRow (w.heap.size + 1) 45 5 u k (((left s xs).take k).flatMap Mac.cells) ∧ Below (w.heap.size + 1) (w.alloc (Obj.cells #[Value.int IntKind.i64 s, Value.slice A xs.length c] 28)) wr) (fun _ i _ => xs.length - (intOf i).toNat)
 case atStart => exact ⟨0, Nat.zero_le _, rfl, World.ownsRow_nil _ _ _ _, Below.refl _ _⟩
 case round =>
  obtain ⟨k, hk, rfl, hown, hbel⟩ := hrel
  have hw2 : w.heap.size + 1 ≤ wr.heap.size := by have := hbel.size; simpa using this
  have d0 : wr.cell? ⟨w.heap.size, 0, none⟩ = some (.int .i64 s) := by rw [hbel.cell (by simp)]; simp
  have ow : ∀ g, u3.ownBlock = some g → w.heap.size + 1 ≤ g := fun g hg => (hown.lt g hg).1
  by_cases hlt : k < xs.length
  ·obtain ⟨b, off, rfl, hb, c0⟩ := h.int_at hlt
   have Hs := Lib.hid (left_take (s := s) hlt)
   generalize hx : xs.getD k 0 = x at *
   clear hx h
   have d1 : wr.cell? ⟨b, off + k, none⟩ = some (.int .i64 x) := (hbel.cell (by show b < _; omega)).trans ((World.cell?_alloc_lt _ _ _ hb).trans c0)
   clear c0
   go_wp2_with (at_builtin; refine wpList_append_own _ rfl _ _ 35 rfl (w.heap.size + 1) 45 i0 _ 5 40 Tryz.underlying35 hi hz0 hz1 hz2 rfl (by decide) _ _ _ rfl (hown.alloc _) ⟨wr.heap.size, 0, none⟩ 1 1 [.int .i64 35, .int .i64 x, .int .i64 0, .int .i64 0, .int .i64 (s + k)] rfl rfl ?_ ?_ ?_ ?_ ?_ ?_)
   ·exact World.news_of_block (cs := #[.int .i64 35, .int .i64 x, .int .i64 0, .int .i64 0, .int .i64 (s + k)]) (t := 45) (fr := (0, 0)) (heap_alloc_new wr _)
   ·simp [Value.oneCell']
   ·unfold maxLen; omega
   ·omega
   ·simp; omega
   ·intro u' w1 hown1 hgrow _
    have hbel1 := (hbel.alloc hw2 _).grown hgrow (by simp; omega) ow
    clear hown hbel hgrow
    go_wp2
    go_roundw
    case rel =>
     refine ⟨k + 1, by omega, by go_num, ?_, hbel1⟩
     rw [Hs.out, List.flatMap_append]
     exact hown1
    case measure => simp [intOf]; omega
  ·obtain rfl : k = xs.length := by omega
   rw [List.take_of_length_le (by rw [left_length]; omega)] at hown
   go_wp2_with (at_builtin; refine wpList_append_own _ rfl _ _ 35 rfl (w.heap.size + 1) 45 i0 _ 5 40 Tryz.underlying35 hi hz0 hz1 hz2 rfl (by decide) _ _ _ rfl (hown.alloc _) ⟨wr.heap.size, 0, none⟩ 1 1 [.int .i64 45, .int .i64 0, .int .i64 0, .int .i64 0, .int .i64 0] rfl rfl ?_ ?_ ?_ ?_ ?_ ?_)
   ·exact World.news_of_block (cs := #[.int .i64 45, .int .i64 0, .int .i64 0, .int .i64 0, .int .i64 0]) (t := 45) (fr := (0, 0)) (heap_alloc_new wr _)
   ·simp [Value.oneCell']
   ·unfold maxLen; omega
   ·omega
   ·simp; omega
   ·intro u' w1 hown1 hgrow _
    have hbel1 := (hbel.alloc hw2 _).grown hgrow (by simp; omega) ow
    clear hown hbel hgrow
    go_wp2
    refine hR _ _ ((Below.refl _ _).alloc (Nat.le_refl _) _ |>.trans (hbel1.mono (by omega))) (ownsRow_base (B := w.heap.size + 1) ?_ (by omega))
    rw [List.flatMap_append]
    exact hown1
set_option maxHeartbeats 400000 in
theorem Leave_good (s : Int) (v : Value) (xs : List Int) (w : World) (h : rpInt.SL w w.heap.size xs v) (h1 : frameFault s xs = (0, 0)) (hs0 : 0 ≤ s) (hs1 : s ≤ 100) (hn : xs.length ≤ 8) (R : Ending → World → Prop)
 (hR : ∀ w' v', Below w.heap.size w w' → w'.ownsRow w.heap.size 45 5 v' (xs.length + 1) ((left s xs ++ [macReturn]).flatMap Mac.cells) → R (.returned (.tuple #[v', (.agg #[.int .i64 ((0, 0)).1, .int .i64 ((0, 0)).2])])) w') :
 Calls Tryz.prog 10 #[.agg #[.int .i64 s, v]] w R := by
 have hc := fault_calls s v xs
 rw [h1] at hc
 have Hc := Lib.hid hc
 have hms : Tryz.prog.eqGuardType Tryz.prog.depth 30 = false := by kernel_rfl
 have hne := neq_Fault 0 0 0 0
 rw [decide_eq_true ⟨rfl, rfl⟩] at hne
 clear hc h1
 go_enter Tryz.func10, Tryz.ntmps10
 go_wp2_with fail
 refine Hc.out _ (h.up bl0 (by first | omega | (simp; done) | (simp; omega))) _ ?_
 intro w1 hb1
 obtain ⟨hc1, hf1⟩ := bcell hb1
 have hz0 : w.heap.size < w1.heap.size := by have := hb1.size; simp at this; omega
 have hz1 : w.heap.size + 1 < w1.heap.size := by have := hb1.size; simp at this; omega
 go_wp2_with fail
 refine Leaving_calls _ _ _ _ (h.up bl0 (by first | omega | (simp; done) | (simp; omega))) hs0 hs1 hn _ ?_
 intro w2 v2 hb2 ho2
 obtain ⟨hc2, hf2⟩ := bcell hb2
 have hy : w1.heap.size < w2.heap.size := by have := hb2.size; simp at this; omega
 have hy0 : w.heap.size < w2.heap.size := by omega
 have hy1 : w.heap.size + 1 < w2.heap.size := by omega
 go_wp2
 refine bodyPost_ret (v := .tuple #[v2, (.agg #[.int .i64 ((0, 0)).1, .int .i64 ((0, 0)).2])]) (by simp [results, Tryz.results10, go_sem, hc2, hc1, hz0, hz1, hy, hy0, hy1]) rfl ?_
 exact hR _ _ bl0 (ownsRow_base (ownsRow_setCell_below (ownsRow_setCell_below ho2 (by first | omega | (simp; done) | (simp; omega)) _) (by first | omega | (simp; done) | (simp; omega)) _) (by first | omega | (simp; done) | (simp; omega)))
set_option maxHeartbeats 400000 in
theorem Picked_calls (a n : Int) (hn : 0 < n) (hm : n ≤ 1000000) (ha : I64 a) (w : World) (R : Ending → World → Prop) (hR : R (.returned (.int .i64 (a % n))) w) : Calls Tryz.prog 11 #[.int .i64 a, .int .i64 n] w R := by
 obtain ⟨h1, h2⟩ := ha
 have hne : (n == 0) = false := by simp; omega
 have hlt := Int.emod_lt_of_pos a hn
 have hge := Int.emod_nonneg a (show n ≠ 0 by omega)
 have he := @Int.tmod_eq_emod a n
 by_cases hc : 0 ≤ a ∨ n ∣ a
 ·rw [if_pos hc] at he
  have ht : a.tmod n = a % n := by omega
  generalize a % n = r at *
  have Ht := Lib.hid ht
  clear he ht hc h1 h2
  by_cases h0 : 0 ≤ a.tmod n
  ·go_enter Tryz.func11, Tryz.ntmps11
   go_wp2
   rw [← Ht.out] at hR
   exact hR
  ·have := Ht.out
   omega
 ·rw [if_neg hc] at he
  have ht : a.tmod n = a % n - n := by omega
  have hn0 : a % n ≠ 0 := fun e => hc (.inr (Int.dvd_of_emod_eq_zero e))
  generalize a % n = r at *
  have Ht := Lib.hid ht
  have h0 : a.tmod n < 0 := by omega
  have h5 : -1000000 ≤ a.tmod n := by omega
  clear he ht hc h1 h2
  go_enter Tryz.func11, Tryz.ntmps11
  go_wp2
  have e := Ht.out
  rw [show r = a.tmod n + n from by omega] at hR
  exact hR
end Go.Proofs.YtdanebboiekieaaGreatDoor
namespace Go.Proofs.YtdanebboiekieaaGreatDoor
open Go.RowKit
set_option linter.unusedSimpArgs false
set_option linter.unusedVariables false

end Go.Proofs.YtdanebboiekieaaGreatDoor
namespace Go.Proofs.YtdanebboiekieaaGreatDoor
open Go.RowKit
set_option linter.unusedSimpArgs false
set_option linter.unusedVariables false

set_option maxHeartbeats 2000000 in
theorem GivenR_calls (many : Int) (hm : 2 ≤ many ∧ many ≤ 14) (r : Int) (w : World) (R : Ending → World → Prop) (hR : R (.returned (.bool (givenB many r))) w) :
 Calls Tryz.prog 12 #[.int .i64 many, .int .i64 r] w R := by
 have HR := Lib.hid hR
 obtain ⟨c, hc⟩ : ∃ c, c = halfC many := ⟨_, rfl⟩
 have hd : givenB many r = decide ((0 ≤ r ∧ r < c) ∨ (6 ≤ r ∧ r < 6 + many - c)) := by rw [hc]; rfl
 rw [hd] at HR
 have hcc : c = if many / 2 + many % 2 > 6 then 6 else many / 2 + many % 2 := hc
 obtain ⟨h, hh⟩ : ∃ h, h = many / 2 + many % 2 := ⟨_, rfl⟩
 rw [← hh] at hcc
 have e1 : many.tdiv 2 = many / 2 := by rw [Int.tdiv_eq_ediv_of_nonneg (by omega)]
 have e2 : many.tmod 2 = many % 2 := by rw [Int.tmod_eq_emod_of_nonneg (by omega)]
 have h1 : 1 ≤ h ∧ h ≤ 7 := by omega
 obtain ⟨m0, m1⟩ := hm
 obtain ⟨z, hz⟩ : ∃ z, z = decide ((0 ≤ r ∧ r < c) ∨ (6 ≤ r ∧ r < 6 + many - c)) := ⟨_, rfl⟩
 rw [← hz] at HR
 have Hz := Lib.hid hz
 have hcb : c ≤ 6 ∧ 1 ≤ c := by split at hcc <;> omega
 have e3 : many / 2 + many % 2 = h := hh.symm
 have Hh := Lib.hid hh
 clear hR hc hd hz hh
 have hcase : (h > 6 ∧ c = 6) ∨ (¬ h > 6 ∧ c = h) := by
  by_cases h6 : h > 6
  ·rw [if_pos h6] at hcc; exact .inl ⟨h6, hcc⟩
  ·rw [if_neg h6] at hcc; exact .inr ⟨h6, hcc⟩
 have Hcb := Lib.hid hcb
 clear hcc hcb
 rcases hcase with ⟨h6, hc6⟩ | ⟨h6, hc6⟩
 ·subst hc6
  rcases (show (0 ≤ r ∧ r < 6) ∨ (0 ≤ r ∧ ¬ r < 6 ∧ 6 ≤ r ∧ r < 6 + many - 6) ∨ (0 ≤ r ∧ ¬ r < 6 ∧ 6 ≤ r ∧ ¬ r < 6 + many - 6) ∨ (¬ 0 ≤ r ∧ ¬ 6 ≤ r) by omega) with ⟨r1, r2⟩ | ⟨r1, r2, r3, r4⟩ | ⟨r1, r2, r3, r4⟩ | ⟨r1, r2⟩
  ·have hzz : z = true := by rw [Hz.out, decide_eq_true_eq]; omega
   subst hzz
   go_enter Tryz.func12, Tryz.ntmps12
   go_wp2
   exact HR.out
  ·have hzz : z = true := by rw [Hz.out, decide_eq_true_eq]; omega
   subst hzz
   go_enter Tryz.func12, Tryz.ntmps12
   go_wp2
   exact HR.out
  ·have hzz : z = false := by rw [Hz.out, decide_eq_false_iff_not]; omega
   subst hzz
   go_enter Tryz.func12, Tryz.ntmps12
   go_wp2
   exact HR.out
  ·have hzz : z = false := by rw [Hz.out, decide_eq_false_iff_not]; omega
   subst hzz
   go_enter Tryz.func12, Tryz.ntmps12
   go_wp2
   exact HR.out
 ·subst hc6
  rcases (show (0 ≤ r ∧ r < c) ∨ (0 ≤ r ∧ ¬ r < c ∧ 6 ≤ r ∧ r < 6 + many - c) ∨ (0 ≤ r ∧ ¬ r < c ∧ 6 ≤ r ∧ ¬ r < 6 + many - c) ∨ (0 ≤ r ∧ ¬ r < c ∧ ¬ 6 ≤ r) ∨ (¬ 0 ≤ r ∧ ¬ 6 ≤ r) by omega) with ⟨r1, r2⟩ | ⟨r1, r2, r3, r4⟩ | ⟨r1, r2, r3, r4⟩ | ⟨r1, r2, r3⟩ | ⟨r1, r2⟩
  ·have hzz : z = true := by rw [Hz.out, decide_eq_true_eq]; omega
   subst hzz
   go_enter Tryz.func12, Tryz.ntmps12
   go_wp2
   exact HR.out
  ·have hzz : z = true := by rw [Hz.out, decide_eq_true_eq]; omega
   subst hzz
   go_enter Tryz.func12, Tryz.ntmps12
   go_wp2
   exact HR.out
  ·have hzz : z = false := by rw [Hz.out, decide_eq_false_iff_not]; omega
   subst hzz
   go_enter Tryz.func12, Tryz.ntmps12
   go_wp2
   exact HR.out
  ·have hzz : z = false := by rw [Hz.out, decide_eq_false_iff_not]; omega
   subst hzz
   go_enter Tryz.func12, Tryz.ntmps12
   go_wp2
   exact HR.out
  ·have hzz : z = false := by rw [Hz.out, decide_eq_false_iff_not]; omega
   subst hzz
   go_enter Tryz.func12, Tryz.ntmps12
   go_wp2
   exact HR.out
end Go.Proofs.YtdanebboiekieaaGreatDoor
