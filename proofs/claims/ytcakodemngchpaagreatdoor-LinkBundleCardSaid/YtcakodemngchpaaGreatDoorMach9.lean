/- The machine: a run. -/
import Derived.Test.YtcakodemngchpaaGreatDoorBase
import Derived.Test.YtcakodemngchpaaGreatDoorRows
import Derived.IntWalk
import Derived.Outline
import Derived.Deep.LoopGhost
import Derived.Deep.CutBlock
import Derived.Deep.DeepCutAuto
import Derived.Deep.RegionHeld3
import Derived.Deep.RegionLaw
import Derived.Test.YtcakodemngchpaaGreatDoorMachB
import Derived.Test.YtcakodemngchpaaGreatDoorMachC
namespace Go.Proofs.YtcakodemngchpaaGreatDoor
open Go.RowKit
set_option linter.unusedSimpArgs false
set_option linter.unusedVariables false

theorem MRep.kept {w w' : World} {S : Nat → Bool} {bm P : Nat} {cs : List (List Mac)} {s : MS} {vc vm vk vi vo : Value} {bs : List Nat} (h : MRep w S bm P cs s vc vm vk vi vo bs) (hk : ∀ k, S k = true ∨ bm ≤ k → k < w.heap.size → w'.heap[k]? = w.heap[k]?) : MRep w' S bm P cs s vc vm vk vi vo bs where
  blk := (hk P (.inr h.low) h.size.1).trans h.blk
  regs := h.regs
  rows := h.rows.keep fun k ho hl => hk k (.inr (h.rows.lt ho).1) hl
  cod := h.cod.mono fun p u _ hc => only_keep (fun k h1 h2 => hk k (.inl h1) h2) p u hc
  inp := h.inp.mono fun p u _ hc => only_keep (fun k h1 h2 => hk k (.inl h1) h2) p u hc
  safe := h.safe
  low := h.low
theorem MRep.setState {w : World} {S : Nat → Bool} {bm P : Nat} {cs : List (List Mac)} {s : MS} {vc vm vk vi vo : Value} {bs : List Nat} (h : MRep w S bm P cs s vc vm vk vi vo bs) (k : Int) :
    MRep (w.setCell ⟨P, 20, none⟩ (.int .i64 k)) S bm P cs { s with st := k } vc vm vk vi vo bs := h.put rfl rfl rfl h.regs h.inp (by rw [marr_set h.regs 3]; rfl)
theorem four_blk {w : World} {b : Nat} {x y z u : Value} {T : TypeId} (h : w.heap[b]? = some (.cells #[x, y, z, u] T (0, 0))) : w.cell? ⟨b, 0, none⟩ = some x ∧ w.cell? ⟨b, 1, none⟩ = some y ∧ w.cell? ⟨b, 2, none⟩ = some z ∧ w.cell? ⟨b, 3, none⟩ = some u ∧ (∀ j, w.frozen? ⟨b, j, none⟩ = false) := by
  refine ⟨?_, ?_, ?_, ?_, fun j => ?_⟩ <;> simp [World.cell?, World.frozen?, h]
theorem res_runM {fn : Func} {t p q : Tmp} (h : fn.results = #[.tmp t, .cell p 60, .cell q 27]) {tmps : Array Value} {b b' : Nat} {w : World} {v x y z u c a : Value} {T T' : TypeId} (ht : tmps.getD t undef = v) (hp : tmps.getD p undef = .pointer (some ⟨b, 0, none⟩)) (hq : tmps.getD q undef = .pointer (some ⟨b', 0, none⟩))
    (hc : w.heap[b]? = some (.cells #[x, y, z, u] T (0, 0))) (hf : w.heap[b']? = some (.cells #[c, a] T' (0, 0))) : (results fn tmps).run Tryz.prog w = .ok (.tuple #[v, .agg #[x, y, z, u], .agg #[c, a]]) w := by
  obtain ⟨c0, c1, c2, c3, _⟩ := four_blk hc
  obtain ⟨d0, d1⟩ := cells_blk hf
  rw [Array.getD_eq_getD_getElem?] at ht hp hq
  simp [results, h, ht, hp, hq, go_sem, c0, c1, c2, c3, d0, d1]
/-- Two variables of a function's results are written. -/
def finW (w : World) (O : Nat) (x y z u : Value) : World := ((((((w.setCell ⟨O + 1, 0, none⟩ x).setCell ⟨O + 1, 1, none⟩ y).setCell ⟨O + 1, 2, none⟩ z).setCell ⟨O + 1, 3, none⟩ u).setCell ⟨O + 2, 0, none⟩ (.int .i64 0)).setCell ⟨O + 2, 1, none⟩ (.int .i64 0)).drew
theorem finW_facts {w : World} {O : Nat} {a b c d e f : Value} (x y z u : Value) (hO : w.heap[O + 1]? = some (.cells #[a, b, c, d] 60 (0, 0))) (hF : w.heap[O + 2]? = some (.cells #[e, f] 27 (0, 0))) :
    (finW w O x y z u).heap[O + 1]? = some (.cells #[x, y, z, u] 60 (0, 0)) ∧ (finW w O x y z u).heap[O + 2]? = some (.cells #[.int .i64 0, .int .i64 0] 27 (0, 0)) ∧ Grew (fun k => k = O + 1 ∨ k = O + 2) w (finW w O x y z u) := by
  refine ⟨?_, ?_, ?_⟩
  · unfold finW
    refine blk_drew (blk_other (blk_other ?_ (by omega) _) (by omega) _)
    have h1 := block_set (j := 3) (block_set (j := 2) (block_set (j := 1) (block_set (j := 0) hO x) y) z) u
    exact h1
  · unfold finW
    have h1 : (((((w.setCell ⟨O + 1, 0, none⟩ x).setCell ⟨O + 1, 1, none⟩ y).setCell ⟨O + 1, 2, none⟩ z).setCell ⟨O + 1, 3, none⟩ u)).heap[O + 2]? = some (.cells #[e, f] 27 (0, 0)) := blk_other (blk_other (blk_other (blk_other hF (by omega) _) (by omega) _) (by omega) _) (by omega) _
    exact blk_drew (blk_set1 (blk_set0 h1 _) _)
  · unfold finW
    exact (((((((Grew.refl _ w).setCell ⟨O + 1, 0, none⟩ (.inl (.inl rfl)) _).setCell ⟨O + 1, 1, none⟩ (.inl (.inl rfl)) _).setCell ⟨O + 1, 2, none⟩ (.inl (.inl rfl)) _).setCell ⟨O + 1, 3, none⟩ (.inl (.inl rfl)) _).setCell ⟨O + 2, 0, none⟩ (.inl (.inr rfl)) _).setCell ⟨O + 2, 1, none⟩ (.inl (.inr rfl)) _).drew
theorem zeroCall0 : Tryz.zeroCells148 = carr ⟨0, 0, frame0⟩ := by kernel_rfl
/-- The memory's row is another one; the machine's variable has it. -/
theorem MRep.newMem {w w7 : World} {S : Nat → Bool} {bm P : Nat} {cs : List (List Mac)} {s : MS} {vc vm vk vi vo v' : Value} {bs : List Nat} (h : MRep w S bm P cs s vc vm vk vi vo bs) (hvo : vo.ownBlock = none) {ys : List Int} {X : Nat → Prop}
    (hown : w7.ownsRow bm 3 1 v' ys.length (ys.flatMap intCells)) (hg : Grew X w w7) (hX : ∀ k, k < w.heap.size → X k → vm.ownBlock = some k) :
    w7.heap[P]? = w.heap[P]? ∧ MRep (w7.setCell ⟨P, 17, none⟩ v') S bm P cs { s with mem := ys } vc v' vk vi vo bs ∧ Below bm w (w7.setCell ⟨P, 17, none⟩ v') := by
  have hl := h.size
  have hvm : ∀ k, vm.ownBlock = some k → bm ≤ k ∧ k < w.heap.size := fun k e => h.rows.mem.lt k e
  have hP7 : w7.heap[P]? = w.heap[P]? := hg.block P hl.1 (fun e => h.notP (.inl (hX P hl.1 e)))
  have hPb : w7.heap[P]? = some (.cells (marr s vc vm vk vi vo) 152 (0, 0)) := hP7.trans h.blk
  have hold : ∀ k, k < w.heap.size → vm.ownBlock ≠ some k → k ≠ P → (w7.setCell ⟨P, 17, none⟩ v').heap[k]? = w.heap[k]? := fun k h1 h2 h3 => (Below.heap_setCell _ _ _ _ h3).trans (hg.block k h1 (fun e => h2 (hX k h1 e)))
  obtain ⟨k1, k2⟩ := h.elder (w' := w7.setCell ⟨P, 17, none⟩ v') (fun k hk => hold k (by omega) (fun e => by have := hvm k e; omega) (by have := h.low; omega))
  refine ⟨hP7, ⟨?_, h.regs, ⟨?_, ?_, ?_, h.rows.len, ?_, h.rows.once, ?_⟩, k1, k2, h.safe, h.low⟩, ⟨hg.os, hg.tape, hg.output, by simp [World.setCell]; exact hg.size, fun k hk => hold k (by omega) (fun e => by have := hvm k e; omega) (by have := h.low; omega)⟩⟩
  · rw [block_set hPb, marr_set h.regs 0]
    rfl
  · refine own_setCell_other hown (p := ⟨P, 17, none⟩) (fun e => ?_) _
    obtain ⟨A, hA⟩ := row_type hown e
    rw [hPb] at hA
    injection hA with hA
    injection hA with _ hA
    exact absurd hA (by decide)
  · exact own_keep h.rows.out fun k e hk => by rw [hvo] at e; cases e
  · exact own_keep h.rows.row fun k e hk => hold k hk (fun e2 => by
      obtain ⟨A, hA⟩ := row_type h.rows.row e
      exact row_not h.rows.mem hA (by decide) e2) (fun e2 => h.notP (.inr (.inl (by rw [e, e2]))))
  · intro i f b' h3 h4
    obtain ⟨h5, h6⟩ := h.rows.each i f b' h3 h4
    obtain ⟨n1, n2, n3, n4⟩ := h.notFrame (List.mem_iff_getElem?.2 ⟨i, h4⟩)
    exact ⟨h5, (hold b' (blk_lt h6) n2 n1).trans h6⟩
  · intro k _
    rw [hvo]
    exact fun e => by cases e

/-- What is told of each step: Met of a world and what has been met so far; Y: the blocks that it may write. -/
structure Meets (f : FuncId) (caps : Array Value) (w0 : World) (Y : Nat → Bool) (Met : World → List (Nat × Nat) → Prop) : Prop where
  enters : Enters Tryz.prog f
  low : ∀ k, Y k = true → k < w0.heap.size
  keep : ∀ (w w' : World) tr, Met w tr → w0.heap.size ≤ w.heap.size → Below w0.heap.size w w' → Met w' tr
  call : ∀ (w : World) tr (r k : Nat) (R : Ending → World → Prop), Met w tr → w0.heap.size ≤ w.heap.size → tr.length < 900000 → r ≤ 1000000 → k ≤ 1000000 → (∀ w', Met w' (tr ++ [(r, k)]) → Grew (fun j => Y j = true) w w' → R (.returned (.tuple #[])) w') → Calls Tryz.prog f (#[.int .i64 (r : Int), .int .i64 (k : Int)] ++ caps) w R
set_option maxRecDepth 100000 in
set_option maxHeartbeats 8000000 in
theorem run_calls (im : Image) (v1 v2 vi : Value) (inp : List Int) (fuel : Nat) (f : FuncId) (caps : Array Value) (Y : Nat → Bool) (Met : World → List (Nat × Nat) → Prop) (w : World) (h1 : rpGlobal.SL w w.heap.size im.globals v1) (h2 : rpRoutine.SL w w.heap.size im.routines v2) (ok : ImgOk im) (hS : Shapes w)
    (hin : rpInt.SL (only w fun k => !Y k) w.heap.size inp vi) (hfuel : fuel ≤ 900000) (hlen : inp.length ≤ 30) (hM : Meets f caps w Y Met) (hM0 : Met w []) (R : Ending → World → Prop)
    (hR : ∀ w' vc vo, Grew (fun j => Y j = true) w w' → Met w' (metM (codesI im) fuel (beginM (memI im.globals) inp)) → rpMac.slice.SLF w' w.heap.size w'.heap.size (codesI im) vc → rpInt.SLF w' w.heap.size w'.heap.size (outM (runM (codesI im) fuel (beginM (memI im.globals) inp))).out vo →
      R (.returned (.tuple #[vc, .agg #[.int .i64 (outM (runM (codesI im) fuel (beginM (memI im.globals) inp))).st, .int .i64 (outM (runM (codesI im) fuel (beginM (memI im.globals) inp))).val, vo, .int .i64 ((outM (runM (codesI im) fuel (beginM (memI im.globals) inp))).steps : Int)], .agg #[.int .i64 0, .int .i64 0]])) w') :
    Calls Tryz.prog 35 #[.agg #[v1, v2], vi, .int .i64 (fuel : Int), .func (.func f) #[] caps] w R := by
  have h0 := hS.1
  obtain ⟨A1, c1, rfl, _, _, h1⟩ := h1.cases_
  obtain ⟨A2, c2, rfl, _, hcap2, h2⟩ := h2.cases_
  obtain ⟨Ai, ci, rfl, _, hcapi, hin⟩ := hin.cases_
  have HR := Lib.hid hR
  have HSh := Lib.hid hS
  have Hok := Lib.hid ok
  have HG := Lib.hid h1
  have HT := Lib.hid h2
  have Hin := Lib.hid hin
  have HM := Lib.hid hM
  have HM0 := Lib.hid hM0
  obtain ⟨W0, hW0⟩ : ∃ W0, W0 = ((w.alloc (Obj.cells #[.slice A1 im.globals.length c1, .slice A2 im.routines.length c2] 43)).alloc (Obj.cells #[.int .i64 0, .int .i64 0, .slice none 0 0, .int .i64 0] 60)).alloc (Obj.cells #[.int .i64 0, .int .i64 0] 27) := ⟨_, rfl⟩
  have hb0 : Below w.heap.size w W0 := by subst hW0; exact bl0
  have hI : W0.heap[w.heap.size]? = some (.cells #[.slice A1 im.globals.length c1, .slice A2 im.routines.length c2] 43 (0, 0)) := by
    subst hW0
    exact blk_alloc (blk_alloc (heap_alloc_new _ _) _) _
  have hO : W0.heap[w.heap.size + 1]? = some (.cells #[.int .i64 0, .int .i64 0, .slice none 0 0, .int .i64 0] 60 (0, 0)) := by
    subst hW0
    refine blk_alloc ?_ _
    have := heap_alloc_new (w.alloc (Obj.cells #[.slice A1 im.globals.length c1, .slice A2 im.routines.length c2] 43)) (Obj.cells #[.int .i64 0, .int .i64 0, .slice none 0 0, .int .i64 0] 60)
    simpa using this
  have hF : W0.heap[w.heap.size + 2]? = some (.cells #[.int .i64 0, .int .i64 0] 27 (0, 0)) := by
    subst hW0
    have := heap_alloc_new ((w.alloc (Obj.cells #[.slice A1 im.globals.length c1, .slice A2 im.routines.length c2] 43)).alloc (Obj.cells #[.int .i64 0, .int .i64 0, .slice none 0 0, .int .i64 0] 60)) (Obj.cells #[.int .i64 0, .int .i64 0] 27)
    simpa using this
  obtain ⟨i0, i1⟩ := cells_blk hI
  have hlI := blk_lt hI
  have hlO := blk_lt hO
  have hlF := blk_lt hF
  have HW0 := Lib.hid hW0.symm
  have HlW0 : Hid (w.heap.size + 3 ≤ W0.heap.size) := Lib.hid hlF
  have Hb0 := Lib.hid hb0
  have HI := Lib.hid hI
  have HO := Lib.hid hO
  have HF := Lib.hid hF
  clear hR hS ok h1 h2 hin hM hM0 hW0 hb0 hI hO hF
  go_enter Tryz.func35, Tryz.ntmps35
  go_upto_region 1 with fail
  rw [HW0.out]
  go_wp2_with fail
  refine load_calls im _ _ _ (HG.out.up Hb0.out Hb0.out.size) (HT.out.up Hb0.out Hb0.out.size) Hok.out (HSh.out.up Hb0.out h0) _ (fun w1 vc hb1 hv => ?_)
  obtain ⟨W1, hW1⟩ : ∃ W1, W1 = w1.alloc (Obj.cells #[.int .i64 0, .int .i64 0] 27) := ⟨_, rfl⟩
  have hbW1 : Below w1.heap.size w1 W1 := by subst hW1; exact bl0
  have hE : W1.heap[w1.heap.size]? = some (.cells #[.int .i64 0, .int .i64 0] 27 (0, 0)) := by subst hW1; exact heap_alloc_new _ _
  have hbb : Below W0.heap.size W0 W1 := hb1.trans (hbW1.mono hb1.size)
  obtain ⟨e0, e1⟩ := cells_blk hE
  have hlE := blk_lt hE
  have HIW := Lib.hid ((hbb.block _ hlI).trans HI.out)
  have HOW := Lib.hid ((hbb.block _ hlO).trans HO.out)
  have HFW := Lib.hid ((hbb.block _ hlF).trans HF.out)
  have HbW := Lib.hid (Hb0.out.trans (hbb.mono Hb0.out.size))
  have Hv := Lib.hid (hv.below hbW1 (Nat.le_refl _) |>.more (Nat.le_refl _) hbW1.size)
  have hlI1 := blk_lt HIW.out
  have hlO1 := blk_lt HOW.out
  have hlF1 := blk_lt HFW.out
  obtain ⟨i0, i1⟩ := cells_blk HIW.out
  have HW1 := Lib.hid hW1.symm
  obtain ⟨Ac, nc, hvc⟩ : ∃ A n, vc = .slice A (codesI im).length n := by
    obtain ⟨A, n, e, _⟩ := Hv.out.cases_
    exact ⟨A, n, e⟩
  subst hvc
  clear hb1 hv hW1 hbW1 hE hbb
  go_upto_region 2 with fail
  rw [HW1.out]
  have f1 : ¬ (fuel : Int) < 0 := by omega
  have f2 : ¬ (900000 : Int) < (fuel : Int) := by omega
  have l1 : ¬ (30 : Int) < (inp.length : Int) := by omega
  go_upto_region 9 with fail
  obtain ⟨W2, hW2⟩ : ∃ W2, W2 = (((W1.alloc (Obj.cells Tryz.zeroCells148 148)).alloc (Obj.cells #[.pointer (some ⟨W1.heap.size, 0, none⟩)] 145)).alloc (Obj.cells (marr (beginM [] inp) (.slice Ac (codesI im).length nc) (.slice none 0 0) (.slice (some ⟨W1.heap.size + 1, 0, none⟩) 1 1) (.slice Ai inp.length ci) (.slice none 0 0)) 152)) := ⟨_, rfl⟩
  have hz2 : W2.heap.size = W1.heap.size + 3 := by subst hW2; simp
  have hbW2 : Below W1.heap.size W1 W2 := by subst hW2; exact bl0
  have hC2 : W2.heap[W1.heap.size]? = some (.cells (carr ⟨0, 0, frame0⟩) 148 (0, 0)) := by
    subst hW2
    rw [← zeroCall0]
    exact blk_alloc (blk_alloc (heap_alloc_new _ _) _) _
  have hR2 : W2.heap[W1.heap.size + 1]? = some (.cells #[.pointer (some ⟨W1.heap.size, 0, none⟩)] 145 (0, 0)) := by
    subst hW2
    refine blk_alloc ?_ _
    have := heap_alloc_new (W1.alloc (Obj.cells Tryz.zeroCells148 148)) (Obj.cells #[.pointer (some ⟨W1.heap.size, 0, none⟩)] 145)
    simpa using this
  have hP2 : W2.heap[W1.heap.size + 2]? = some (.cells (marr (beginM [] inp) (.slice Ac (codesI im).length nc) (.slice none 0 0) (.slice (some ⟨W1.heap.size + 1, 0, none⟩) 1 1) (.slice Ai inp.length ci) (.slice none 0 0)) 152 (0, 0)) := by
    subst hW2
    have := heap_alloc_new ((W1.alloc (Obj.cells Tryz.zeroCells148 148)).alloc (Obj.cells #[.pointer (some ⟨W1.heap.size, 0, none⟩)] 145)) (Obj.cells (marr (beginM [] inp) (.slice Ac (codesI im).length nc) (.slice none 0 0) (.slice (some ⟨W1.heap.size + 1, 0, none⟩) 1 1) (.slice Ai inp.length ci) (.slice none 0 0)) 152)
    simpa using this
  have HS : Hid (∀ k, (decide (k < W1.heap.size) && !Y k) = true → k < W1.heap.size) := Lib.hid fun k hk => by simp at hk; exact hk.1
  have hrep : MRep W2 (fun k => decide (k < W1.heap.size) && !Y k) W1.heap.size (W1.heap.size + 2) (codesI im) (beginM [] inp) (.slice Ac (codesI im).length nc) (.slice none 0 0) (.slice (some ⟨W1.heap.size + 1, 0, none⟩) 1 1) (.slice Ai inp.length ci) (.slice none 0 0) [W1.heap.size] := by
    refine ⟨hP2, by simp [beginM], ⟨World.ownsRow_nil _ _ _ _, World.ownsRow_nil _ _ _ _, ?_, rfl, ?_, by simp, fun k e => by cases e⟩, ?_, ?_, HS.out, by omega⟩
    · exact ⟨rfl, .inr ⟨W1.heap.size + 1, 1, _, rfl, by omega, hR2, Nat.le_refl _, by unfold maxLen; omega, rfl, rfl⟩⟩
    · intro i fr b h3 h4
      cases i with
      | zero =>
        simp [beginM] at h3 h4
        subst h3 h4
        exact ⟨Nat.le_refl _, hC2⟩
      | succ i => simp at h4
    · refine Rp.SL.mono (show rpMac.slice.SL _ W1.heap.size (codesI im) _ from Hv.out) fun p u _ hc => ?_
      obtain ⟨c3, c4⟩ := only_cell hc
      have hl3 := World.block_lt_of_cell? W1 _ c3
      have hnY : Y p.block = false := by
        cases hy : Y p.block
        · rfl
        · have := HM.out.low _ hy
          have := Hb0.out.size
          simp at c4
          omega
      rw [only_cell_of _ _ _ (by simp [hl3, hnY])]
      exact (hbW2.cell hl3).trans c3
    · refine Rp.SL.more (Rp.SL.mono Hin.out fun p u _ hc => ?_) HbW.out.size
      obtain ⟨c3, c4⟩ := only_cell hc
      have hl3 := World.block_lt_of_cell? w _ c3
      have hl4 : p.block < W1.heap.size := Nat.lt_of_lt_of_le hl3 HbW.out.size
      have hnY : Y p.block = false := by simpa using c4
      rw [only_cell_of _ _ _ (by simp [hl4, hnY])]
      exact (hbW2.cell hl4).trans ((HbW.out.cell hl3).trans c3)
  have HW2 := Lib.hid hW2.symm
  have i02 := (World.cell?_of_block (hbW2.block _ hlI1)).trans i0
  have hlI2 : w.heap.size < W2.heap.size := by omega
  have HbW2 := Lib.hid hbW2
  have Hrep := Lib.hid hrep
  have Hz2 := Lib.hid hz2
  clear hW2 hbW2 hC2 hR2 hP2 hrep hz2 i0 i1 e0 e1 hlE
  change Code.wp _ _ _ _ (((W1.alloc (Obj.cells Tryz.zeroCells148 148)).alloc (Obj.cells #[.pointer (some ⟨W1.heap.size, 0, none⟩)] 145)).alloc (Obj.cells (marr (beginM [] inp) (.slice Ac (codesI im).length nc) (.slice none 0 0) (.slice (some ⟨W1.heap.size + 1, 0, none⟩) 1 1) (.slice Ai inp.length ci) (.slice none 0 0)) 152))
  rw [HW2.out]
  go_wp2_with fail
  go_loopg [15, 52] im.globals.length (fun gh s15 s52 wr => ∃ (k : Nat) (vm : Value), k ≤ im.globals.length ∧ gh = im.globals.length - k ∧ s52 = .int .i64 (k : Int) ∧ Below W1.heap.size W2 wr ∧ MRep wr (fun k => decide (k < W1.heap.size) && !Y k) W1.heap.size (W1.heap.size + 2) (codesI im) (beginM (memI (im.globals.take k)) inp) (.slice Ac (codesI im).length nc) vm (.slice (some ⟨W1.heap.size + 1, 0, none⟩) 1 1) (.slice Ai inp.length ci) (.slice none 0 0) [W1.heap.size])
  case atStart => exact ⟨0, _, Nat.zero_le _, rfl, rfl, Below.refl _ _, Hrep.out⟩
  case round =>
    obtain ⟨k, vm, hk, rfl, rfl, hbel, hrep⟩ := hrel
    have hz := hbel.size
    have k0 : (0 : Int) ≤ (k : Int) := Int.natCast_nonneg _
    have hbw : Below w.heap.size w wr := HbW.out.trans ((HbW2.out.trans hbel).mono HbW.out.size)
    have Hbel := Lib.hid hbel
    have Hrepk := Lib.hid hrep
    have hPr := hrep.size.1
    have cm := hrep.cells.mem
    have zP := hrep.cells.free
    have i02r := (World.cell?_of_block (hbel.block _ (by omega))).trans i02
    clear i02 hrep
    by_cases hlt : k < im.globals.length
    · obtain ⟨b, off, g, v1, rfl, hb, e, hg1, q0, q1, q2⟩ := HG.out.global_at hlt
      obtain ⟨A5, c5, rfl, _, hcap5, hg1⟩ := hg1.cases_
      have p0 := (hbw.cell (p := ⟨b, off + k * 3, none⟩) hb).trans q0
      have p1 := (hbw.cell (p := ⟨b, off + k * 3 + 1, none⟩) hb).trans q1
      have p2 := (hbw.cell (p := ⟨b, off + k * 3 + 2, none⟩) hb).trans q2
      obtain ⟨_, hgok⟩ := globFault_ok Hok.out.glob
      have hgl := hgok g (List.mem_of_getElem? e)
      obtain ⟨kz, hkz⟩ : ∃ kz : Nat, (kz : Int) = g.size - (g.init.length : Int) := ⟨(g.size - (g.init.length : Int)).toNat, by have := hgl.fits; omega⟩
      have hfew : (memI im.globals).length ≤ 200 := memI_few Hok.out.glob
      have hst := memI_step e
      rw [show (g.size - (g.init.length : Int)).toNat = kz from by omega] at hst
      have hst2 : (memI (im.globals.take (k + 1))).length ≤ 200 := by
        have : (memI im.globals).length = (memI (im.globals.take (k + 1))).length + (memI (im.globals.drop (k + 1))).length := by
          rw [← List.length_append]
          unfold memI
          rw [← List.flatMap_append, List.take_append_drop]
        omega
      rw [hst] at hst2
      simp only [List.length_append, List.length_replicate] at hst2
      obtain ⟨Wg, hWg⟩ : ∃ Wg, Wg = wr.alloc (Obj.cells #[.string g.name, .int .i64 g.size, .slice A5 g.init.length c5] 118) := ⟨_, rfl⟩
      have hbWg : Below wr.heap.size wr Wg := by subst hWg; exact bl0
      have hGg : Wg.heap[wr.heap.size]? = some (.cells #[.string g.name, .int .i64 g.size, .slice A5 g.init.length c5] 118 (0, 0)) := by subst hWg; exact heap_alloc_new _ _
      have hrg := (Hrepk.out.below hbWg (Nat.le_refl _)).drew
      have hSLg : rpInt.SL Wg.drew Wg.drew.heap.size g.init (.slice A5 g.init.length c5) := hg1.up (hbw.trans ((hbWg.drew).mono hbw.size)) (Nat.le_trans hbw.size hbWg.size)
      obtain ⟨v5, w5, hrun5, hown5, hgrow5, hcame5⟩ := run_append_ints hrg.rows.mem (by exact hSLg) (by simp only [beginM]; omega) (by have := hrg.size.2; exact this) 31
      simp only [beginM] at hrun5 hown5
      have hown5' : w5.ownsRow W1.heap.size 3 1 v5 (memI (im.globals.take k) ++ g.init).length ((memI (im.globals.take k) ++ g.init).flatMap intCells) := by rw [List.length_append]; exact hown5
      obtain ⟨v6, w6, hrun6, hown6, hgrow6⟩ := run_append_zeros hown5' kz (by simp only [List.length_append]; omega) (Nat.le_trans (by have := hrg.size.2; exact this) hgrow5.size) 31
      rw [hkz] at hrun6
      have hlg := blk_lt hGg
      have hnmg : vm.ownBlock ≠ some wr.heap.size := row_not hrg.rows.mem (w := Wg.drew) (blk_drew hGg) (by decide)
      have hG5 : w5.heap[wr.heap.size]? = some (.cells #[.string g.name, .int .i64 g.size, .slice A5 g.init.length c5] 118 (0, 0)) := (hgrow5.block _ hlg (fun e => hnmg e.symm)).trans (blk_drew hGg)
      have hgr6 : Grew (fun j => vm.ownBlock = some j) Wg.drew w6 := (Grew.of_grown hgrow5).trans (Grew.of_grown hgrow6) (fun j hj e => by
        rcases hcame5 j e with h | h
        · exact h
        · have hj' : j < Wg.heap.size := hj
          have h' : j = Wg.heap.size := h
          omega)
      have hown6' : w6.ownsRow W1.heap.size 3 1 v6 (memI (im.globals.take (k + 1))).length ((memI (im.globals.take (k + 1))).flatMap intCells) := by
        rw [hst]
        simpa [Nat.add_assoc] using hown6
      obtain ⟨hP6, hrep6, hbel6⟩ := hrg.newMem rfl hown6' hgr6 (fun _ _ h => h)
      have hP6b := hP6.trans hrg.blk
      have hbel6' : Below W1.heap.size W2 (w6.setCell ⟨W1.heap.size + 2, 17, none⟩ v6) := Hbel.out.trans (((hbWg.mono Hrepk.out.size.2).drew).trans hbel6)
      have hc6 : w6.cell? ⟨W1.heap.size + 2, 17, none⟩ = some vm := by rw [blk_cell hP6b]; exact marr_get hrg.regs 0
      have hz6 : w6.frozen? ⟨W1.heap.size + 2, 17, none⟩ = false := by simp [World.frozen?, hP6b]
      have hl6 := blk_lt hP6b
      have cg0 : Wg.cell? ⟨wr.heap.size, 0, none⟩ = some (.string g.name) := by rw [blk_cell hGg]; rfl
      have cg1 : Wg.cell? ⟨wr.heap.size, 1, none⟩ = some (.int .i64 g.size) := by rw [blk_cell hGg]; rfl
      have cg2 : Wg.cell? ⟨wr.heap.size, 2, none⟩ = some (.slice A5 g.init.length c5) := by rw [blk_cell hGg]; rfl
      have cg3 : w5.cell? ⟨wr.heap.size, 1, none⟩ = some (.int .i64 g.size) := by rw [blk_cell hG5]; rfl
      have cg4 : w5.cell? ⟨wr.heap.size, 2, none⟩ = some (.slice A5 g.init.length c5) := by rw [blk_cell hG5]; rfl
      have cmg : Wg.cell? ⟨W1.heap.size + 2, 17, none⟩ = some vm := (hbWg.cell (p := ⟨W1.heap.size + 2, 17, none⟩) hPr).trans cm
      have hG6 : w6.heap[wr.heap.size]? = some (.cells #[.string g.name, .int .i64 g.size, .slice A5 g.init.length c5] 118 (0, 0)) := (hgr6.block _ hlg hnmg).trans (blk_drew hGg)
      have cg5 : w6.cell? ⟨wr.heap.size, 1, none⟩ = some (.int .i64 g.size) := by rw [blk_cell hG6]; rfl
      have cg6 : w6.cell? ⟨wr.heap.size, 2, none⟩ = some (.slice A5 g.init.length c5) := by rw [blk_cell hG6]; rfl
      have hP5 : w5.heap[W1.heap.size + 2]? = Wg.drew.heap[W1.heap.size + 2]? := hgrow5.block _ hrg.size.1 (fun e => hrg.notP (.inl e.symm))
      have hP5b := hP5.trans hrg.blk
      have cm5 : w5.cell? ⟨W1.heap.size + 2, 17, none⟩ = some vm := by rw [blk_cell hP5b]; exact marr_get hrg.regs 0
      have hz5 : w5.frozen? ⟨W1.heap.size + 2, 17, none⟩ = false := by simp [World.frozen?, hP5b]
      have hlP5 := blk_lt hP5b
      have hzg : Wg.frozen? ⟨W1.heap.size + 2, 17, none⟩ = false := hrg.cells.free 17
      have hlPg : W1.heap.size + 2 < Wg.heap.size := Nat.lt_of_lt_of_le hPr hbWg.size
      have hlg5 := blk_lt hG5
      have k1 : (k : Int) < (im.globals.length : Int) := by omega
      have gs0 := hgl.low
      have gs1 := hgl.high
      have gs2 := hgl.fits
      obtain ⟨A7, c7, rfl⟩ := own_slice hown5'
      obtain ⟨A8, c8, rfl⟩ := own_slice hown6'
      have HWg := Lib.hid hWg.symm
      have Hrun5 := Lib.hid hrun5
      have Hrun6 := Lib.hid hrun6
      have Hrep6 := Lib.hid hrep6
      have Hbel6 := Lib.hid hbel6'
      clear hG6 hP5 hP5b hWg hbWg hGg hrg hSLg hrun5 hown5 hgrow5 hcame5 hown5' hrun6 hown6 hgrow6 hnmg hG5 hgr6 hown6' hP6 hrep6 hbel6 hP6b hbel6' hst hst2 hgl hgok e q0 q1 q2 hg1 hkz hfew
      have hwr : IntKind.i64.wrap (g.size - (g.init.length : Int)) = g.size - (g.init.length : Int) := IntWalk.i64_in _ (by omega)
      go_upto_region 12 with fail
      rw [HWg.out]
      clear p0 p1 p2 cm zP cg5 cg6 cm5 hz5 hlP5
      go_region_law (first
        | (refine step_append_known rfl (.tmp 60) (.tmp 62) 31 31 rfl (by simp [Act.eval, Act.put]) (by simp [Act.eval, Act.put]) Hrun5.out ?_)
        | (refine step_append_known rfl (.tmp 63) (.tmp 69) 31 3 rfl (by simp [Act.eval, Act.put]) (by simp [Act.eval, Act.put, hwr]) Hrun6.out ?_))
      all_goals
        go_wp2
        go_roundg (im.globals.length - (k + 1))
        case measure => omega
        case rel => exact ⟨k + 1, _, hlt, rfl, by go_num, Hbel6.out, Hrep6.out⟩
    · obtain rfl : k = im.globals.length := by omega
      rw [List.take_length] at Hrepk
      have k1 : ¬ (im.globals.length : Int) < (im.globals.length : Int) := by omega
      clear cm zP i02r
      have HOr : Hid (wr.heap[w.heap.size + 1]? = some (.cells #[.int .i64 0, .int .i64 0, .slice none 0 0, .int .i64 0] 60 (0, 0))) := Lib.hid (((hbel.block _ hlO1).trans (HbW2.out.block _ hlO1)).trans HOW.out)
      have HFr : Hid (wr.heap[w.heap.size + 2]? = some (.cells #[.int .i64 0, .int .i64 0] 27 (0, 0))) := Lib.hid (((hbel.block _ hlF1).trans (HbW2.out.block _ hlF1)).trans HFW.out)
      have HM0r := Lib.hid (HM.out.keep _ _ _ HM0.out (Nat.le_refl _) hbw)
      have Hbwr := Lib.hid hbw
      have Hcok := Lib.hid (img_codes Hok.out)
      have Hinv0 := Lib.hid (MInv.begin Hcok.out (inp := inp) (memI_few Hok.out.glob))
      obtain ⟨s0, hs0⟩ : ∃ s0, s0 = beginM (memI im.globals) inp := ⟨_, rfl⟩
      rw [← hs0] at Hrepk Hinv0
      have Hs0 : Hid (s0.steps = 0) := Lib.hid (by rw [hs0]; rfl)
      have hcf := HM.out.enters.run
      have HR0 : Hid (∀ w' vc vo, Grew (fun j => Y j = true) w w' → Met w' (metM (codesI im) fuel s0) → rpMac.slice.SLF w' w.heap.size w'.heap.size (codesI im) vc → rpInt.SLF w' w.heap.size w'.heap.size (outM (runM (codesI im) fuel s0)).out vo →
        R (.returned (.tuple #[vc, .agg #[.int .i64 (outM (runM (codesI im) fuel s0)).st, .int .i64 (outM (runM (codesI im) fuel s0)).val, vo, .int .i64 ((outM (runM (codesI im) fuel s0)).steps : Int)], .agg #[.int .i64 0, .int .i64 0]])) w') := Lib.hid (by rw [hs0]; exact HR.out)
      have Hbms : Hid (∀ k, Y k = true → k < w.heap.size) := Lib.hid HM.out.low
      have Hwbm : Hid (w.heap.size + 3 ≤ W1.heap.size) := Lib.hid (by omega)
      have HbW1m := Lib.hid (HbW2.out.trans hbel)
      obtain ⟨wm, rfl⟩ : ∃ x, x = wr := ⟨_, rfl⟩
      clear hbel hs0 hbw hlI1 hlO1 hlF1 hlI2 hPr
      go_wp2_with fail
      go_loopg [] fuel (fun gh wq => ∃ (j : Nat) (s : MS) (vm vk vi vo : Value) (bs : List Nat), j ≤ fuel ∧ gh = fuel - j ∧ Hid (s = runM (codesI im) j s0) ∧ s.steps = j ∧ MRep wq (fun k => decide (k < W1.heap.size) && !Y k) W1.heap.size (W1.heap.size + 2) (codesI im) s (.slice Ac (codesI im).length nc) vm vk vi vo bs ∧ Hid (Met wq (metM (codesI im) j s0)) ∧ Hid (MInv (codesI im) s) ∧ Hid (Grew (fun k => Y k = true ∨ W1.heap.size ≤ k) wm wq))
      case atStart => exact ⟨0, s0, _, _, _, _, _, Nat.zero_le _, rfl, Lib.hid rfl, Hs0.out, Hrepk.out, HM0r, Hinv0, Lib.hid (Grew.refl _ _)⟩
      case round =>
        obtain ⟨j, s, vm2, vk, vi, vo, bs, hj, rfl, Hs, hst, hrep, Hmet, Hinv, Hgr⟩ := hrel
        have C := hrep.cells
        have co := C.over
        have cst := C.steps
        have z := C.free
        have hlP := hrep.size.1
        have Hrep2 := Lib.hid hrep
        have j0 : (0 : Int) ≤ (j : Int) := Int.natCast_nonneg _
        rw [hst] at cst
        have Hst := Lib.hid hst
        clear hrep C hst
        by_cases hgo : s.over = false ∧ j < fuel
        · obtain ⟨ho, hjl⟩ := hgo
          rw [ho] at co
          have jl : (j : Int) < (fuel : Int) := by omega
          have hcal := Hinv.out.calls ho
          obtain ⟨c, r, hcr⟩ : ∃ c r, s.calls = c :: r := by
            cases hx : s.calls with
            | nil => exact absurd hx hcal
            | cons c r => exact ⟨c, r, rfl⟩
          have Hov : Hid ((runM (codesI im) j s0).over = false) := Lib.hid (by rw [← Hs.out]; exact ho)
          have Hrun : Hid (stepM (codesI im) s = runM (codesI im) (j + 1) s0) := Lib.hid (by rw [runM_more j s0 Hov.out, ← Hs.out])
          have Hmets : Hid (metM (codesI im) (j + 1) s0 = metM (codesI im) j s0 ++ [(c.rt, c.pc)]) := Lib.hid (metM_more j s0 c r Hov.out (by rw [← Hs.out]; exact hcr))
          have Hst2 : Hid ((stepM (codesI im) s).steps = j + 1) := Lib.hid (by rw [stepM_steps hcal, Hst.out])
          have Hinv2 := Lib.hid (Hinv.out.step Hcok.out)
          have Hmlen : Hid ((metM (codesI im) j s0).length < 900000) := Lib.hid (by have := metM_len (codesI im) j s0; omega)
          have hstl : s.steps < 900000 := by rw [Hst.out]; omega
          have Hstl := Lib.hid hstl
          have Hcr := Lib.hid hcr
          clear ho hcal hcr hstl
          go_wp2_with fail
          refine step_calls Hrep2.out Hinv.out Hcok.out Hcr.out Hstl.out _ (fun w5 vk5 vi5 vo5 bs5 hb5 h5 => ?_)
          have Hm5 := Lib.hid (HM.out.keep _ _ _ Hmet.out (by have := Hrep2.out.size.2; have := Hwbm.out; omega) (hb5.mono (by have := Hwbm.out; omega)))
          have hs5 : w.heap.size ≤ w5.heap.size := by have := Hrep2.out.size.2; have := Hwbm.out; have := hb5.size; omega
          have hgr5 : Grew (fun k => Y k = true ∨ W1.heap.size ≤ k) wm w5 := Hgr.out.trans (Grew.of_below (X := fun k => Y k = true ∨ W1.heap.size ≤ k) hb5 (fun k h1 _ => .inr h1)) (fun _ _ h => h)
          have H5 := Lib.hid h5
          have Hgr5 := Lib.hid hgr5
          clear hb5 h5 hgr5 co cst
          have hfo := Hinv.out.each c (by rw [Hcr.out]; exact List.mem_cons_self ..)
          have hrt6 : c.rt ≤ 1000000 := by have := Hcok.out.few; have := hfo.rt; omega
          have hpc6 : c.pc ≤ 1000000 := by
            have h1 := hfo.pc
            rw [List.getD_eq_getElem?_getD, List.getElem?_eq_getElem hfo.rt] at h1
            have h2 := (Hcok.out.each c.rt _ (List.getElem?_eq_getElem hfo.rt)).few
            have h3 : c.pc < ((codesI im)[c.rt]'hfo.rt).length := h1
            omega
          have Hrt6 := Lib.hid hrt6
          have Hpc6 := Lib.hid hpc6
          clear hfo hrt6 hpc6
          go_wp2_with fail
          refine HM.out.call w5 _ c.rt c.pc _ Hm5.out hs5 Hmlen.out Hrt6.out Hpc6.out (fun w6 hm6 hg6 => ?_)
          have h6 := H5.out.kept (w' := w6) (fun k hk hl => hg6.block k hl (fun hy => by
            rcases hk with hk | hk
            · simp [hy] at hk
            · have := Hbms.out k hy; have := Hwbm.out; omega))
          have hgr6 : Grew (fun k => Y k = true ∨ W1.heap.size ≤ k) wm w6 := Hgr5.out.trans hg6 (fun _ _ h => .inl h)
          have H6 := Lib.hid h6
          have Hgr6 := Lib.hid hgr6
          have Hm6 := Lib.hid hm6
          clear h6 hgr6 hm6 hg6
          go_wp2
          go_roundg (fuel - (j + 1))
          case measure => omega
          case rel => exact ⟨j + 1, stepM (codesI im) s, _, _, _, _, _, hjl, rfl, Lib.hid Hrun.out, Hst2.out, H6.out, Lib.hid (by rw [Hmets.out]; exact Hm6.out), Hinv2, Hgr6⟩
        · have hF : s.over = true ∨ (s.over = false ∧ j = fuel) := by
            cases hx : s.over
            · exact .inr ⟨rfl, by
                rcases Nat.lt_or_ge j fuel with h | h
                · exact absurd ⟨hx, h⟩ hgo
                · omega⟩
            · exact .inl rfl
          have HSF : Hid (s = runM (codesI im) fuel s0 ∧ metM (codesI im) j s0 = metM (codesI im) fuel s0) := Lib.hid (by
            rcases hF with h | ⟨_, h⟩
            · have hov : (runM (codesI im) j s0).over = true := by rw [← Hs.out]; exact h
              exact ⟨by rw [runM_stop j fuel s0 hov hj]; exact Hs.out, (metM_stop j fuel s0 hov hj).symm⟩
            · subst h
              exact ⟨Hs.out, rfl⟩)
          have hnO : ∀ k, w.heap.size ≤ k → k < W1.heap.size → ¬ (Y k = true ∨ W1.heap.size ≤ k) := fun k h1 h2 h => by
            rcases h with h | h
            · have := Hbms.out k h; omega
            · omega
          have hOr := (Hgr.out.block _ (blk_lt HOr.out) (hnO _ (by omega) (by have := Hwbm.out; omega))).trans HOr.out
          have hFr := (Hgr.out.block _ (blk_lt HFr.out) (hnO _ (by omega) (by have := Hwbm.out; omega))).trans HFr.out
          obtain ⟨o0, o1, o2, o3, oz⟩ := four_blk hOr
          obtain ⟨f0, f1, z0, z1⟩ := cells_of_block hFr
          have hlO := blk_lt hOr
          have hlF := blk_lt hFr
          have hneO : w.heap.size + 1 ≠ W1.heap.size + 2 := by have := Hwbm.out; omega
          have hneF : w.heap.size + 2 ≠ W1.heap.size + 2 := by have := Hwbm.out; omega
          obtain ⟨Ao, no, hvo⟩ := own_slice Hrep2.out.rows.out
          subst hvo
          have cv := Hrep2.out.cells.val
          have cx := Hrep2.out.cells.out
          have cst2 := Hrep2.out.cells.st
          have HEnd : Hid (∀ (wq : World) (s' : MS) (st : Int), MRep wq (fun k => decide (k < W1.heap.size) && !Y k) W1.heap.size (W1.heap.size + 2) (codesI im) s' (.slice Ac (codesI im).length nc) vm2 vk vi (.slice Ao s.out.length no) bs → Grew (fun k => Y k = true ∨ W1.heap.size ≤ k) wm wq → s'.out = s.out → (outM (runM (codesI im) fuel s0)).st = st → Met wq (metM (codesI im) j s0) →
              (finW wq w.heap.size (.int .i64 st) (.int .i64 s.val) (.slice Ao s.out.length no) (.int .i64 (j : Int))).heap[w.heap.size + 1]? = some (.cells #[.int .i64 st, .int .i64 s.val, .slice Ao s.out.length no, .int .i64 (j : Int)] 60 (0, 0)) ∧
              (finW wq w.heap.size (.int .i64 st) (.int .i64 s.val) (.slice Ao s.out.length no) (.int .i64 (j : Int))).heap[w.heap.size + 2]? = some (.cells #[.int .i64 0, .int .i64 0] 27 (0, 0)) ∧
              R (.returned (.tuple #[.slice Ac (codesI im).length nc, .agg #[.int .i64 st, .int .i64 s.val, .slice Ao s.out.length no, .int .i64 (j : Int)], .agg #[.int .i64 0, .int .i64 0]])) (finW wq w.heap.size (.int .i64 st) (.int .i64 s.val) (.slice Ao s.out.length no) (.int .i64 (j : Int)))) := Lib.hid fun wq s' st hr hg ho hst hm => by
            have hO := (hg.block _ (blk_lt HOr.out) (hnO _ (by omega) (by have := Hwbm.out; omega))).trans HOr.out
            have hF := (hg.block _ (blk_lt HFr.out) (hnO _ (by omega) (by have := Hwbm.out; omega))).trans HFr.out
            obtain ⟨g1, g2, g3⟩ := finW_facts (.int .i64 st) (.int .i64 s.val) (.slice Ao s.out.length no) (.int .i64 (j : Int)) hO hF
            refine ⟨g1, g2, ?_⟩
            have hwm : Below w.heap.size w wm := Hbwr.out
            have hq0 : W1.heap.size ≤ wq.heap.size := hr.size.2
            have hbq : Below w.heap.size wq (finW wq w.heap.size (.int .i64 st) (.int .i64 s.val) (.slice Ao s.out.length no) (.int .i64 (j : Int))) := g3.below (fun k hk => by omega) (by have := Hwbm.out; omega)
            have hgY : Grew (fun k => Y k = true) w (finW wq w.heap.size (.int .i64 st) (.int .i64 s.val) (.slice Ao s.out.length no) (.int .i64 (j : Int))) :=
              (((Grew.of_below (X := fun k => Y k = true) hwm (fun k h1 h2 => by omega)).trans hg (fun k h1 h2 => by
                rcases h2 with h2 | h2
                · exact h2
                · have := Hwbm.out; omega)).trans g3 (fun k h1 h2 => by omega))
            have hW1q : Grew (fun k => Y k = true ∨ k = w.heap.size + 1 ∨ k = w.heap.size + 2 ∨ W1.heap.size ≤ k) W1 (finW wq w.heap.size (.int .i64 st) (.int .i64 s.val) (.slice Ao s.out.length no) (.int .i64 (j : Int))) :=
              ((Grew.of_below HbW1m.out (fun k h1 h2 => by omega)).trans hg (fun k h1 h2 => by
                rcases h2 with h2 | h2
                · exact .inl h2
                · exact .inr (.inr (.inr h2)))).trans g3 (fun k h1 h2 => by
                rcases h2 with h2 | h2
                · exact .inr (.inl h2)
                · exact .inr (.inr (.inl h2)))
            have hcod : rpMac.slice.SLF (finW wq w.heap.size (.int .i64 st) (.int .i64 s.val) (.slice Ao s.out.length no) (.int .i64 (j : Int))) w.heap.size (finW wq w.heap.size (.int .i64 st) (.int .i64 s.val) (.slice Ao s.out.length no) (.int .i64 (j : Int))).heap.size (codesI im) (.slice Ac (codesI im).length nc) := by
              have h1 : rpMac.slice.SLF (finW wq w.heap.size (.int .i64 st) (.int .i64 s.val) (.slice Ao s.out.length no) (.int .i64 (j : Int))) W0.heap.size W1.heap.size (codesI im) (.slice Ac (codesI im).length nc) := Hv.out.keep fun k h1 h2 => hW1q.block k h2 (fun h => by
                have := HlW0.out
                rcases h with h | h | h | h
                · have := Hbms.out _ h; omega
                · omega
                · omega
                · omega)
              exact h1.more (by have := HlW0.out; omega) hW1q.size
            have hout : rpInt.SLF (finW wq w.heap.size (.int .i64 st) (.int .i64 s.val) (.slice Ao s.out.length no) (.int .i64 (j : Int))) w.heap.size (finW wq w.heap.size (.int .i64 st) (.int .i64 s.val) (.slice Ao s.out.length no) (.int .i64 (j : Int))).heap.size s.out (.slice Ao s.out.length no) := by
              have hro := hr.rows.out
              rw [ho] at hro
              have h1 := own_keep (w' := (finW wq w.heap.size (.int .i64 st) (.int .i64 s.val) (.slice Ao s.out.length no) (.int .i64 (j : Int)))) hro fun k e hk => g3.block k hk (fun h => by
                have := hro.lt k e
                have := Hwbm.out
                omega)
              have h2 := SLint_own (ownsRow_only h1) (Nat.le_refl _)
              rw [only_size] at h2
              exact Rp.SLF.more (b := W1.heap.size) h2 (by have := Hwbm.out; omega) (Nat.le_refl _)
            obtain ⟨e1, e2⟩ := HSF.out
            have hfin := HR0.out _ (.slice Ac (codesI im).length nc) (.slice Ao s.out.length no) hgY (by rw [← e2]; exact HM.out.keep _ _ _ hm (by have := Hwbm.out; omega) hbq) hcod (by rw [← e1]; exact hout)
            rw [hst, ← e1] at hfin
            have hj2 : (outM s).steps = j := Hst.out
            rw [hj2] at hfin
            exact hfin
          clear hgo
          rcases hF with ho | ⟨ho, rfl⟩
          · rw [ho] at co
            obtain ⟨g1, g2, g3⟩ := HEnd.out wr s s.st Hrep2.out Hgr.out rfl (by rw [← HSF.out.1]; unfold outM; rw [if_pos ho]) Hmet.out
            have G1 := Lib.hid g1
            have G2 := Lib.hid g2
            have G3 := Lib.hid g3
            clear g1 g2 g3
            go_wp2_with fail
            go_region
            go_wp2
            exact bodyPost_ret (v := .tuple #[.slice Ac (codesI im).length nc, .agg #[.int .i64 s.st, .int .i64 s.val, .slice Ao s.out.length no, .int .i64 (j : Int)], .agg #[.int .i64 0, .int .i64 0]]) (res_runM (by rfl) (by rfl) (by rfl) (by rfl) G1.out G2.out) rfl G3.out
          · rw [ho] at co
            have hr1 := Hrep2.out.setState 1
            have hg1 : Grew (fun k => Y k = true ∨ W1.heap.size ≤ k) wm (wr.setCell ⟨W1.heap.size + 2, 20, none⟩ (.int .i64 1)) := Hgr.out.setCell _ (.inl (.inr (by show W1.heap.size ≤ W1.heap.size + 2; omega))) _
            obtain ⟨g1, g2, g3⟩ := HEnd.out _ _ 1 hr1 hg1 rfl (by rw [← HSF.out.1]; unfold outM; rw [if_neg (by rw [ho]; simp)]) (HM.out.keep _ _ _ Hmet.out (by have := Hrep2.out.size.2; have := Hwbm.out; omega) ((Below.refl _ wr).setCell (p := ⟨W1.heap.size + 2, 20, none⟩) (by show w.heap.size ≤ W1.heap.size + 2; have := Hwbm.out; omega) _))
            have G1 := Lib.hid g1
            have G2 := Lib.hid g2
            have G3 := Lib.hid g3
            have jl : ¬ (j : Int) < (j : Int) := by omega
            clear g1 g2 g3 hr1 hg1
            go_wp2_with fail
            go_region
            go_wp2
            exact bodyPost_ret (v := .tuple #[.slice Ac (codesI im).length nc, .agg #[.int .i64 1, .int .i64 s.val, .slice Ao s.out.length no, .int .i64 (j : Int)], .agg #[.int .i64 0, .int .i64 0]]) (res_runM (by rfl) (by rfl) (by rfl) (by rfl) G1.out G2.out) rfl G3.out
end Go.Proofs.YtcakodemngchpaaGreatDoor
