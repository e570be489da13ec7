/- colour.Of, where there is a fault. frame.By: the frame that places want; the walk. colour.Of, plainly: what it tells; codes of faults; ends of blocks. -/
import Derived.Test.YtdanebboiekieaaGreatDoorQ40
import Derived.Test.YtdanebboiekieaaGreatDoorQ38
import Derived.Test.YtdanebboiekieaaGreatDoorQ01
import Derived.Test.YtdanebboiekieaaGreatDoorRows
import Derived.IntWalk
import Derived.BigRegion
import Derived.Outline
import Derived.Deep.LoopGhost
import Derived.Deep.RegionLaw
import Derived.Deep.CutBlock
import Derived.Deep.DeepCutAuto
namespace Go.Proofs.YtdanebboiekieaaGreatDoor
open Go.RowKit
set_option linter.unusedSimpArgs false
set_option linter.unusedVariables false

set_option maxRecDepth 100000 in
set_option maxHeartbeats 8000000 in
theorem ColourBad_calls (u : Unt) (hu : UntI u) (k many : Int) (c a : Int) (hF : clashF u k = (c, a)) (hne : ¬ (c = 0 ∧ a = 0)) (gA fA : Option Addr) (gn gc fn fc : Nat) (w : World) (hW : Ways w) (hg : rpGlobal.SL w w.heap.size u.globals (.slice gA gn gc)) (hf : rpFun.SL w w.heap.size u.funcs (.slice fA fn fc)) (R : Ending → World → Prop)
 (hR : ∀ w', Below w.heap.size w w' → R (.returned (.tuple #[.slice none 0 0, .agg #[.int .i64 c, .int .i64 a]])) w') :
 Calls Tryz.prog 20 #[.agg #[.slice gA gn gc, .slice fA fn fc], .int .i64 k, .int .i64 many] w R := by
 have HR := Lib.hid hR
 have Hg := Lib.hid hg
 have Hf := Lib.hid hf
 have HW := Lib.hid hW
 have HF := Lib.hid hF
 clear hR hg hf hW hF
 go_enter Tryz.func20, Tryz.ntmps20
 go_upto_region 1 with fail
 obtain ⟨W2, hW2⟩ : ∃ W2, W2 = (w.alloc (Obj.cells #[.slice gA gn gc, .slice fA fn fc] 25)).alloc (Obj.cells #[.int .i64 0, .int .i64 0] 30) := ⟨_, rfl⟩
 have hb2 : Below w.heap.size w W2 := by subst hW2; exact bl0
 have hU2 : W2.heap[w.heap.size]? = some (.cells #[.slice gA gn gc, .slice fA fn fc] 25 (0, 0)) := by subst hW2; exact blk_alloc (heap_alloc_new _ _) _
 have hF2 : W2.heap[w.heap.size + 1]? = some (.cells #[.int .i64 0, .int .i64 0] 30 (0, 0)) := by
  subst hW2
  have := heap_alloc_new (w.alloc (Obj.cells #[.slice gA gn gc, .slice fA fn fc] 25)) (Obj.cells #[.int .i64 0, .int .i64 0] 30)
  simpa using this
 rw [← hW2]
 have Hb2 := Lib.hid hb2
 have HU2 := Lib.hid hU2
 have HF2 := Lib.hid hF2
 have hz2 := hb2.size
 obtain ⟨u0, u1⟩ := cells_blk hU2
 have lU := blk_lt hU2
 clear hW2 hb2 hU2 hF2
 go_wp2_with fail
 refine OfBad_calls u hu k c a HF.out hne _ _ _ _ _ _ _ (HW.out.up Hb2.out HW.out.1) (Hg.out.up Hb2.out hz2) (Hf.out.up Hb2.out hz2) _ (fun w3 hb3 => ?_)
 have Hb3 := Lib.hid (Hb2.out.trans (hb3.mono hz2))
 have HF3 := Lib.hid ((hb3.block _ (blk_lt HF2.out)).trans HF2.out)
 have hz3 := Hb3.out.size
 clear hb3 u0 u1 lU
 obtain ⟨W4, hW4⟩ : ∃ W4, W4 = w3.alloc (Obj.cells #[.int .i64 c, .int .i64 a] 30) := ⟨_, rfl⟩
 have hb34 : Below w3.heap.size w3 W4 := by subst hW4; exact bl0
 have hE4 : W4.heap[w3.heap.size]? = some (.cells #[.int .i64 c, .int .i64 a] 30 (0, 0)) := by subst hW4; exact heap_alloc_new _ _
 have Hb4 := Lib.hid (Hb3.out.trans (hb34.mono hz3))
 have HF4 := Lib.hid ((hb34.block _ (blk_lt HF3.out)).trans HF3.out)
 have HW4 := Lib.hid hW4.symm
 have Hbl := Lib.hid (below_sets Hb4.out.drew [(⟨w.heap.size + 1, 0, none⟩, .int .i64 c), (⟨w.heap.size + 1, 1, none⟩, .int .i64 a)] (by simp))
 have HE4 := Lib.hid hE4
 clear hW4 hb34 hE4
 obtain ⟨e0, e1⟩ := cells_blk HE4.out
 have lE := blk_lt HE4.out
 obtain ⟨f0, f1⟩ := cells_blk HF4.out
 have lF := blk_lt HF4.out
 have y0 : W4.frozen? ⟨w.heap.size + 1, 0, none⟩ = false := by simp [World.frozen?, HF4.out]
 have y1 : W4.frozen? ⟨w.heap.size + 1, 1, none⟩ = false := by simp [World.frozen?, HF4.out]
 go_upto_region 2 with fail
 rw [HW4.out]
 by_cases hc : c = 0
 ·subst hc
  have ha : ¬ a = 0 := fun h => hne ⟨rfl, h⟩
  clear hne
  go_wp2
  go_region
  go_wp2
  refine bodyPost_ret (v := .tuple #[.slice none 0 0, .agg #[.int .i64 0, .int .i64 a]]) (by simp [results, Tryz.results20, go_sem, f0, f1, lF]) rfl ?_
  exact HR.out _ Hbl.out
 ·clear hne
  go_wp2
  go_region
  go_wp2
  refine bodyPost_ret (v := .tuple #[.slice none 0 0, .agg #[.int .i64 c, .int .i64 a]]) (by simp [results, Tryz.results20, go_sem, f0, f1, lF]) rfl ?_
  exact HR.out _ Hbl.out
set_option maxRecDepth 100000 in
set_option maxHeartbeats 8000000 in
theorem ColourMany_calls (C : Int → Int → Bool) (L : Nat → Nat → Int → Bool) (u : Unt) (hu : UntI u) (hok : checkF u = (0, 0)) (k : Nat) (f : UFun) (hkf : u.funcs[k]? = some f) (hnp : ∀ b ∈ f.blocks, b.phis = []) (hto : ∀ b ∈ f.blocks, b.end_.to.length ≤ 2) (n : Nat) (hn : f.regs = (n : Int)) (hL : ∀ i k r, L i k r = true ↔ LvI f r i k) (hC : ∀ a b, C a b = true ↔ Clash f a b) (many : Int) (hm : ¬ (2 ≤ many ∧ many ≤ 14)) (gA fA : Option Addr) (gn gc fc : Nat) (w : World) (hW : Ways w) (hg : rpGlobal.SL w w.heap.size u.globals (.slice gA gn gc)) (hf : rpFun.SL w w.heap.size u.funcs (.slice fA u.funcs.length fc)) (R : Ending → World → Prop)
 (hR : ∀ w', Below w.heap.size w w' → R (.returned (.tuple #[.slice none 0 0, .agg #[.int .i64 3, .int .i64 (-1)]])) w') :
 Calls Tryz.prog 20 #[.agg #[.slice gA gn gc, .slice fA u.funcs.length fc], .int .i64 (k : Int), .int .i64 many] w R := by
 have HR := Lib.hid hR
 have Hg := Lib.hid hg
 have Hf := Lib.hid hf
 have HW := Lib.hid hW
 have Hk := Lib.hid hok
 have Hkf := Lib.hid hkf
 have Hnp := Lib.hid hnp
 have Hto := Lib.hid hto
 have Hn := Lib.hid hn
 have HL := Lib.hid hL
 have HC := Lib.hid hC
 have Hm := Lib.hid hm
 clear hR hg hf hW hok hkf hnp hto hn hL hC hm
 go_enter Tryz.func20, Tryz.ntmps20
 go_upto_region 1 with fail
 obtain ⟨W2, hW2⟩ : ∃ W2, W2 = (w.alloc (Obj.cells #[.slice gA gn gc, .slice fA u.funcs.length fc] 25)).alloc (Obj.cells #[.int .i64 0, .int .i64 0] 30) := ⟨_, rfl⟩
 have hb2 : Below w.heap.size w W2 := by subst hW2; exact bl0
 have hU2 : W2.heap[w.heap.size]? = some (.cells #[.slice gA gn gc, .slice fA u.funcs.length fc] 25 (0, 0)) := by subst hW2; exact blk_alloc (heap_alloc_new _ _) _
 have hF2 : W2.heap[w.heap.size + 1]? = some (.cells #[.int .i64 0, .int .i64 0] 30 (0, 0)) := by
  subst hW2
  have := heap_alloc_new (w.alloc (Obj.cells #[.slice gA gn gc, .slice fA u.funcs.length fc] 25)) (Obj.cells #[.int .i64 0, .int .i64 0] 30)
  simpa using this
 rw [← hW2]
 have Hb2 := Lib.hid hb2
 have HU2 := Lib.hid hU2
 have HF2 := Lib.hid hF2
 have hz2 := hb2.size
 obtain ⟨u0, u1⟩ := cells_blk hU2
 have lU := blk_lt hU2
 clear hW2 hb2 hU2 hF2
 go_wp2_with fail
 refine Of_calls C L u hu Hk.out k f Hkf.out Hnp.out Hto.out n Hn.out HL.out HC.out _ _ _ _ _ _ (HW.out.up Hb2.out HW.out.1) (Hg.out.up Hb2.out hz2) (Hf.out.up Hb2.out hz2) _ (fun w3 v3 hb3 hsl3 => ?_)
 have Hb3 := Lib.hid (Hb2.out.trans (hb3.mono hz2))
 have HF3 := Lib.hid ((hb3.block _ (blk_lt HF2.out)).trans HF2.out)
 have hz3 := Hb3.out.size
 clear hb3 u0 u1 lU
 obtain ⟨W4, hW4⟩ : ∃ W4, W4 = w3.alloc (Obj.cells #[.int .i64 0, .int .i64 0] 30) := ⟨_, rfl⟩
 have hb34 : Below w3.heap.size w3 W4 := by subst hW4; exact bl0
 have hE4 : W4.heap[w3.heap.size]? = some (.cells #[.int .i64 0, .int .i64 0] 30 (0, 0)) := by subst hW4; exact heap_alloc_new _ _
 have Hb4 := Lib.hid (Hb3.out.trans (hb34.mono hz3))
 have HF4 := Lib.hid ((hb34.block _ (blk_lt HF3.out)).trans HF3.out)
 have HW4 := Lib.hid hW4.symm
 have HE4 := Lib.hid hE4
 clear hW4 hb34 hE4
 obtain ⟨e0, e1⟩ := cells_blk HE4.out
 have lE := blk_lt HE4.out
 obtain ⟨f0, f1⟩ := cells_blk HF4.out
 have lF := blk_lt HF4.out
 have y0 : W4.frozen? ⟨w.heap.size + 1, 0, none⟩ = false := by simp [World.frozen?, HF4.out]
 have y1 : W4.frozen? ⟨w.heap.size + 1, 1, none⟩ = false := by simp [World.frozen?, HF4.out]
 go_upto_region 2 with fail
 rw [HW4.out]
 go_wp2_with fail
 refine Within_calls _ _ _ _ _ ?_
 rw [show decide ((2 : Int) ≤ many ∧ many ≤ 14) = false from decide_eq_false Hm.out]
 clear e0 e1 lE
 go_wp2_with fail
 refine Fault_calls _ _ _ _ (fun w9 hb9 => ?_)
 have Hb9 := Lib.hid (Hb4.out.trans (hb9.mono Hb4.out.size))
 have HF9 := Lib.hid ((hb9.block _ (blk_lt HF4.out)).trans HF4.out)
 clear hb9 f0 f1 lF y0 y1
 obtain ⟨v0, v1⟩ := cells_blk HF9.out
 have y0 : w9.frozen? ⟨w.heap.size + 1, 0, none⟩ = false := by simp [World.frozen?, HF9.out]
 have y1 : w9.frozen? ⟨w.heap.size + 1, 1, none⟩ = false := by simp [World.frozen?, HF9.out]
 have l9 := blk_lt HF9.out
 have Hbl := Lib.hid (below_sets Hb9.out [(⟨w.heap.size + 1, 0, none⟩, .int .i64 (3)), (⟨w.heap.size + 1, 1, none⟩, .int .i64 (-1))] (by simp))
 go_wp2
 refine bodyPost_ret (v := .tuple #[.slice none 0 0, .agg #[.int .i64 3, .int .i64 (-1)]]) (by simp [results, Tryz.results20, go_sem, v0, v1, l9]) rfl ?_
 exact HR.out _ Hbl.out
end Go.Proofs.YtdanebboiekieaaGreatDoor
namespace Go.Proofs.YtdanebboiekieaaGreatDoor
open Go.RowKit
set_option linter.unusedSimpArgs false
set_option linter.unusedVariables false

theorem spillsP_snoc (l : List Int) (p : Int) : spillsP (l ++ [p]) = if 15 + spillsP l < p then p - 15 else spillsP l := by
 unfold spillsP
 rw [List.foldl_append]
 rfl
theorem spillsP_step {pl : List Int} {k : Nat} (h : k < pl.length) : spillsP (pl.take (k + 1)) = if 15 + spillsP (pl.take k) < pl[k] then pl[k] - 15 else spillsP (pl.take k) := by
 rw [List.take_succ_eq_append_getElem h, spillsP_snoc]
theorem spillsF_nonneg : ∀ (l : List Int) (s : Int), 0 ≤ s → 0 ≤ l.foldl (fun s p => if 15 + s < p then p - 15 else s) s
 | [], s, h => h
 | x :: l, s, h => by
   rw [List.foldl_cons]
   refine spillsF_nonneg l _ ?_
   split <;> omega
theorem spillsP_nonneg (l : List Int) : 0 ≤ spillsP l := spillsF_nonneg l 0 (Int.le_refl _)
theorem spillsF_le {m : Int} : ∀ (l : List Int) (s : Int), s ≤ m → (∀ p ∈ l, p ≤ 15 + m) → l.foldl (fun s p => if 15 + s < p then p - 15 else s) s ≤ m
 | [], s, h, _ => h
 | x :: l, s, h, hl => by
   rw [List.foldl_cons]
   refine spillsF_le l _ ?_ (fun p hp => hl p (.tail _ hp))
   have := hl x (.head _)
   split <;> omega
theorem spillsP_le {l : List Int} {m : Int} (h0 : 0 ≤ m) (h : ∀ p ∈ l, p ≤ 15 + m) : spillsP l ≤ m := spillsF_le l 0 h0 h
/-- The kept registers below r. -/
def savesTo (pl : List Int) (r : Nat) : List Int := (rowX (fun r => decide (r ∈ pl)) r).filter fun r => decide (6 ≤ r)
theorem savesTo_succ (pl : List Int) (r : Nat) (h : 6 ≤ r) : savesTo pl (r + 1) = savesTo pl r ++ (if (r : Int) ∈ pl then [(r : Int)] else []) := by
 unfold savesTo
 rw [rowX_succ, List.filter_append]
 congr 1
 by_cases hx : (r : Int) ∈ pl
 ·have : (6 : Int) ≤ (r : Int) := by omega
  simp [hx, this]
 ·simp [hx]
theorem savesTo_six (pl : List Int) : savesTo pl 6 = [] := by
 unfold savesTo
 rw [List.filter_eq_nil_iff]
 intro x hx
 have := (mem_rowX.1 hx).1
 rw [decide_eq_true_eq]
 omega
set_option maxRecDepth 100000 in
set_option maxHeartbeats 8000000 in
theorem By_calls (pl : List Int) (v : Value) (w : World) (h : rpInt.SL w w.heap.size pl v) (hb : ∀ p ∈ pl, -1 ≤ p ∧ p ≤ 1000) (R : Ending → World → Prop)
 (hR : ∀ w' vs, Below w.heap.size w w' → w'.ownsRow w.heap.size 3 1 vs (savesP pl).length ((savesP pl).flatMap intCells) → R (.returned (.agg #[.int .i64 (spillsP pl), vs])) w') :
 Calls Tryz.prog 21 #[v] w R := by
 obtain ⟨i0, hi0, hz0, hz1, hz2⟩ := info_parts info_intW
 obtain ⟨A, c, rfl, hmx, hcap, hs⟩ := h.cases_
 have Hs := Lib.hid hs
 have HR := Lib.hid hR
 have HB := Lib.hid hb
 clear hR h hs hb
 go_enter Tryz.func21, Tryz.ntmps21
 go_upto_region 2 with fail
 obtain ⟨B, hB⟩ : ∃ B, B = w.heap.size := ⟨_, rfl⟩
 obtain ⟨W2, hW2⟩ : ∃ W2, W2 = (w.alloc (Obj.cells #[.int .i64 0, .slice none 0 0] 28)).alloc (Obj.cells #[.int .i64 0, .slice none 0 0] 28) := ⟨_, rfl⟩
 have hb2 : Below w.heap.size w W2 := by subst hW2; exact bl0
 have hA2 : W2.heap[B]? = some (.cells #[.int .i64 0, .slice none 0 0] 28 (0, 0)) := by subst hW2 hB; exact blk_alloc (heap_alloc_new _ _) _
 have hF2 : W2.heap[B + 1]? = some (.cells #[.int .i64 0, .slice none 0 0] 28 (0, 0)) := by
  subst hW2 hB
  have := heap_alloc_new (w.alloc (Obj.cells #[.int .i64 0, .slice none 0 0] 28)) (Obj.cells #[.int .i64 0, .slice none 0 0] 28)
  simpa using this
 have hs2 : W2.heap.size = B + 2 := by subst hW2 hB; simp
 rw [← hW2, ← hB]
 have Hb2 := Lib.hid hb2
 have HA2 := Lib.hid hA2
 have HF2 := Lib.hid hF2
 have HS2 := Lib.hid hs2
 have HBe := Lib.hid hB
 clear hW2 hb2 hA2 hF2 hs2 hB
 go_wp2
 go_loopg [9] pl.length (fun gh s9 wr => ∃ k : Nat, k ≤ pl.length ∧ gh = pl.length - k ∧ s9 = .int .i64 (k : Int) ∧ Hid (Below B w wr) ∧ B + 2 ≤ wr.heap.size ∧ Hid (wr.heap[B]? = some (.cells #[.int .i64 0, .slice none 0 0] 28 (0, 0))) ∧ Hid (wr.heap[B + 1]? = some (.cells #[.int .i64 (spillsP (pl.take k)), .slice none 0 0] 28 (0, 0))))
 case atStart => exact ⟨0, Nat.zero_le _, rfl, rfl, Lib.hid (by have := Hb2.out; rwa [← HBe.out] at this), by have := HS2.out; omega, HA2, HF2⟩
 case round =>
  clear Hb2 HA2 HF2 HS2
  obtain ⟨k, hk, rfl, rfl, Hb, hsz, HA, HF⟩ := hrel
  have i1 : (0 : Int) ≤ (k : Int) := Int.natCast_nonneg _
  obtain ⟨s, hs⟩ : ∃ s, s = spillsP (pl.take k) := ⟨_, rfl⟩
  have hs0 : 0 ≤ s := by rw [hs]; exact spillsP_nonneg _
  have hs1 : s ≤ 1000 := by rw [hs]; exact spillsP_le (by omega) (fun p hp => by have := HB.out p (List.mem_of_mem_take hp); omega)
  rw [← hs] at HF
  have f0 : wr.cell? ⟨B + 1, 0, none⟩ = some (.int .i64 s) := by rw [blk_cells HF.out]; rfl
  have f1 : wr.cell? ⟨B + 1, 1, none⟩ = some (.slice none 0 0) := by rw [blk_cells HF.out]; rfl
  have fz : wr.frozen? ⟨B + 1, 0, none⟩ = false := by simp [World.frozen?, HF.out]
  have fz1 : wr.frozen? ⟨B + 1, 1, none⟩ = false := by simp [World.frozen?, HF.out]
  have lF : B + 1 < wr.heap.size := by omega
  by_cases hlt : k < pl.length
  ·have i2 : (k : Int) < (pl.length : Int) := by omega
   obtain ⟨b, off, rfl, hbb, p0⟩ := Hs.out.int_at hlt
   have q0 := (Hb.out.cell (p := ⟨b, off + k, none⟩) (show b < B by rw [HBe.out]; exact hbb)).trans p0
   have lb : b < wr.heap.size := by have := HBe.out; omega
   clear p0
   have hst := spillsP_step hlt
   have hpb := HB.out _ (List.getElem_mem hlt)
   rw [← hs] at hst
   have hgd : pl.getD k 0 = pl[k] := by rw [List.getD_eq_getElem?_getD, List.getElem?_eq_getElem hlt]; rfl
   rw [hgd] at q0
   clear hgd
   generalize pl[k] = p at *
   have Hst := Lib.hid hst
   have Hs0 := Lib.hid hs
   clear hst hs
   by_cases hp : (16 : Int) ≤ p
   ·obtain ⟨t, ht⟩ : ∃ t, t = spillsP (pl.take (k + 1)) := ⟨_, rfl⟩
    have hmx : max s (p - 15) = t := by
     rw [ht, Hst.out]
     split <;> omega
    have e1 : p - 16 + 1 = p - 15 := by omega
    have Ht := Lib.hid ht
    have HF' : Hid ((wr.setCell ⟨B + 1, 0, none⟩ (.int .i64 t)).heap[B + 1]? = some (.cells #[.int .i64 t, .slice none 0 0] 28 (0, 0))) := Lib.hid (blk_set0 HF.out _)
    have HA' : Hid ((wr.setCell ⟨B + 1, 0, none⟩ (.int .i64 t)).heap[B]? = some (.cells #[.int .i64 0, .slice none 0 0] 28 (0, 0))) := Lib.hid ((Below.heap_setCell _ _ _ _ (fun e => by have e : B = B + 1 := e; omega)).trans HA.out)
    have HB' : Hid (Below B w (wr.setCell ⟨B + 1, 0, none⟩ (.int .i64 t))) := Lib.hid (Below.setCell (p := ⟨B + 1, 0, none⟩) Hb.out (by show B ≤ B + 1; omega) _)
    clear ht Hst
    go_wp2
    go_roundg (pl.length - (k + 1))
    case measure => omega
    case rel => exact ⟨k + 1, hlt, rfl, by go_num, HB', by simpa [World.setCell] using hsz, HA', by rw [← Ht.out]; exact HF'⟩
   ·have ht : spillsP (pl.take (k + 1)) = s := by
     rw [Hst.out, if_neg (by omega)]
    have Ht := Lib.hid ht
    clear ht Hst
    go_wp2
    go_roundg (pl.length - (k + 1))
    case measure => omega
    case rel => exact ⟨k + 1, hlt, rfl, by go_num, Hb, hsz, HA, by rw [Ht.out]; exact HF⟩
  ·obtain rfl : k = pl.length := by omega
   have hpe : spillsP pl = s := by rw [hs, List.take_length]
   rw [hpe] at HR
   have i2 : ¬ (pl.length : Int) < (pl.length : Int) := by omega
   clear hpe hs f0 f1 fz fz1 lF
   obtain ⟨wa, hwa⟩ : ∃ wa, wa = wr := ⟨_, rfl⟩
   rw [← hwa] at Hb hsz HA HF ⊢
   clear hwa
   have hG0 : Hid (Grew (fun j => j = B + 1) wa wa) := Lib.hid (Grew.refl _ _)
   have HO0 : Hid (wa.ownsRow wa.heap.size 3 1 (.slice none 0 0) (savesTo pl 6).length ((savesTo pl 6).flatMap intCells)) := Lib.hid (by rw [savesTo_six]; exact World.ownsRow_nil _ _ _ _)
   go_wp2
   go_loopg [6] 8 (fun gh s6 wr => ∃ (r : Nat) (vs : Value), 6 ≤ r ∧ r ≤ 14 ∧ gh = 14 - r ∧ s6 = .int .i64 (r : Int) ∧ Hid (Grew (fun j => j = B + 1) wa wr) ∧ Hid (wr.heap[B + 1]? = some (.cells #[.int .i64 s, vs] 28 (0, 0))) ∧ Hid (wr.ownsRow wa.heap.size 3 1 vs (savesTo pl r).length ((savesTo pl r).flatMap intCells)))
   case atStart => exact ⟨6, _, by omega, by omega, rfl, rfl, hG0, HF, HO0⟩
   case round =>
    clear hG0 HF HO0
    obtain ⟨r, vs, hr6, hr14, hg, rfl, HG, HF, HO⟩ := hrel
    have Hgh := Lib.hid hg
    have hzr := HG.out.size
    have r1 : (0 : Int) ≤ (r : Int) := Int.natCast_nonneg _
    have lF : B + 1 < wr.heap.size := blk_lt HF.out
    obtain ⟨A1, c1, rfl⟩ := own_slice HO.out
    have f0 : wr.cell? ⟨B + 1, 0, none⟩ = some (.int .i64 s) := by rw [blk_cells HF.out]; rfl
    have f1 : wr.cell? ⟨B + 1, 1, none⟩ = some (.slice A1 (savesTo pl r).length c1) := by rw [blk_cells HF.out]; rfl
    clear hg
    by_cases hlt : r < 14
    ·have r2 : (r : Int) < 14 := by omega
     have hpls : rpInt.SL wr wr.heap.size pl (.slice A pl.length c) := Hs.out.up ((Hb.out.trans (HG.out.below (B := B) (fun j hj e => by omega) (by omega))).mono (by rw [HBe.out]; exact Nat.le_refl _)) (by have := HBe.out; omega)
     have Hpls := Lib.hid hpls
     have hst := savesTo_succ pl r hr6
     have hll : (savesTo pl r).length ≤ 100 := by
      unfold savesTo
      have h1 := List.length_filter_le (fun r : Int => decide (6 ≤ r)) (rowX (fun r => decide (r ∈ pl)) r)
      have h2 := rowX_len (fun r => decide (r ∈ pl)) r
      omega
     generalize hL1 : savesTo pl r = L1 at *
     generalize hL2 : savesTo pl (r + 1) = L2 at *
     have HL2 := Lib.hid hL2
     have Hst := Lib.hid hst
     have Hll := Lib.hid hll
     clear hL1 hL2 hst hll hpls
     go_wp2_with fail
     refine ContainsG_calls _ pl (r : Int) _ Hpls.out _ ?_
     by_cases hin : (r : Int) ∈ pl
     ·rw [decide_eq_true hin]
      rw [if_pos hin] at Hst
      have fz : ∀ X : World, X.heap[B + 1]? = some (.cells #[.int .i64 s, .slice A1 L1.length c1] 28 (0, 0)) → X.frozen? ⟨B + 1, 1, none⟩ = false := fun X hX => by simp [World.frozen?, hX]
      go_wp2_with (at_builtin; refine wpList_append_own _ rfl _ _ 26 rfl wa.heap.size 3 i0 _ 1 8 Tryz.underlying26 hi0 hz0 hz1 hz2 rfl (by decide) (.slice A1 L1.length c1) L1.length (L1.flatMap intCells) rfl (HO.out.alloc _) ⟨wr.heap.size, 0, none⟩ 1 1 [.int .i64 (r : Int)] rfl rfl ?_ ?_ ?_ ?_ ?_ ?_)
      any_goals have hll := Hll.out
      any_goals first | exact World.news_of_block (cs := #[.int .i64 (r : Int)]) (t := 3) (fr := (0, 0)) (heap_alloc_new wr _) | (simp [Value.oneCell']; done) | (unfold maxLen; omega) | omega | (simp; done) | (simp; omega)
      intro v' w2 hown2 hgrow _
      have hown : ∀ j, some j = (Value.slice A1 L1.length c1).ownBlock → wa.heap.size ≤ j := fun j e => (HO.out.lt j e.symm).1
      have hG2 : Grew (fun j => j = B + 1) wa w2 := (HG.out.alloc (Obj.cells #[.int .i64 (r : Int)] 3)).trans (Grew.of_grown hgrow) (fun j hj e => by have := hown j e.symm; omega)
      have hF2 : w2.heap[B + 1]? = some (.cells #[.int .i64 s, .slice A1 L1.length c1] 28 (0, 0)) := by
       rw [hgrow.block (B + 1) (by simp; omega) (fun e => by have := hown _ e; omega)]
       exact blk_alloc HF.out _
      have hO2 : w2.ownsRow wa.heap.size 3 1 v' L2.length (L2.flatMap intCells) := by
       rw [Hst.out, List.length_append, List.flatMap_append]
       exact hown2
      obtain ⟨A2, c2, rfl⟩ := own_slice hO2
      have fz2 := fz w2 hF2
      have g1 : w2.cell? ⟨B + 1, 1, none⟩ = some (.slice A1 L1.length c1) := by rw [blk_cells hF2]; rfl
      have l2 := blk_lt hF2
      have HG2 := Lib.hid (hG2.setCell ⟨B + 1, 1, none⟩ (.inl rfl) (.slice A2 L2.length c2))
      have HF2 : Hid ((w2.setCell ⟨B + 1, 1, none⟩ (.slice A2 L2.length c2)).heap[B + 1]? = some (.cells #[.int .i64 s, .slice A2 L2.length c2] 28 (0, 0))) := Lib.hid (by apply blk_set1 hF2)
      have HO2 := Lib.hid (own_setCell_other hO2 (p := ⟨B + 1, 1, none⟩) (fun e => by have h1 := (hO2.lt (B + 1) e).1; omega) (.slice A2 L2.length c2))
      clear hown2 hgrow hown hG2 hF2 hO2 HG HF HO hll f0 f1 fz
      go_wp2
      go_roundg (14 - (r + 1))
      case measure => have := Hgh.out; omega
      case rel => exact ⟨r + 1, _, by omega, hlt, rfl, by go_num, HG2, HF2, by rw [HL2.out]; exact HO2⟩
     ·rw [decide_eq_false hin]
      rw [if_neg hin, List.append_nil] at Hst
      have HO2 : Hid (wr.ownsRow wa.heap.size 3 1 (.slice A1 L1.length c1) L2.length (L2.flatMap intCells)) := Lib.hid (by rw [Hst.out]; exact HO.out)
      clear HO
      go_wp2
      go_roundg (14 - (r + 1))
      case measure => have := Hgh.out; omega
      case rel => exact ⟨r + 1, _, by omega, hlt, rfl, by go_num, HG, HF, by rw [HL2.out]; exact HO2⟩
    ·obtain rfl : r = 14 := by omega
     have hAr := (HG.out.block B (by omega) (by omega)).trans HA.out
     obtain ⟨g0, g1⟩ := cells_blk hAr
     have lA : B < wr.heap.size := by omega
     have y0 : wr.frozen? ⟨B, 0, none⟩ = false := by simp [World.frozen?, hAr]
     have y1 : wr.frozen? ⟨B, 1, none⟩ = false := by simp [World.frozen?, hAr]
     have hbB : Below B w wr := Hb.out.trans (HG.out.below (B := B) (fun j hj e => by omega) (by omega))
     have hbl := below_sets hbB [(⟨B, 0, none⟩, .int .i64 s), (⟨B, 1, none⟩, .slice A1 (savesTo pl 14).length c1)] (by simp)
     have hOz := own_setCell_other (own_setCell_other HO.out (p := ⟨B, 0, none⟩) (fun e => by have h1 := (HO.out.lt B e).1; omega) (.int .i64 s)) (p := ⟨B, 1, none⟩) (fun e => by have h1 := (HO.out.lt B e).1; omega) (.slice A1 (savesTo pl 14).length c1)
     have Hbl : Hid (Below w.heap.size w ((wr.setCell ⟨B, 0, none⟩ (.int .i64 s)).setCell ⟨B, 1, none⟩ (.slice A1 (savesTo pl 14).length c1))) := Lib.hid (by rw [← HBe.out]; exact hbl)
     have HOz := Lib.hid (ownsRow_base (B' := w.heap.size) hOz (by have := HBe.out; omega))
     clear hbl hOz hAr hbB HO HG HF
     go_wp2
     refine bodyPost_ret (v := .agg #[.int .i64 s, .slice A1 (savesTo pl 14).length c1]) (by simp [results, Tryz.results21, go_sem, g0, g1, lA]) rfl ?_
     exact HR.out _ _ Hbl.out HOz.out
end Go.Proofs.YtdanebboiekieaaGreatDoor
namespace Go.Proofs.YtdanebboiekieaaGreatDoor
open Go.RowKit
set_option linter.unusedSimpArgs false
set_option linter.unusedVariables false

theorem fstAt_fst (l : List Int) : ∀ k, (fstAt l k).1 = fst0 l := by
 induction l with
 | nil => exact fun k => rfl
 | cons x l ih =>
   intro k
   unfold fstAt fst0
   by_cases h : x = 0
   ·rw [if_pos h, if_pos h, ih]
   ·rw [if_neg h, if_neg h]
theorem globFrom_code (l : List Global) : ∀ m i s, globFrom l m i s ≠ (0, 0) → (globFrom l m i s).1 ≠ 0
 | 0, i, s, h => absurd rfl h
 | m + 1, i, s, h => by
   unfold globFrom at h ⊢
   cases hg : l[i]? with
   | none => rw [hg] at h; exact absurd rfl h
   | some g =>
     rw [hg] at h
     dsimp only at h ⊢
     by_cases h1 : goodName g.name = false
     ·rw [if_pos h1]; simp
     rw [if_neg h1] at h ⊢
     by_cases h2 : (l.take i).any (fun o => decide (o.name = g.name)) = true
     ·rw [if_pos h2]; simp
     rw [if_neg h2] at h ⊢
     by_cases h3 : g.size < 1 ∨ 200 < g.size
     ·rw [if_pos h3]; simp
     rw [if_neg h3] at h ⊢
     by_cases h4 : g.size < g.init.length
     ·rw [if_pos h4]; simp
     rw [if_neg h4] at h ⊢
     by_cases h5 : 200 < s + g.size
     ·rw [if_pos h5]; simp
     rw [if_neg h5] at h ⊢
     exact globFrom_code l m _ _ h
theorem checkF_code {u : Unt} (h : checkF u ≠ (0, 0)) : (checkF u).1 ≠ 0 := by
 unfold checkF at h ⊢
 by_cases h1 : 10 < u.globals.length ∨ 10 < u.funcs.length
 ·rw [if_pos h1]; simp
 rw [if_neg h1] at h ⊢
 by_cases h2 : globFrom u.globals u.globals.length 0 0 ≠ (0, 0)
 ·rw [if_pos h2]; exact globFrom_code _ _ _ _ h2
 rw [if_neg h2] at h ⊢
 by_cases h3 : fst0 (headsF u) ≠ 0
 ·rw [if_pos h3, fstAt_fst]; exact h3
 rw [if_neg h3] at h ⊢
 by_cases h4 : fst0 (bodiesF u) ≠ 0
 ·rw [if_pos h4, fstAt_fst]; exact h4
 rw [if_neg h4] at h ⊢
 cases h5 : u.funcs.findIdx? fun f => decide (f.name = mainU) with
 | none => simp
 | some i =>
   rw [h5] at h
   dsimp only at h ⊢
   cases h6 : u.funcs[i]? with
   | none => simp
   | some f =>
     rw [h6] at h
     dsimp only at h ⊢
     by_cases h7 : 0 < f.params
     ·rw [if_pos h7]; simp
     ·rw [if_neg h7] at h; exact absurd rfl h
theorem clashF_code {u : Unt} {k : Int} (h : clashF u k ≠ (0, 0)) : (clashF u k).1 ≠ 0 := by
 unfold clashF at h ⊢
 by_cases h1 : checkF u ≠ (0, 0)
 ·rw [if_pos h1]; exact checkF_code h1
 rw [if_neg h1] at h ⊢
 by_cases h2 : ¬ (0 ≤ k ∧ k ≤ (u.funcs.length : Int) - 1)
 ·rw [if_pos h2]; simp
 rw [if_neg h2] at h ⊢
 cases h3 : u.funcs[k.toNat]? with
 | none => rw [h3] at h; exact absurd rfl h
 | some f =>
   rw [h3] at h
   dsimp only at h ⊢
   by_cases h4 : f.blocks.any hasPhi = true
   ·rw [if_pos h4]; simp
   ·rw [if_neg h4] at h; exact absurd rfl h
theorem clashF_zero {u : Unt} {k : Int} (h : clashF u k = (0, 0)) : checkF u = (0, 0) ∧ ∃ (j : Nat) (f : UFun), k = (j : Int) ∧ u.funcs[j]? = some f ∧ (∀ b ∈ f.blocks, b.phis = []) := by
 unfold clashF at h
 by_cases h1 : checkF u ≠ (0, 0)
 ·rw [if_pos h1] at h; exact absurd h h1
 rw [if_neg h1] at h
 by_cases h2 : ¬ (0 ≤ k ∧ k ≤ (u.funcs.length : Int) - 1)
 ·rw [if_pos h2] at h; cases h
 rw [if_neg h2] at h
 obtain ⟨j, rfl⟩ : ∃ j : Nat, k = (j : Int) := ⟨k.toNat, by omega⟩
 have hj : j < u.funcs.length := by omega
 rw [Int.toNat_natCast, List.getElem?_eq_getElem hj] at h
 dsimp only at h
 refine ⟨Classical.byContradiction h1, j, u.funcs[j], rfl, List.getElem?_eq_getElem hj, fun b hb => ?_⟩
 by_cases h4 : u.funcs[j].blocks.any hasPhi = true
 ·rw [if_pos h4] at h; cases h
 ·apply List.eq_nil_of_length_eq_zero
  apply Classical.byContradiction
  intro hn
  exact h4 (List.any_eq_true.2 ⟨b, hb, by unfold hasPhi; rw [decide_eq_true_eq]; omega⟩)
/-- The ends of a good function's blocks. -/
structure EndOk (regs : Int) (nb : Nat) (e : UEnd) : Prop where
 kind : 1 ≤ e.kind ∧ e.kind ≤ 3
 len : (e.to.length : Int) = e.kind - 1
 tos : ∀ t ∈ e.to, 1 ≤ t ∧ t < (nb : Int)
 two : e.kind = 3 → e.to[0]? ≠ e.to[1]?
 jump : e.kind = 2 → isZ e.on = true
 on : ValOk regs e.on
theorem endF_ok {nb : Nat} {regs : Int} {e : UEnd} (h : endF nb regs e = 0) : EndOk regs nb e := by
 have h0 := endF_zero h
 unfold endF at h
 split at h
 ·simp at h
 rename_i h1
 split at h
 ·simp at h
 rename_i h2
 split at h
 ·simp at h
 split at h
 ·simp at h
 rename_i h4
 refine ⟨Classical.byContradiction h1, Classical.byContradiction h2, h0.1, fun hk he => h4 (.inl ⟨hk, he⟩), fun hk => ?_, h0.2⟩
 cases hz : isZ e.on
 ·exact absurd (.inr ⟨hk, hz⟩) h4
 ·rfl
theorem endOk {u : Unt} (h : checkF u = (0, 0)) {k : Nat} {f : UFun} (hf : u.funcs[k]? = some f) : ∀ b ∈ f.blocks, EndOk f.regs f.blocks.length b.end_ := by
 intro b hb
 have h1 := (checkF_parts h).2.2.2
 rw [fst0_zero] at h1
 have h2 := h1 (bodyF u f) (List.mem_map.2 ⟨f, List.mem_of_getElem? hf, rfl⟩)
 unfold bodyF at h2
 by_cases h3 : fst0 (f.blocks.map fun b => endF f.blocks.length f.regs b.end_) ≠ 0
 ·rw [if_pos h3] at h2
  exact absurd h2 h3
 ·have h4 := Classical.not_not.1 h3
  rw [fst0_zero] at h4
  exact endF_ok (h4 _ (List.mem_map.2 ⟨b, hb, rfl⟩))
theorem endOk_to {u : Unt} (h : checkF u = (0, 0)) {k : Nat} {f : UFun} (hf : u.funcs[k]? = some f) : ∀ b ∈ f.blocks, b.end_.to.length ≤ 2 := fun b hb => by
 have h1 := endOk h hf b hb
 have := h1.kind
 have := h1.len
 omega
/-- Places of registers are told (a function that may be, and so many registers). -/
structure ColOk (u : Unt) (k : Nat) (f : UFun) (n : Nat) (many : Int) (C : Int → Int → Bool) (A : Int → Bool) (L : Nat → Nat → Int → Bool) : Prop where
 ok : checkF u = (0, 0)
 fn : u.funcs[k]? = some f
 np : ∀ b ∈ f.blocks, b.phis = []
 tos : ∀ b ∈ f.blocks, b.end_.to.length ≤ 2
 regs : f.regs = (n : Int)
 many : 2 ≤ many ∧ many ≤ 14
 hL : ∀ i k r, L i k r = true ↔ LvI f r i k
 hC : ∀ a b, C a b = true ↔ Clash f a b
 hA : ∀ z, A z = true ↔ Across f z
/-- What colour.Of tells: places, and a fault. -/
def ColIs (u : Unt) (k many : Int) (pl : List Int) (fl : Int × Int) : Prop :=
 (clashF u k ≠ (0, 0) ∧ pl = [] ∧ fl = clashF u k) ∨
 (clashF u k = (0, 0) ∧ ¬ (2 ≤ many ∧ many ≤ 14) ∧ pl = [] ∧ fl = (3, -1)) ∨
 (∃ j f n C A L, k = ((j : Nat) : Int) ∧ ColOk u j f n many C A L ∧ pl = colourL f n many C A (L 0 0) ∧ fl = (0, 0))
theorem bool_of {α : Type} (P : α → Prop) : ∃ b : α → Bool, ∀ x, b x = true ↔ P x := by
 have : ∀ x, ∃ b : Bool, b = true ↔ P x := fun x => by
  by_cases h : P x
  ·exact ⟨true, by simp [h]⟩
  ·exact ⟨false, by simp [h]⟩
 exact ⟨fun x => Classical.choose (this x), fun x => Classical.choose_spec (this x)⟩
theorem colIs_ex (u : Unt) (k many : Int) : ∃ pl fl, ColIs u k many pl fl := by
 by_cases h1 : clashF u k = (0, 0)
 ·by_cases h2 : 2 ≤ many ∧ many ≤ 14
  ·obtain ⟨hok, j, f, rfl, hf, hnp⟩ := clashF_zero h1
   obtain ⟨L, hL⟩ := bool_of (fun p : Nat × Nat × Int => LvI f p.2.2 p.1 p.2.1)
   obtain ⟨C, hC⟩ := bool_of (fun p : Int × Int => Clash f p.1 p.2)
   obtain ⟨A, hA⟩ := bool_of (fun z : Int => Across f z)
   have hfo := funOk hok hf
   obtain ⟨n, hn⟩ : ∃ n : Nat, f.regs = (n : Int) := ⟨f.regs.toNat, by have := hfo.regs; have := hfo.params; omega⟩
   exact ⟨_, _, .inr (.inr ⟨j, f, n, fun a b => C (a, b), A, fun i k r => L (i, k, r), rfl, ⟨hok, hf, hnp, endOk_to hok hf, hn, h2, fun i k r => hL (i, k, r), fun a b => hC (a, b), hA⟩, rfl, rfl⟩)⟩
  ·exact ⟨_, _, .inr (.inl ⟨h1, h2, rfl, rfl⟩)⟩
 ·exact ⟨_, _, .inl ⟨h1, rfl, rfl⟩⟩
theorem ColIs.code {u : Unt} {k many : Int} {pl : List Int} {fl : Int × Int} (h : ColIs u k many pl fl) : fl = (0, 0) ∨ (fl.1 ≠ 0 ∧ pl = []) := by
 rcases h with ⟨h1, h2, h3⟩ | ⟨h1, h2, h3, h4⟩ | ⟨_, _, _, _, _, _, _, _, _, h4⟩
 ·right
  rw [h3]
  exact ⟨clashF_code h1, h2⟩
 ·right
  rw [h4]
  exact ⟨by decide, h3⟩
 ·exact .inl h4
end Go.Proofs.YtdanebboiekieaaGreatDoor
