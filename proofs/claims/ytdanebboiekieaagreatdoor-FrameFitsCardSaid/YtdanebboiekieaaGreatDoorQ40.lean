/- colour.Of: places of a function's registers; the walk. -/
import Derived.Test.YtdanebboiekieaaGreatDoorQ38
import Derived.Test.YtdanebboiekieaaGreatDoorQ39
import Derived.Test.YtdanebboiekieaaGreatDoorQ33
import Derived.Test.YtdanebboiekieaaGreatDoorQ25
import Derived.Test.YtdanebboiekieaaGreatDoorQ01
import Derived.Test.YtdanebboiekieaaGreatDoorRows
import Derived.IntWalk
import Derived.BigRegion
import Derived.BigQuiet
import Derived.Outline
import Derived.Deep.LoopGhost
import Derived.Deep.RegionLaw
import Derived.Deep.RegionHeld3
import Derived.Deep.CutBlock
import Derived.Deep.DeepCutAuto
namespace Go.Proofs.YtdanebboiekieaaGreatDoor
open Go.RowKit
set_option linter.unusedSimpArgs false
set_option linter.unusedVariables false

theorem intAt_zeros {w : World} {g n : Nat} (h : w.heap[g]? = some (.cells (Array.replicate n (Value.int .i64 0)) 3 (0, 0))) : IntAt g (List.replicate n 0) w := by
 refine ⟨_, h, fun k hk => ?_⟩
 rw [List.length_replicate] at hk
 unfold iAt
 rw [List.getD_eq_getElem?_getD, List.getElem?_replicate, if_pos hk]
 simp [hk]
/-- The places on their way: none as yet. -/
def plR (n r : Nat) : List Int := List.replicate r (-1) ++ List.replicate (n - r) 0
theorem plR_zero (n : Nat) : plR n 0 = List.replicate n 0 := rfl
theorem plR_len {n r : Nat} (h : r ≤ n) : (plR n r).length = n := by
 unfold plR
 rw [List.length_append, List.length_replicate, List.length_replicate]
 omega
theorem plR_end (n : Nat) : plR n n = List.replicate n (-1) := by
 unfold plR
 rw [Nat.sub_self]
 simp
theorem plR_step {n r : Nat} (h : r < n) : (plR n r).set r (-1) = plR n (r + 1) := by
 unfold plR
 rw [List.set_append_right _ _ (by simp), List.length_replicate, Nat.sub_self, show n - r = (n - (r + 1)) + 1 by omega, List.replicate_succ, List.set_cons_zero, List.replicate_succ']
 simp
set_option maxRecDepth 100000 in
set_option maxHeartbeats 16000000 in
theorem Colour_calls (C : Int → Int → Bool) (L : Nat → Nat → Int → Bool) (Ac : Int → Bool) (u : Unt) (hu : UntI u) (hok : checkF u = (0, 0)) (k : Nat) (f : UFun) (hkf : u.funcs[k]? = some f) (hnp : ∀ b ∈ f.blocks, b.phis = []) (hto : ∀ b ∈ f.blocks, b.end_.to.length ≤ 2) (n : Nat) (hn : f.regs = (n : Int)) (hL : ∀ i k r, L i k r = true ↔ LvI f r i k) (hC : ∀ a b, C a b = true ↔ Clash f a b) (hA : ∀ z, Ac z = true ↔ Across f z) (many : Int) (hm : 2 ≤ many ∧ many ≤ 14) (gA fA : Option Addr) (gn gc fc : Nat) (w : World) (hW : Ways w) (hg : rpGlobal.SL w w.heap.size u.globals (.slice gA gn gc)) (hf : rpFun.SL w w.heap.size u.funcs (.slice fA u.funcs.length fc)) (R : Ending → World → Prop)
 (hR : ∀ w' g, Below w.heap.size w w' → w.heap.size ≤ g → IntAt g (colourL f n many C Ac (L 0 0)) w' → R (.returned (.tuple #[.slice (some ⟨g, 0, none⟩) n n, (.agg #[.int .i64 (((0 : Int), (0 : Int))).1, .int .i64 (((0 : Int), (0 : Int))).2])])) w') :
 Calls Tryz.prog 20 #[.agg #[.slice gA gn gc, .slice fA u.funcs.length fc], .int .i64 (k : Int), .int .i64 many] w R := by
 have hfo := funOk hok hkf
 have hn1 : n ≤ 100 := by have := hfo.regs.2; omega
 obtain ⟨hku, hfk⟩ := List.getElem?_eq_some_iff.1 hkf
 obtain ⟨bf, offf, vb, hfA, hbf, hsb, qf0, qf1, qf2, qf3⟩ := hf.fun_at hku
 subst hfA
 rw [hfk] at qf0 qf1 qf2 hsb
 rw [hn] at qf2
 obtain ⟨bA, bc, rfl, _, _, _⟩ := hsb.cases_
 have k0 : (0 : Int) ≤ (k : Int) := Int.natCast_nonneg _
 have k1 : (k : Int) < (u.funcs.length : Int) := by omega
 have HR := Lib.hid hR
 have Hg := Lib.hid hg
 have Hf := Lib.hid hf
 have HW := Lib.hid hW
 have Hk := Lib.hid hok
 have Hkf := Lib.hid hkf
 have Hnp := Lib.hid hnp
 have Hto := Lib.hid hto
 have Hn := Lib.hid hn
 have HL := Lib.hid hL
 have HC := Lib.hid hC
 have HA := Lib.hid hA
 have Hfo := Lib.hid hfo
 have Hsb := Lib.hid hsb
 have Hm := Lib.hid hm
 clear hR hg hf hW hok hkf hnp hto hn hL hC hA hfo hsb hfk
 go_enter Tryz.func20, Tryz.ntmps20
 go_upto_region 1 with fail
 obtain ⟨W2, hW2⟩ : ∃ W2, W2 = (w.alloc (Obj.cells #[.slice gA gn gc, .slice (some ⟨bf, offf, none⟩) u.funcs.length fc] 25)).alloc (Obj.cells #[.int .i64 0, .int .i64 0] 30) := ⟨_, rfl⟩
 have hb2 : Below w.heap.size w W2 := by subst hW2; exact bl0
 have hU2 : W2.heap[w.heap.size]? = some (.cells #[.slice gA gn gc, .slice (some ⟨bf, offf, none⟩) u.funcs.length fc] 25 (0, 0)) := by subst hW2; exact blk_alloc (heap_alloc_new _ _) _
 have hF2 : W2.heap[w.heap.size + 1]? = some (.cells #[.int .i64 0, .int .i64 0] 30 (0, 0)) := by
  subst hW2
  have := heap_alloc_new (w.alloc (Obj.cells #[.slice gA gn gc, .slice (some ⟨bf, offf, none⟩) u.funcs.length fc] 25)) (Obj.cells #[.int .i64 0, .int .i64 0] 30)
  simpa using this
 rw [← hW2]
 have Hb2 := Lib.hid hb2
 have HU2 := Lib.hid hU2
 have HF2 := Lib.hid hF2
 have hz2 := hb2.size
 obtain ⟨u0, u1⟩ := cells_blk hU2
 have lU := blk_lt hU2
 clear hW2 hb2 hU2 hF2
 go_wp2_with fail
 refine Of_calls C L u hu Hk.out k f Hkf.out Hnp.out Hto.out n Hn.out HL.out HC.out _ _ _ _ _ _ (HW.out.up Hb2.out HW.out.1) (Hg.out.up Hb2.out hz2) (Hf.out.up Hb2.out hz2) _ (fun w3 v3 hb3 hsl3 => ?_)
 obtain ⟨cA, cc, rfl, hm3, hc3, hsl3⟩ := hsl3.cases_
 have hrl : (rowsC C n).length = n := by unfold rowsC; rw [List.length_map, ints_len]
 rw [hrl] at hm3 hc3
 have Hsl3 := Lib.hid hsl3
 have Hrl := Lib.hid hrl
 rw [hrl]
 have Hb3 := Lib.hid (Hb2.out.trans (hb3.mono hz2))
 have HU3 := Lib.hid ((hb3.block _ (blk_lt HU2.out)).trans HU2.out)
 have HF3 := Lib.hid ((hb3.block _ (blk_lt HF2.out)).trans HF2.out)
 have hz3 := Hb3.out.size
 clear hb3 u0 u1 lU hsl3 hrl
 -- the fault is none
 obtain ⟨W4, hW4⟩ : ∃ W4, W4 = w3.alloc (Obj.cells #[.int .i64 0, .int .i64 0] 30) := ⟨_, rfl⟩
 have hb34 : Below w3.heap.size w3 W4 := by subst hW4; exact bl0
 have hE4 : W4.heap[w3.heap.size]? = some (.cells #[.int .i64 0, .int .i64 0] 30 (0, 0)) := by subst hW4; exact heap_alloc_new _ _
 have hz34 := hb34.size
 have Hb4 := Lib.hid (Hb3.out.trans (hb34.mono hz3))
 have HU4 := Lib.hid ((hb34.block _ (blk_lt HU3.out)).trans HU3.out)
 have HF4 := Lib.hid ((hb34.block _ (blk_lt HF3.out)).trans HF3.out)
 have Hsl4 := Lib.hid (Hsl3.out.SL.up hb34 hz34)
 have HW4 := Lib.hid hW4.symm
 have HE4 := Lib.hid hE4
 have hz4 := Hb4.out.size
 clear hW4 hb34 hE4
 obtain ⟨e0, e1⟩ := cells_blk HE4.out
 have lE := blk_lt HE4.out
 go_upto_region 2 with fail
 rw [HW4.out]
 go_wp2_with fail
 refine Within_calls _ _ _ _ _ ?_
 rw [show decide ((2 : Int) ≤ many ∧ many ≤ 14) = true from decide_eq_true Hm.out]
 clear e0 e1 lE
 obtain ⟨u0, u1⟩ := cells_blk HU4.out
 have lU := blk_lt HU4.out
 go_wp2_with fail
 refine Across_calls Ac L u hu Hk.out k f Hkf.out Hnp.out Hto.out n Hn.out HL.out HA.out _ _ _ _ _ _ (HW.out.up Hb4.out HW.out.1) (Hg.out.up Hb4.out hz4) (Hf.out.up Hb4.out hz4) _ (fun w5 v5 hb5 hown5 => ?_)
 obtain ⟨aA, ac, rfl⟩ := own_slice hown5
 have Hown5 := Lib.hid hown5
 have hz45 := hb5.size
 have Hb5 := Lib.hid (Hb4.out.trans (hb5.mono hz4))
 have HU5 := Lib.hid ((hb5.block _ (blk_lt HU4.out)).trans HU4.out)
 have HF5 := Lib.hid ((hb5.block _ (blk_lt HF4.out)).trans HF4.out)
 have Hsl5 := Lib.hid (Hsl4.out.up hb5 hz45)
 clear hb5 hown5 u0 u1 lU
 obtain ⟨W6, hW6⟩ : ∃ W6, W6 = w5.alloc (Obj.cells #[.int .i64 0, .int .i64 0] 30) := ⟨_, rfl⟩
 have hb56 : Below w5.heap.size w5 W6 := by subst hW6; exact bl0
 have hz56 := hb56.size
 have hz5 := Hb5.out.size
 have Hb6 := Lib.hid (Hb5.out.trans (hb56.mono hz5))
 have HU6 := Lib.hid ((hb56.block _ (blk_lt HU5.out)).trans HU5.out)
 have HF6 := Lib.hid ((hb56.block _ (blk_lt HF5.out)).trans HF5.out)
 have Hsl6 := Lib.hid (Hsl5.out.up hb56 hz56)
 have Hown6 := Lib.hid (own_below Hown5.out hb56)
 have HW6 := Lib.hid hW6.symm
 have hz6 := Hb6.out.size
 clear hW6 hb56
 go_upto_region 7 with fail
 rw [HW6.out]
 obtain ⟨u0, u1⟩ := cells_blk HU6.out
 have lU := blk_lt HU6.out
 go_wp2_with fail
 refine Weights_calls u hu Hk.out k f Hkf.out Hnp.out n Hn.out _ _ _ _ _ _ (HW.out.up Hb6.out HW.out.1) (Hg.out.up Hb6.out hz6) (Hf.out.up Hb6.out hz6) _ (fun w7 gw hb7 hgw hI7 => ?_)
 have hz67 := hb7.size
 have Hb7 := Lib.hid (Hb6.out.trans (hb7.mono hz6))
 have HU7 := Lib.hid ((hb7.block _ (blk_lt HU6.out)).trans HU6.out)
 have HF7 := Lib.hid ((hb7.block _ (blk_lt HF6.out)).trans HF6.out)
 have Hsl7 := Lib.hid (Hsl6.out.up hb7 hz67)
 have Hown7 := Lib.hid (own_below Hown6.out hb7)
 have HI7 := Lib.hid hI7
 have hz7 := Hb7.out.size
 clear hb7 u0 u1 lU hI7
 obtain ⟨W8, hW8⟩ : ∃ W8, W8 = (w7.alloc (Obj.cells #[.slice (some ⟨gw, 0, none⟩) n n] 26)).alloc (Obj.cells #[.int .i64 0, .int .i64 0] 30) := ⟨_, rfl⟩
 have hb78 : Below w7.heap.size w7 W8 := by subst hW8; exact bl0
 have hX8 : W8.heap[w7.heap.size]? = some (.cells #[.slice (some ⟨gw, 0, none⟩) n n] 26 (0, 0)) := by subst hW8; exact blk_alloc (heap_alloc_new _ _) _
 have hz78 := hb78.size
 have Hb8 := Lib.hid (Hb7.out.trans (hb78.mono hz7))
 have HU8 := Lib.hid ((hb78.block _ (blk_lt HU7.out)).trans HU7.out)
 have HF8 := Lib.hid ((hb78.block _ (blk_lt HF7.out)).trans HF7.out)
 have Hsl8 := Lib.hid (Hsl7.out.up hb78 hz78)
 have Hown8 := Lib.hid (own_below Hown7.out hb78)
 have HI8 := Lib.hid (HI7.out.below hb78)
 have HX8 := Lib.hid hX8
 have HW8 := Lib.hid hW8.symm
 have hz8 := Hb8.out.size
 clear hW8 hb78 hX8
 go_upto_region 8 with fail
 rw [HW8.out]
 obtain ⟨u0, u1⟩ := cells_blk HU8.out
 have lU := blk_lt HU8.out
 go_wp2_with fail
 refine Begin_calls u hu Hk.out k f Hkf.out Hnp.out Hto.out n Hn.out _ _ _ _ _ _ _ (HW.out.up Hb8.out HW.out.1) (Hg.out.up Hb8.out hz8) (Hf.out.up Hb8.out hz8) _ (fun w9 S v9 hb9 hsl9 hSn hSL => ?_)
 obtain ⟨bgA, bgc, rfl, hm9, hc9, hsl9⟩ := hsl9.cases_
 have hBg : ∀ z, decide (z ∈ setL S) = L 0 0 z := fun z => by
  rw [Bool.eq_iff_iff, decide_eq_true_eq, mem_setL, HL.out]
  constructor
  ·rintro ⟨x, rfl, h1, h2⟩
   exact ⟨x, rfl, (hSL x (by omega)).1 h2⟩
  ·rintro ⟨x, rfl, h2⟩
   have := lv_lt Hfo.out h2
   rw [Hn.out] at this
   exact ⟨x, rfl, by omega, (hSL x (by omega)).2 h2⟩
 have HBg := Lib.hid hBg
 have hz89 := hb9.size
 have Hsl9 := Lib.hid hsl9.SL
 generalize setL S = Bg at *
 have Hb9 := Lib.hid (Hb8.out.trans (hb9.mono hz8))
 have HU9 := Lib.hid ((hb9.block _ (blk_lt HU8.out)).trans HU8.out)
 have HF9 := Lib.hid ((hb9.block _ (blk_lt HF8.out)).trans HF8.out)
 have HR9 := Lib.hid (Hsl8.out.up hb9 hz89)
 have Hown9 := Lib.hid (own_below Hown8.out hb9)
 have HI9 := Lib.hid (HI8.out.below hb9)
 have HX9 := Lib.hid ((hb9.block _ (blk_lt HX8.out)).trans HX8.out)
 have hz9 := Hb9.out.size
 obtain ⟨X, hX⟩ : ∃ X, X = w7.heap.size := ⟨_, rfl⟩
 rw [← hX] at HX9 ⊢
 have hXlt : w.heap.size + 1 < X ∧ gw < X := by
  rw [hX]
  exact ⟨blk_lt HF7.out, HI7.out.lt⟩
 have Hgw : Hid (w.heap.size ≤ gw) := Lib.hid (by omega)
 clear hb9 u0 u1 lU hsl9 hSn hSL hBg hX HX8 HI8 Hown8 Hsl8 HF8 HU8 Hb8 HW8 HI7 Hown7 Hsl7 HF7 HU7 Hb7 HW6 Hown6 Hsl6 HF6 HU6 Hb6 Hsl5 HF5 HU5 Hb5 Hown5 HE4 HW4 Hsl4 HF4 HU4 Hb4 HF3 HU3 Hb3 Hsl3 HF2 HU2 Hb2 hgw hz89 hz78 hz67 hz56 hz45 hz34 hz2 hz3 hz4 hz5 hz6 hz7 hz8
 go_upto_region 9 with fail
 have p0 := (Hb9.out.cell (p := ⟨bf, offf + k * 4, none⟩) hbf).trans qf0
 have p1 := (Hb9.out.cell (p := ⟨bf, offf + k * 4 + 1, none⟩) hbf).trans qf1
 have p2 := (Hb9.out.cell (p := ⟨bf, offf + k * 4 + 2, none⟩) hbf).trans qf2
 have p3 := (Hb9.out.cell (p := ⟨bf, offf + k * 4 + 3, none⟩) hbf).trans qf3
 obtain ⟨u0, u1⟩ := cells_blk HU9.out
 obtain ⟨B9, hB9⟩ : ∃ B9, B9 = w9.heap.size := ⟨_, rfl⟩
 have hbf9 : bf < B9 := by omega
 have hU9 : w.heap.size < B9 := by rw [hB9]; exact blk_lt HU9.out
 have HBe := Lib.hid hB9
 go_cut [15] (fun s15 wx => ∃ (gg cg gp PB : Nat), s15 = .pointer (some ⟨PB, 0, none⟩) ∧ Hid (Below B9 w9 wx) ∧ Hid (wx.heap[PB]? = some (.cells #[.string f.name, .int .i64 f.params, .int .i64 (n : Int), .slice bA f.blocks.length bc, .slice cA n cc, .slice aA (rowX Ac n).length ac, .slice (some ⟨gg, 0, none⟩) (givenL many).length cg, .slice (some ⟨gp, 0, none⟩) n n] 96 (0, 0))) ∧ Hid (IntAt gg (givenL many) wx ∧ (givenL many).length ≤ cg ∧ cg ≤ maxLen) ∧ Hid (IntAt gp (List.replicate n 0) wx) ∧ Hid (B9 ≤ gg ∧ B9 ≤ gp ∧ B9 ≤ PB ∧ gg ≠ gp ∧ PB ≠ gp))
 case first =>
  have hmk : ∀ W : World, (Instr.makeSlice 26 (.int .i64 (n : Int)) (.int .i64 (n : Int))).run Tryz.prog W = .ok (.slice (some ⟨W.heap.size, 0, none⟩) n n) (W.alloc (.cells (Array.replicate n (Value.int .i64 0)) 3)) := fun W => make_intsW W n (by omega)
  have hS0 : w9.cell? ⟨w.heap.size, 1, none⟩ = some (.slice (some ⟨bf, offf, none⟩) u.funcs.length fc) ∧ w9.cell? ⟨bf, offf + k * 4, none⟩ = some (.string f.name) ∧ w9.cell? ⟨bf, offf + k * 4 + 1, none⟩ = some (.int .i64 f.params) ∧ w9.cell? ⟨bf, offf + k * 4 + 2, none⟩ = some (.int .i64 (n : Int)) ∧ w9.cell? ⟨bf, offf + k * 4 + 3, none⟩ = some (.slice bA f.blocks.length bc) := ⟨u1, p0, p1, p2, p3⟩
  have HSS : Hid (∀ W, Below w9.heap.size w9 W → W.cell? ⟨w.heap.size, 1, none⟩ = some (.slice (some ⟨bf, offf, none⟩) u.funcs.length fc) ∧ W.cell? ⟨bf, offf + k * 4, none⟩ = some (.string f.name) ∧ W.cell? ⟨bf, offf + k * 4 + 1, none⟩ = some (.int .i64 f.params) ∧ W.cell? ⟨bf, offf + k * 4 + 2, none⟩ = some (.int .i64 (n : Int)) ∧ W.cell? ⟨bf, offf + k * 4 + 3, none⟩ = some (.slice bA f.blocks.length bc)) := Lib.hid fun W hW => ⟨(hW.cell (p := ⟨w.heap.size, 1, none⟩) (by show w.heap.size < w9.heap.size; omega)).trans u1, (hW.cell (p := ⟨bf, offf + k * 4, none⟩) (by show bf < w9.heap.size; omega)).trans p0, (hW.cell (p := ⟨bf, offf + k * 4 + 1, none⟩) (by show bf < w9.heap.size; omega)).trans p1, (hW.cell (p := ⟨bf, offf + k * 4 + 2, none⟩) (by show bf < w9.heap.size; omega)).trans p2, (hW.cell (p := ⟨bf, offf + k * 4 + 3, none⟩) (by show bf < w9.heap.size; omega)).trans p3⟩
  have hgpos : Hid (0 < (givenL many).length) := Lib.hid (List.length_pos_of_mem ((mem_givenL (r := 0) Hm.out).2 (by unfold givenB halfC; rw [decide_eq_true_eq]; left; have := Hm.out; split <;> omega)))
  clear u0 u1 p0 p1 p2 p3
  go_region_held3 (fun W : World => W.cell? ⟨w.heap.size, 1, none⟩ = some (.slice (some ⟨bf, offf, none⟩) u.funcs.length fc) ∧ W.cell? ⟨bf, offf + k * 4, none⟩ = some (.string f.name) ∧ W.cell? ⟨bf, offf + k * 4 + 1, none⟩ = some (.int .i64 f.params) ∧ W.cell? ⟨bf, offf + k * 4 + 2, none⟩ = some (.int .i64 (n : Int)) ∧ W.cell? ⟨bf, offf + k * 4 + 3, none⟩ = some (.slice bA f.blocks.length bc)) (first | with_reducible exact hS0 | with_reducible exact hSg | go_keep) (first
   | (go_at_call 42; refine Given_calls many Hm.out _ _ ?_; intro wg vg hbg hog; have hb9g : Below w9.heap.size w9 wg := (by exact bl0 : Below w9.heap.size w9 _).trans (hbg.mono (by first | omega | (simp; done) | (simp; omega))); have hSg := HSS.out wg hb9g; obtain ⟨gg, cg, hvg, hgg1, hgg2, hgg3⟩ := own_some hog hgpos.out; subst hvg))
  ·have hI := own_intAt hog
   have hgs : w9.heap.size ≤ gg := hgg1
   have hgz := hb9g.size
   go_wp2
   go_meet
   refine ⟨gg, cg, wg.heap.size, wg.heap.size + 1, rfl, Lib.hid ?_, Lib.hid ?_, Lib.hid ⟨(hI.1.alloc _).alloc _, hI.2.2⟩, Lib.hid ?_, Lib.hid ⟨by omega, by omega, by omega, by omega, by omega⟩⟩
   ·rw [hB9]
    exact (hb9g.alloc hgz _).alloc (by simp; omega) _
   ·have := heap_alloc_new (wg.alloc (Obj.cells (Array.replicate n (Value.int IntKind.i64 0)) 3)) (Obj.cells #[.string f.name, .int .i64 f.params, .int .i64 (n : Int), .slice bA f.blocks.length bc, .slice cA n cc, .slice aA (rowX Ac n).length ac, .slice (some ⟨gg, 0, none⟩) (givenL many).length cg, .slice (some ⟨wg.heap.size, 0, none⟩) n n] 96)
    rwa [show (wg.alloc (Obj.cells (Array.replicate n (Value.int IntKind.i64 0)) 3)).heap.size = wg.heap.size + 1 by simp] at this
   ·exact intAt_zeros (blk_alloc (heap_alloc_new _ _) _)
  ·have hI := own_intAt hog
   have hgs : w9.heap.size + 1 ≤ gg := by simpa using hgg1
   have hgz : w9.heap.size + 1 ≤ wg.heap.size := by simpa using hbg.size
   go_wp2
   go_meet
   refine ⟨gg, cg, w9.heap.size, wg.heap.size, rfl, Lib.hid ?_, Lib.hid ?_, Lib.hid ⟨hI.1.alloc _, hI.2.2⟩, Lib.hid ?_, Lib.hid ⟨by omega, by omega, by omega, by omega, by omega⟩⟩
   ·rw [hB9]
    exact hb9g.alloc (by omega) _
   ·exact heap_alloc_new _ _
   ·exact (intAt_zeros (w := wg) (g := w9.heap.size) (by
     rw [hbg.block _ (by simp)]
     exact heap_alloc_new w9.drew _)).alloc _
 case rest =>
  rename World => V9
  clear p0 p1 p2 p3 u0 u1
  obtain ⟨gg, cg, gp, PB, rfl, Hbx, Hpb, Hgg, Hgp, Hne⟩ := hcut
  have hzc : B9 ≤ V9.heap.size := by have := Hbx.out.size; omega
  have hlt9 : w.heap.size + 1 < B9 ∧ X < B9 ∧ gw < B9 := by
   have h1 := blk_lt HF9.out
   have h2 := blk_lt HX9.out
   omega
  have hltc : PB < V9.heap.size ∧ gg < V9.heap.size ∧ gp < V9.heap.size := ⟨blk_lt Hpb.out, Hgg.out.1.lt, Hgp.out.lt⟩
  have HKB : Hid (∀ W, Grew (fun j => j = gp) V9 W → Below B9 w9 W) := Lib.hid fun W hG => Hbx.out.trans (hG.below (fun j hj e => by have := Hne.out; omega) hzc)
  have HKA : Hid (∀ W, Grew (fun j => j = gp) V9 W → Below w.heap.size w W) := Lib.hid fun W hG => Hb9.out.trans ((HKB.out W hG).mono (by omega))
  have HKP : Hid (∀ W, Grew (fun j => j = gp) V9 W → W.heap[PB]? = some (.cells #[.string f.name, .int .i64 f.params, .int .i64 (n : Int), .slice bA f.blocks.length bc, .slice cA n cc, .slice aA (rowX Ac n).length ac, .slice (some ⟨gg, 0, none⟩) (givenL many).length cg, .slice (some ⟨gp, 0, none⟩) n n] 96 (0, 0))) := Lib.hid fun W hG => (hG.block PB hltc.1 (fun e => by have := Hne.out; omega)).trans Hpb.out
  have HKX : Hid (∀ W, Grew (fun j => j = gp) V9 W → W.heap[X]? = some (.cells #[.slice (some ⟨gw, 0, none⟩) n n] 26 (0, 0))) := Lib.hid fun W hG => ((HKB.out W hG).block X hlt9.2.1).trans HX9.out
  have HKW : Hid (∀ W, Grew (fun j => j = gp) V9 W → IntAt gw (rowW (regsF f) n) W) := Lib.hid fun W hG => HI9.out.block fun o ho _ => ((HKB.out W hG).block gw hlt9.2.2).trans ho
  have HKG : Hid (∀ W, Grew (fun j => j = gp) V9 W → IntAt gg (givenL many) W) := Lib.hid fun W hG => Hgg.out.1.block fun o ho _ => (hG.block gg hltc.2.1 (fun e => by have := Hne.out; omega)).trans ho
  have HKR : Hid (∀ W, Grew (fun j => j = gp) V9 W → rpInt.slice.SL W B9 (rowsC C n) (.slice cA n cc)) := Lib.hid fun W hG => by
   have h1 := HR9.out
   rw [← hB9, Hrl.out] at h1
   exact h1.up (HKB.out W hG) (Nat.le_refl _)
  have HKC : Hid (∀ W, Grew (fun j => j = gp) V9 W → rpInt.SL W B9 (rowX Ac n) (.slice aA (rowX Ac n).length ac)) := Lib.hid fun W hG => by
   have h1 := Rp.SL.of_own (r := rpInt) (f := intCells) (fun _ _ _ => rfl) (fun _ => rfl) Hown9.out (Nat.le_refl _)
   rw [← hB9] at h1
   exact h1.up (HKB.out W hG) (Nat.le_refl _)
  have HKL : Hid (∀ W, Grew (fun j => j = gp) V9 W → rpBlk.SL W B9 f.blocks (.slice bA f.blocks.length bc)) := Lib.hid fun W hG => Hsb.out.up (HKA.out W hG) (by omega)
  have HKS : Hid (∀ W, Grew (fun j => j = gp) V9 W → rpInt.SL W W.heap.size Bg (.slice bgA Bg.length bgc)) := Lib.hid fun W hG => by
   have h1 := Hsl9.out
   rw [← hB9] at h1
   exact h1.up (HKB.out W hG) (by have := hG.size; omega)
  have HKF : Hid (∀ W, Grew (fun j => j = gp) V9 W → W.heap[w.heap.size + 1]? = some (.cells #[.int .i64 0, .int .i64 0] 30 (0, 0))) := Lib.hid fun W hG => ((HKB.out W hG).block _ hlt9.1).trans HF9.out
  obtain ⟨i0, hi0, hz0, hz1, hz2⟩ := info_parts info_intW
  have x7 : V9.cell? ⟨PB, 7, none⟩ = some (.slice (some ⟨gp, 0, none⟩) n n) := by rw [blk_cells Hpb.out]; rfl
  have lPB : PB < V9.heap.size := hltc.1
  obtain ⟨Y, hY⟩ : ∃ Y : Int → Bool, Y = fun r => decide (0 < wgt f r) || L 0 0 r := ⟨_, rfl⟩
  have HY := Lib.hid hY
  have HO0 : Hid (V9.ownsRow V9.heap.size 3 1 (.slice none 0 0) (rowX Y 0).length ((rowX Y 0).flatMap intCells)) := Lib.hid (World.ownsRow_nil _ _ _ _)
  have HG0 : Hid (Grew (fun j => j = gp) V9 V9) := Lib.hid (Grew.refl _ _)
  have HP0 : Hid (IntAt gp (plR n 0) V9) := Lib.hid (by rw [plR_zero]; exact Hgp.out)
  clear hY
  go_wp2
  clear x7
  go_loopg [16, 70] n (fun gh s16 s70 wr => ∃ r : Nat, r ≤ n ∧ gh = n - r ∧ s70 = .int .i64 (r : Int) ∧ Hid (wr.ownsRow V9.heap.size 3 1 s16 (rowX Y r).length ((rowX Y r).flatMap intCells)) ∧ Hid (Grew (fun j => j = gp) V9 wr) ∧ Hid (IntAt gp (plR n r) wr))
  case atStart => exact ⟨0, Nat.zero_le _, rfl, rfl, HO0, HG0, HP0⟩
  case round =>
   clear HO0 HG0 HP0
   obtain ⟨r, hr, rfl, rfl, HO, HG, HP⟩ := hrel
   have r1 : (0 : Int) ≤ (r : Int) := Int.natCast_nonneg _
   have hzr : V9.heap.size ≤ wr.heap.size := HG.out.size
   by_cases hlt : r < n
   ·have r2 : (r : Int) < (n : Int) := by omega
    have x7 : wr.cell? ⟨PB, 7, none⟩ = some (.slice (some ⟨gp, 0, none⟩) n n) := by rw [blk_cells (HKP.out _ HG.out)]; rfl
    have c0 := HP.out.cell (k := r) (by rw [plR_len hr]; exact hlt)
    have fz := HP.out.frozen r
    have lPr : PB < wr.heap.size := by omega
    have lgp : gp < wr.heap.size := by omega
    have h0 := HP.out.set r (-1)
    rw [plR_step hlt] at h0
    have HP1 := Lib.hid h0
    have HG1 := Lib.hid (HG.out.setCell ⟨gp, r, none⟩ (.inl rfl) (.int .i64 (-1)))
    have HO1 := Lib.hid (own_setCell_other HO.out (p := ⟨gp, r, none⟩) (fun e => by have := (HO.out.lt gp e).1; omega) (.int .i64 (-1)))
    have hst := rowX_succ Y r
    clear h0 HP HO
    go_upto_region 15 with fail
    obtain ⟨W1, hW1⟩ : ∃ W1, W1 = wr.setCell ⟨gp, r, none⟩ (.int .i64 (-1)) := ⟨_, rfl⟩
    rw [← hW1] at HP1 HG1 HO1 ⊢
    clear hW1 x7 c0 fz lPr lgp HG hzr
    obtain ⟨wt, hwt⟩ : ∃ wt, wt = wgt f (r : Int) := ⟨_, rfl⟩
    obtain ⟨y, hy⟩ : ∃ y, y = Y (r : Int) := ⟨_, rfl⟩
    have hyy : y = (decide (0 < wt) || decide ((r : Int) ∈ Bg)) := by rw [hy, HY.out, hwt, HBg.out]
    have x0 : W1.cell? ⟨X, 0, none⟩ = some (.slice (some ⟨gw, 0, none⟩) n n) := by rw [blk_cells (HKX.out _ HG1.out)]; rfl
    have c0 : W1.cell? ⟨gw, r, none⟩ = some (.int .i64 wt) := by
     have := (HKW.out _ HG1.out).cell (k := r) (by rw [rowW_len]; exact hlt)
     rw [rowW_at hlt] at this
     rw [hwt]
     exact this
    have lX := blk_lt (HKX.out _ HG1.out)
    have lw := (HKW.out _ HG1.out).lt
    rw [← hy] at hst
    have Hst := Lib.hid hst
    have Hyy := Lib.hid hyy
    clear hwt hy hst hyy
    go_cut [88] (fun s wx => s = .bool y ∧ wx = W1)
    case first =>
     by_cases hpos : 0 < wt
     ·have hy1 : y = true := by rw [Hyy.out, decide_eq_true hpos]; rfl
      subst hy1
      go_wp2
      go_meet
      exact ⟨rfl, rfl⟩
     ·have hy1 : y = decide ((r : Int) ∈ Bg) := by rw [Hyy.out, decide_eq_false hpos]; rfl
      have hneg : ¬ (0 : Int) < wt := hpos
      have hle : wt ≤ 0 := by omega
      go_wp2_with fail
      refine ContainsG_calls _ Bg (r : Int) _ (HKS.out W1 HG1.out) _ ?_
      rw [← hy1]
      clear hy1
      go_wp2
      go_meet
      exact ⟨rfl, rfl⟩
    case rest =>
     obtain ⟨rfl, hw⟩ := hcut
     subst hw
     rename World => W1
     clear x0 c0 lX lw
     have hzw : V9.heap.size ≤ W1.heap.size := HG1.out.size
     cases y
     ·rw [if_neg (by decide), List.append_nil] at Hst
      have HO2 : Hid (W1.ownsRow V9.heap.size 3 1 u16 (rowX Y (r + 1)).length ((rowX Y (r + 1)).flatMap intCells)) := Lib.hid (by rw [Hst.out]; exact HO1.out)
      clear HO1 Hst
      go_wp2
      go_roundg (n - (r + 1))
      case measure => omega
      case rel => exact ⟨r + 1, hlt, rfl, by go_num, HO2, HG1, HP1⟩
     ·rw [if_pos rfl] at Hst
      have hll := rowX_len Y r
      generalize hL1 : rowX Y r = L1 at *
      generalize hL2 : rowX Y (r + 1) = L2 at *
      have HL2 := Lib.hid hL2
      have HL1 := Lib.hid hL1
      have Hll := Lib.hid hll
      clear hL1 hL2 hll
      obtain ⟨A, c4, rfl⟩ := own_slice HO1.out
      go_wp2_with (at_builtin; refine wpList_append_own _ rfl _ _ 26 rfl V9.heap.size 3 i0 _ 1 8 Tryz.underlying26 hi0 hz0 hz1 hz2 rfl (by decide) (.slice A L1.length c4) L1.length (L1.flatMap intCells) rfl (HO1.out.alloc _) ⟨W1.heap.size, 0, none⟩ 1 1 [.int .i64 (r : Int)] rfl rfl ?_ ?_ ?_ ?_ ?_ ?_)
      any_goals have hll := Hll.out
      any_goals first | exact World.news_of_block (cs := #[.int .i64 (r : Int)]) (t := 3) (fr := (0, 0)) (heap_alloc_new W1 _) | (simp [Value.oneCell']; done) | (unfold maxLen; omega) | omega | (simp; done) | (simp; omega)
      intro v' w2 hown2 hgrow _
      have hown : ∀ j, some j = (Value.slice A L1.length c4).ownBlock → V9.heap.size ≤ j := fun j e => (HO1.out.lt j e.symm).1
      have hG2 : Grew (fun j => j = gp) V9 w2 := (HG1.out.alloc (Obj.cells #[.int .i64 (r : Int)] 3)).trans (Grew.of_grown hgrow) (fun j hj e => by have := hown j e.symm; omega)
      have hP2 : IntAt gp (plR n (r + 1)) w2 := (HP1.out.alloc (Obj.cells #[.int .i64 (r : Int)] 3)).block fun o ho _ => by
       rw [hgrow.block gp (by simp; omega) (fun e => by have := hown gp e; omega)]
       exact ho
      have hO2 : w2.ownsRow V9.heap.size 3 1 v' L2.length (L2.flatMap intCells) := by
       rw [Hst.out, List.length_append, List.flatMap_append]
       exact hown2
      have HG2 := Lib.hid hG2
      have HP2 := Lib.hid hP2
      have HO2 := Lib.hid hO2
      clear hown2 hgrow hown hG2 hP2 hO2 HG1 HP1 HO1 hll
      go_wp2
      go_roundg (n - (r + 1))
      case measure => omega
      case rel => exact ⟨r + 1, hlt, rfl, by go_num, by rw [HL2.out]; exact HO2, HG2, HP2⟩
   ·obtain rfl : r = n := by omega
    have r2 : ¬ (r : Int) < (r : Int) := by omega
    rw [plR_end] at HP
    have hDb : ∀ x ∈ rowX Y r, 0 ≤ x ∧ x < (r : Int) := fun x hx => (mem_rowX.1 hx).1
    have hDs := rowX_sorted Y r
    have hDl := rowX_len Y r
    have HDw : Hid (rowX Y r = wantL f r (L 0 0)) := Lib.hid (by rw [HY.out]; rfl)
    generalize rowX Y r = D at *
    have HDb := Lib.hid hDb
    have HDs := Lib.hid hDs
    have HDl := Lib.hid hDl
    obtain ⟨oA, oc, rfl⟩ := own_slice HO.out
    clear hDb hDs hDl
    go_upto_region 18 with fail
    go_cut [] (fun wx => Hid (D.length = 0 ∨ ∃ gs, oA = some ⟨gs, 0, none⟩ ∧ V9.heap.size ≤ gs ∧ IntAt gs (sortW (wgt f) D) wx) ∧ Hid (Grew (fun j => j = gp) V9 wx) ∧ Hid (IntAt gp (List.replicate r (-1)) wx))
    case first =>
     rcases HO.out.2 with ⟨hnil, hl0⟩ | ⟨gs, cap, cur, hsl, hgs, _⟩
     ·injection hnil with h1 h2 h3
      subst h1 h3
      have hl0' : D = [] := List.eq_nil_of_length_eq_zero hl0
      subst hl0'
      go_wp2_with fail
      refine sortS_nil 0 X _ _ (fun w1 hb1 => ?_)
      have HG2 := Lib.hid (HG.out.on hb1)
      have HP2 := Lib.hid (HP.out.below hb1)
      clear hb1
      go_wp2
      go_meet
      exact ⟨Lib.hid (.inl rfl), HG2, HP2⟩
     ·injection hsl with h1 h2 h3
      subst h1 h3
      have hI := (own_intAt HO.out).1
      have hC : CmpN (rowW (regsF f) r) gw r r X gs wr := ⟨HKW.out _ HG.out, rowW_len _ _, HKX.out _ HG.out, by omega, by omega⟩
      have HI := Lib.hid hI
      have HCC := Lib.hid hC
      clear hI hC
      go_wp2_with fail
      refine sortS_calls (rowW (regsF f) r) gw r r X gs D.length oc D rfl (by have := HDl.out; omega) HDs.out HDb.out _ HCC.out HI.out _ (fun w1 h1 => ?_)
      have h2 := h1.1
      rw [sortW_wgt HDb.out] at h2
      have HI2 := Lib.hid h2
      have HG2 : Hid (Grew (fun j => j = gp) V9 w1) := Lib.hid (HG.out.trans (Grew.of_grown h1.2.1) (fun j hj e => by have e : gs = j := Option.some.inj e; omega))
      have HP2 := Lib.hid (HP.out.keep h1.2.2 (by omega))
      clear h1 h2
      go_wp2
      go_meet
      exact ⟨Lib.hid (.inr ⟨gs, rfl, hgs, HI2.out⟩), HG2, HP2⟩
    case rest =>
     rename World => V18
     clear HO HG HP
     obtain ⟨HO, HG, HP⟩ := hcut
     have hz18 : V9.heap.size ≤ V18.heap.size := HG.out.size
     have hxx : ∀ b ∈ f.blocks, ∀ x ∈ b.list, x.op = 1 → x.a.reg = true → (0 ≤ x.dst ∧ x.dst < (r : Int)) ∧ (0 ≤ x.a.n ∧ x.a.n < (r : Int)) := fun b hb x hx h1 h2 => by
      have h3 := Hfo.out.ins b hb x hx
      have h4 := h3.a h2
      have h5 := h3.opDst (by rw [h1]; rfl) (by omega)
      have h6 := h3.dst
      rw [Hn.out] at h4 h6
      exact ⟨by omega, h4⟩
     have hmx : f.blocks.length ≤ maxLen ∧ (givenL many).length ≤ maxLen ∧ ∀ b ∈ f.blocks, b.list.length ≤ maxLen := by
      refine ⟨by have := Hfo.out.blocks; unfold maxLen; omega, by have := Hgg.out.2; omega, fun b hb => ?_⟩
      obtain ⟨j, hj, rfl⟩ := List.getElem_of_mem hb
      obtain ⟨_, _, _, _, _, _, _, _, hl, _⟩ := Hsb.out.blk_at hj
      exact hl.max
     have hrow : ∀ row ∈ rowsC C r, ∀ o ∈ row, 0 ≤ o ∧ o < (r : Int) := fun row hr0 o ho => by
      unfold rowsC at hr0
      obtain ⟨a, _, rfl⟩ := List.mem_map.1 hr0
      exact (mem_rowX.1 ho).1
     have hrow1 : ∀ q : Nat, ((rowsC C r).getD q []).length ≤ 100 := fun q => by
      unfold rowsC
      rw [List.getD_eq_getElem?_getD, List.getElem?_map]
      cases (ints r)[q]? with
      | none => exact Nat.zero_le _
      | some a => exact Nat.le_trans (rowX_len _ _) hn1
     have Hxx := Lib.hid hxx
     have Hmx := Lib.hid hmx
     have Hrw := Lib.hid hrow1
     obtain ⟨st, hst⟩ : ∃ st : List Int → Int → List Int, st = stepP1 f many Ac (rowsC C r) := ⟨_, rfl⟩
     have Hst := Lib.hid hst
     have hstl : ∀ pl x, (st pl x).length = pl.length := fun pl x => by rw [hst]; unfold stepP1; rw [List.length_set]
     have hfl : ∀ (xs : List Int) (pl : List Int), (xs.foldl st pl).length = pl.length := fun xs => by
      induction xs with
      | nil => exact fun pl => rfl
      | cons x xs ih => exact fun pl => by rw [List.foldl_cons, ih, hstl]
     have Hfl := Lib.hid (fun xs => (hfl xs (List.replicate r (-1))).trans (List.length_replicate ..))
     obtain ⟨D2, hD2⟩ : ∃ D2, D2 = sortW (wgt f) D := ⟨_, rfl⟩
     have hDl2 : D2.length = D.length := by rw [hD2, (sortW_perm _ _).length_eq]
     have hDb2 : ∀ x ∈ D2, 0 ≤ x ∧ x < (r : Int) := fun x hx => HDb.out x (by rw [hD2] at hx; exact (sortW_perm _ _).mem_iff.1 hx)
     rw [← hD2] at HO
     have HD2 := Lib.hid hD2
     have HDl2 := Lib.hid hDl2
     have HDb2 := Lib.hid hDb2
     have hfin0 : colourL f r many C Ac (L 0 0) = D2.foldl st (List.replicate r (-1)) := by
      unfold colourL
      rw [← HDw.out, ← hD2, hst]
     rw [hfin0] at HR
     have HP0 : Hid (IntAt gp ((D2.take 0).foldl st (List.replicate r (-1))) V18) := HP
     have HG0 : Hid (Grew (fun j => j = gp) V18 V18) := Lib.hid (Grew.refl _ _)
     clear hxx hmx hrow1 hst hstl hfl hD2 hDl2 hDb2 hfin0 HP
     go_wp2
     go_loopg [99] D.length (fun gh s99 wr => ∃ i : Nat, i ≤ D.length ∧ gh = D.length - i ∧ s99 = .int .i64 (i : Int) ∧ Hid (Grew (fun j => j = gp) V18 wr) ∧ Hid (IntAt gp ((D2.take i).foldl st (List.replicate r (-1))) wr))
     case atStart => exact ⟨0, Nat.zero_le _, rfl, rfl, HG0, HP0⟩
     case round =>
      clear HG0 HP0
      obtain ⟨i, hi, rfl, rfl, HG1, HP1⟩ := hrel
      have hdl := HDl.out
      have i1 : (0 : Int) ≤ (i : Int) := Int.natCast_nonneg _
      have hzr : V18.heap.size ≤ wr.heap.size := HG1.out.size
      have HG9 : Hid (Grew (fun j => j = gp) V9 wr) := Lib.hid (HG.out.trans HG1.out (fun _ _ e => e))
      by_cases hlt : i < D.length
      ·have i2 : (i : Int) < (D.length : Int) := by omega
       have hlt2 : i < D2.length := by rw [HDl2.out]; exact hlt
       obtain ⟨gs, rfl, hgs, hIs⟩ := HO.out.resolve_left (by omega)
       have hIw : IntAt gs D2 wr := hIs.block fun o ho _ => (HG1.out.block gs (blk_lt ho) (fun e => by omega)).trans ho
       have c0 := hIw.cell hlt2
       have lgs := hIw.lt
       have hge : iAt D2 i = D2[i] := iAt_mem hlt2
       obtain ⟨q, hq⟩ : ∃ q : Nat, D2[i] = (q : Int) := ⟨(D2[i]).toNat, by have := HDb2.out _ (List.getElem_mem hlt2); omega⟩
       have hqr : q < r := by have := HDb2.out _ (List.getElem_mem hlt2); omega
       rw [hge, hq] at c0
       have hstep : (D2.take (i + 1)).foldl st (List.replicate r (-1)) = st ((D2.take i).foldl st (List.replicate r (-1))) (q : Int) := by
        rw [List.take_succ_eq_append_getElem hlt2, List.foldl_append, hq]
        rfl
       have hpll := Hfl.out (D2.take i)
       obtain ⟨pl, hpl⟩ : ∃ pl, pl = (D2.take i).foldl st (List.replicate r (-1)) := ⟨_, rfl⟩
       rw [← hpl] at hpll hstep HP1
       obtain ⟨P, hP⟩ : ∃ P : PW, P = ⟨f, rowsC C r, rowX Ac r, givenL many, pl, .string f.name, bA, cA, aA, bc, cc, ac, cg, r, PB, gp, gg, r, B9, hpll, hrow⟩ := ⟨_, rfl⟩
       have hPN : PaintN P wr := by
        subst hP
        have h1 := HKP.out _ HG9.out
        rw [← Hn.out] at h1
        refine ⟨?_, ?_, HKC.out _ HG9.out, HKL.out _ HG9.out, HP1.out, HKG.out _ HG9.out, ⟨Nat.le_trans Hgg.out.2.1 Hgg.out.2.2, Hgg.out.2.1⟩, by show B9 ≤ wr.heap.size; omega⟩
        ·show wr.heap[PB]? = _
         rw [Hrl.out]
         exact h1
        ·show rpInt.slice.SL wr B9 (rowsC C r) (.slice cA (rowsC C r).length cc)
         rw [Hrl.out]
         exact HKR.out _ HG9.out
       have hpi := paint_is P many Hm.out Ac q (by subst hP; exact hqr) (by subst hP; exact Hxx.out) (by subst hP; rfl) (by subst hP; rfl) (by subst hP; exact Hrl.out)
       have hpc := paint_calls P q (by subst hP; show q < (rowsC C r).length; rw [Hrl.out]; exact hqr) (by subst hP; exact Hxx.out) (by subst hP; exact Hmx.out) (by subst hP; exact Hrw.out q) wr.drew (hPN.below (Below.refl _ _).drew)
       rw [show P.PB = PB by subst hP; rfl] at hpc
       have hset : st pl (q : Int) = pl.set q (P.paint q) := by
        rw [hpi, Hst.out]
        subst hP
        unfold stepP1
        rw [Int.toNat_natCast]
       obtain ⟨pp, hpp⟩ : ∃ pp, pp = P.paint q := ⟨_, rfl⟩
       rw [← hpp] at hpc hset
       rw [hset] at hstep
       have Hstep := Lib.hid hstep
       have Hpc := Lib.hid hpc
       have Hpll := Lib.hid hpll
       clear hPN hpi hpc hset hstep hpp hP hpl hge hq hIs
       have x7 : wr.cell? ⟨PB, 7, none⟩ = some (.slice (some ⟨gp, 0, none⟩) r r) := by rw [blk_cells (HKP.out _ HG9.out)]; rfl
       have lPr : PB < wr.heap.size := by omega
       have q1 : (0 : Int) ≤ (q : Int) := Int.natCast_nonneg _
       have q2 : (q : Int) < (r : Int) := by omega
       go_upto_region 22 with fail
       clear c0 lgs
       have hS0 : wr.cell? ⟨PB, 7, none⟩ = some (.slice (some ⟨gp, 0, none⟩) r r) := x7
       clear x7
       go_region_held3 (fun W : World => W.cell? ⟨PB, 7, none⟩ = some (.slice (some ⟨gp, 0, none⟩) r r)) (first | with_reducible exact hS0 | with_reducible exact hSy | with_reducible exact hSz | go_keep) ((go_at_call 46; refine Hpc.out _ ?_; intro wy hby; have hbw : Below wr.heap.size wr wy := (by exact bl0 : Below wr.heap.size wr wr.drew).trans hby; have hGy : Grew (fun j => j = gp) V18 wy := HG1.out.on hbw; have hPy : IntAt gp pl wy := HP1.out.below hbw; have hSy : wy.cell? ⟨PB, 7, none⟩ = some (.slice (some ⟨gp, 0, none⟩) r r) := (hbw.cell (p := ⟨PB, 7, none⟩) lPr).trans hS0; have hcy := hPy.cell (k := q) (by rw [Hpll.out]; exact hqr); have hfy := hPy.frozen q; have lgy := hPy.lt; have hSz : (wy.setCell ⟨gp, q, none⟩ (.int .i64 pp)).cell? ⟨PB, 7, none⟩ = some (.slice (some ⟨gp, 0, none⟩) r r) := (World.cell?_of_block (Below.heap_setCell _ _ _ _ (fun e => by have e : PB = gp := e; have := Hne.out; omega))).trans hSy))
       have HG2 := Lib.hid (hGy.setCell ⟨gp, q, none⟩ (.inl rfl) (.int .i64 pp))
       have HP2 := Lib.hid (hPy.set q pp)
       rw [← Hstep.out] at HP2
       clear hSz hSy hcy hfy lgy hPy hGy hbw hby hS0
       go_wp2
       go_roundg (D.length - (i + 1))
       case measure => omega
       case rel =>
        exact ⟨i + 1, hlt, rfl, by go_num, HG2, HP2⟩
      ·obtain rfl : i = D.length := by omega
       have i2 : ¬ (D.length : Int) < (D.length : Int) := by omega
       rw [show D2.take D.length = D2 by rw [← HDl2.out, List.take_length]] at HP1
       have x7 : wr.cell? ⟨PB, 7, none⟩ = some (.slice (some ⟨gp, 0, none⟩) r r) := by rw [blk_cells (HKP.out _ HG9.out)]; rfl
       have lPr : PB < wr.heap.size := by omega
       obtain ⟨f0, f1⟩ := cells_blk (HKF.out _ HG9.out)
       have lF := blk_lt (HKF.out _ HG9.out)
       have y0 : wr.frozen? ⟨w.heap.size + 1, 0, none⟩ = false := by simp [World.frozen?, HKF.out _ HG9.out]
       have y1 : wr.frozen? ⟨w.heap.size + 1, 1, none⟩ = false := by simp [World.frozen?, HKF.out _ HG9.out]
       have hbl := below_sets (HKA.out _ HG9.out) [(⟨w.heap.size + 1, 0, none⟩, .int .i64 0), (⟨w.heap.size + 1, 1, none⟩, .int .i64 0)] (by simp)
       have hgpn : gp ≠ w.heap.size + 1 := by have := Hne.out; omega
       have hIz : IntAt gp (D2.foldl st (List.replicate r (-1))) ((wr.setCell ⟨w.heap.size + 1, 0, none⟩ (.int .i64 0)).setCell ⟨w.heap.size + 1, 1, none⟩ (.int .i64 0)) := HP1.out.block fun o ho _ => by
        rw [Below.heap_setCell _ _ _ _ hgpn, Below.heap_setCell _ _ _ _ hgpn]
        exact ho
       have Hbl := Lib.hid hbl
       have HIz := Lib.hid hIz
       have Hgp9 : Hid (w.heap.size ≤ gp) := Lib.hid (by have := Hne.out; omega)
       clear hbl hIz HP1 HG1
       go_wp2
       refine bodyPost_ret (v := .tuple #[.slice (some ⟨gp, 0, none⟩) r r, (.agg #[.int .i64 (((0 : Int), (0 : Int))).1, .int .i64 (((0 : Int), (0 : Int))).2])]) (by simp [results, Tryz.results20, go_sem, f0, f1, lF]) rfl ?_
       first | exact HR.out _ gp Hbl.out Hgp9.out HIz.out | exact HR.out _ gp (Hbl.out.drew) Hgp9.out HIz.out
end Go.Proofs.YtdanebboiekieaaGreatDoor
