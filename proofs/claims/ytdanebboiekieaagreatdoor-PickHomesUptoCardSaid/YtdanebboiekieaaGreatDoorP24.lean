/- The walks, part 24. -/
import Derived.Test.YtdanebboiekieaaGreatDoorP23
set_option linter.unusedSimpArgs false
set_option linter.unusedVariables false
set_option maxRecDepth 100000
set_option maxHeartbeats 16000000
namespace Go.Proofs.YtdanebboiekieaaGreatDoor
open Go.RowKit
theorem q8l {w : World} {g n : Nat} (h : w.heap[g]? = some (.cells (Array.replicate n (Value.int .i64 0)) 3 (0, 0))) : IntAt g (List.replicate n 0) w := by
 refine ⟨_, h, fun k hk => ?_⟩;rw [List.length_replicate] at hk;unfold iAt;rw [List.getD_eq_getElem?_getD, List.getElem?_replicate, if_pos hk];simp [hk]
def plR (n r : Nat) : List Int := List.replicate r (-1) ++ List.replicate (n - r) 0
theorem qm0 (n : Nat) : plR n 0 = List.replicate n 0 := rfl
theorem qnm {n r : Nat} (h : r ≤ n) : (plR n r).length = n := by
 unfold plR;rw [List.length_append, List.length_replicate, List.length_replicate];omega
theorem qnl (n : Nat) : plR n n = List.replicate n (-1) := by
 unfold plR;rw [Nat.sub_self];simp
theorem qlz {n r : Nat} (h : r < n) : (plR n r).set r (-1) = plR n (r + 1) := by
 unfold plR;rw [List.set_append_right _ _ (by simp), List.length_replicate, Nat.sub_self, show n - r = (n - (r + 1)) + 1 by omega, List.replicate_succ, List.set_cons_zero, List.replicate_succ'];simp
theorem qb8 (C : Int -> Int -> Bool) (L : Nat -> Nat -> Int -> Bool) (Ac : Int -> Bool) (u : Unt) (hu : UntI u) (hok : qo u = (0, 0)) (k : Nat) (f : UFun) (hkf : u.funcs[k]? = some f) (hnp : ∀ b ∈ f.blocks, b.phis = []) (hto : ∀ b ∈ f.blocks, b.end_.to.length ≤ 2) (n : Nat) (hn : f.regs = (n : Int)) (hL : ∀ i k r, L i k r = true ↔ LvI f r i k) (hC : ∀ a b, C a b = true ↔ Clash f a b) (hA : ∀ z, Ac z = true ↔ q9f f z) (many : Int) (hm : 2 ≤ many ∧ many ≤ 14) (gA fA : Option Addr) (gn gc fc : Nat) (w : World) (hW : Ways w) (hg : rpGlobal.SL w w.heap.size u.globals (.slice gA gn gc)) (hf : rpFun.SL w w.heap.size u.funcs (.slice fA u.funcs.length fc)) (R : Ending -> World -> Prop)
 (hR : ∀ w' g, Below w.heap.size w w' -> w.heap.size ≤ g -> IntAt g (qy f n many C Ac (L 0 0)) w' -> R (.returned (.tuple #[.slice (some ⟨g, 0, none⟩) n n, (.agg #[.int .i64 (((0 : Int), (0 : Int))).1, .int .i64 (((0 : Int), (0 : Int))).2])])) w') :
 Calls Tryz.prog 20 #[.agg #[.slice gA gn gc, .slice fA u.funcs.length fc], .int .i64 (k : Int), .int .i64 many] w R := by
 have hfo := funOk hok hkf;have hn1 : n ≤ 100 := by have := hfo.regs.2; omega
 obtain ⟨hku, hfk⟩ := List.getElem?_eq_some_iff.1 hkf;obtain ⟨bf, offf, vb, hfA, hbf, hsb, qf0, qf1, qf2, qf3⟩ := hf.fun_at hku;subst hfA;rw [hfk] at qf0 qf1 qf2 hsb;rw [hn] at qf2;obtain ⟨bA, bc, rfl, _, _, _⟩ := hsb.cases_;have k0 := nnn k;have k1 : (k : Int) < (u.funcs.length : Int) := by omega
 obtain ⟨HR, Hg, Hf, HW, Hk, Hkf, Hnp, Hto, Hn, HL, HC, HA⟩ := lh12 hR hg hf hW hok hkf hnp hto hn hL hC hA;obtain ⟨Hfo, Hsb, Hm⟩ := lh3 hfo hsb hm;clear hR hg hf hW hok hkf hnp hto hn hL hC hA hfo hsb hfk
 go_enter Tryz.func20, Tryz.ntmps20
 go_upto_region 1 with fail
 obtain ⟨W2, hW2, hb2, hU2, hF2⟩ := box2 w (.cells #[.slice gA gn gc, .slice (some ⟨bf, offf, none⟩) u.funcs.length fc] 25) (.cells #[.int .i64 0, .int .i64 0] 30) rfl;rw [<- hW2];obtain ⟨Hb2, HU2, HF2⟩ := lh3 hb2 hU2 hF2;have hz2 := hb2.size;obtain ⟨u0, u1, lU⟩ := cbl hU2;clear hW2 hb2 hU2 hF2
 go_wp2_with fail
 refine qel C L u hu Hk.out k f Hkf.out Hnp.out Hto.out n Hn.out HL.out HC.out _ _ _ _ _ _ (HW.out.up Hb2.out HW.out.1) (Hg.out.up Hb2.out hz2) (Hf.out.up Hb2.out hz2) _ (fun w3 v3 hb3 hsl3 => ?_);obtain ⟨cA, cc, rfl, hm3, hc3, hsl3⟩ := hsl3.cases_;have hrl : (rowsC C n).length = n := by unfold rowsC; rw [List.length_map, q2x]
 rw [hrl] at hm3 hc3;obtain ⟨Hsl3, Hrl⟩ := lh2 hsl3 hrl;rw [hrl];have Hb3 := btt Hb2 hb3 hz2;have HU3 := bkk hb3 HU2;have HF3 := bkk hb3 HF2;have hz3 := Hb3.out.size;clear hb3 u0 u1 lU hsl3 hrl;obtain ⟨W4, hW4, hb34, hE4⟩ := box1 w3 (.cells #[.int .i64 0, .int .i64 0] 30) rfl;have hz34 := hb34.size;have Hb4 := btt Hb3 hb34 hz3;have HU4 := bkk hb34 HU3;have HF4 := bkk hb34 HF3;have Hsl4 := lh (Hsl3.out.SL.up hb34 hz34);have HW4 := lh hW4.symm;have HE4 := lh hE4;have hz4 := Hb4.out.size;clear hW4 hb34 hE4;obtain ⟨e0, e1, lE⟩ := cbl HE4.out
 go_upto_region 2 with fail
 rw [HW4.out]
 go_wp2_with fail
 refine qd _ _ _ _ _ ?_;rw [show decide ((2 : Int) ≤ many ∧ many ≤ 14) = true from decide_eq_true Hm.out];clear e0 e1 lE;obtain ⟨u0, u1, lU⟩ := cbl HU4.out
 go_wp2_with fail
 refine qb5 Ac L u hu Hk.out k f Hkf.out Hnp.out Hto.out n Hn.out HL.out HA.out _ _ _ _ _ _ (HW.out.up Hb4.out HW.out.1) (Hg.out.up Hb4.out hz4) (Hf.out.up Hb4.out hz4) _ (fun w5 v5 hb5 hown5 => ?_);obtain ⟨aA, ac, rfl⟩ := qj hown5;have Hown5 := lh hown5;have hz45 := hb5.size;have Hb5 := btt Hb4 hb5 hz4;have HU5 := bkk hb5 HU4;have HF5 := bkk hb5 HF4;have Hsl5 := lh (Hsl4.out.up hb5 hz45);clear hb5 hown5 u0 u1 lU;obtain ⟨W6, hW6⟩ : ∃ W6, W6 = w5.alloc (Obj.cells #[.int .i64 0, .int .i64 0] 30) := ⟨_, rfl⟩;have hb56 : Below w5.heap.size w5 W6 := by subst hW6; exact bl0
 have hz56 := hb56.size;have hz5 := Hb5.out.size;have Hb6 := btt Hb5 hb56 hz5;have HU6 := bkk hb56 HU5;have HF6 := bkk hb56 HF5;have Hsl6 := lh (Hsl5.out.up hb56 hz56);have Hown6 := lh (q0d Hown5.out hb56);have HW6 := lh hW6.symm;have hz6 := Hb6.out.size;clear hW6 hb56
 go_upto_region 7 with fail
 rw [HW6.out];obtain ⟨u0, u1, lU⟩ := cbl HU6.out
 go_wp2_with fail
 refine qad u hu Hk.out k f Hkf.out Hnp.out n Hn.out _ _ _ _ _ _ (HW.out.up Hb6.out HW.out.1) (Hg.out.up Hb6.out hz6) (Hf.out.up Hb6.out hz6) _ (fun w7 gw hb7 hgw hI7 => ?_);have hz67 := hb7.size;have Hb7 := btt Hb6 hb7 hz6;have HU7 := bkk hb7 HU6;have HF7 := bkk hb7 HF6;have Hsl7 := lh (Hsl6.out.up hb7 hz67);have Hown7 := lh (q0d Hown6.out hb7);have HI7 := lh hI7;have hz7 := Hb7.out.size;clear hb7 u0 u1 lU hI7;obtain ⟨W8, hW8⟩ : ∃ W8, W8 = (w7.alloc (Obj.cells #[.slice (some ⟨gw, 0, none⟩) n n] 26)).alloc (Obj.cells #[.int .i64 0, .int .i64 0] 30) := ⟨_, rfl⟩;have hb78 : Below w7.heap.size w7 W8 := by subst hW8; exact bl0
 have hX8 : W8.heap[w7.heap.size]? = some (.cells #[.slice (some ⟨gw, 0, none⟩) n n] 26 (0, 0)) := by subst hW8; exact qf (heap_alloc_new _ _) _
 have hz78 := hb78.size;have Hb8 := btt Hb7 hb78 hz7;have HU8 := bkk hb78 HU7;have HF8 := bkk hb78 HF7;have Hsl8 := lh (Hsl7.out.up hb78 hz78);have Hown8 := lh (q0d Hown7.out hb78);have HI8 := lh (HI7.out.below hb78);have HX8 := lh hX8;have HW8 := lh hW8.symm;have hz8 := Hb8.out.size;clear hW8 hb78 hX8
 go_upto_region 8 with fail
 rw [HW8.out];obtain ⟨u0, u1, lU⟩ := cbl HU8.out
 go_wp2_with fail
 refine q5k u hu Hk.out k f Hkf.out Hnp.out Hto.out n Hn.out _ _ _ _ _ _ _ (HW.out.up Hb8.out HW.out.1) (Hg.out.up Hb8.out hz8) (Hf.out.up Hb8.out hz8) _ (fun w9 S v9 hb9 hsl9 hSn hSL => ?_);obtain ⟨bgA, bgc, rfl, hm9, hc9, hsl9⟩ := hsl9.cases_
 have hBg : ∀ z, decide (z ∈ setL S) = L 0 0 z := fun z => by
  rw [Bool.eq_iff_iff, decide_eq_true_eq, mem_setL, HL.out]
  constructor
  ·rintro ⟨x, rfl, h1, h2⟩;exact ⟨x, rfl, (hSL x (by omega)).1 h2⟩
  ·rintro ⟨x, rfl, h2⟩;have := qlq Hfo.out h2;rw [Hn.out] at this;exact ⟨x, rfl, by omega, (hSL x (by omega)).2 h2⟩
 have HBg := lh hBg;have hz89 := hb9.size;have Hsl9 := lh hsl9.SL;generalize setL S = Bg at *;have Hb9 := btt Hb8 hb9 hz8;have HU9 := bkk hb9 HU8;have HF9 := bkk hb9 HF8;have HR9 := lh (Hsl8.out.up hb9 hz89);have Hown9 := lh (q0d Hown8.out hb9);have HI9 := lh (HI8.out.below hb9);have HX9 := bkk hb9 HX8;have hz9 := Hb9.out.size;obtain ⟨X, hX⟩ := nmm (w7.heap.size);rw [<- hX] at HX9 ⊢
 have hXlt : w.heap.size + 1 < X ∧ gw < X := by
  rw [hX];exact ⟨qa HF7.out, HI7.out.lt⟩
 have Hgw : Hid (w.heap.size ≤ gw) := lh (by omega);clear hb9 u0 u1 lU hsl9 hSn hSL hBg hX HX8 HI8 Hown8 Hsl8 HF8 HU8 Hb8 HW8 HI7 Hown7 Hsl7 HF7 HU7 Hb7 HW6 Hown6 Hsl6 HF6 HU6 Hb6 Hsl5 HF5 HU5 Hb5 Hown5 HE4 HW4 Hsl4 HF4 HU4 Hb4 HF3 HU3 Hb3 Hsl3 HF2 HU2 Hb2 hgw hz89 hz78 hz67 hz56 hz45 hz34 hz2 hz3 hz4 hz5 hz6 hz7 hz8
 go_upto_region 9 with fail
 have p0 := (Hb9.out.cell (p := ⟨bf, offf + k * 4, none⟩) hbf).trans qf0;have p1 := (Hb9.out.cell (p := ⟨bf, offf + k * 4 + 1, none⟩) hbf).trans qf1;have p2 := (Hb9.out.cell (p := ⟨bf, offf + k * 4 + 2, none⟩) hbf).trans qf2;have p3 := (Hb9.out.cell (p := ⟨bf, offf + k * 4 + 3, none⟩) hbf).trans qf3;obtain ⟨u0, u1⟩ := qi HU9.out;obtain ⟨B9, hB9⟩ := nmm (w9.heap.size);have hbf9 : bf < B9 := by omega
 have hU9 : w.heap.size < B9 := by rw [hB9]; exact qa HU9.out
 have HBe := lh hB9
 go_cut [15] (fun s15 wx => ∃ (gg cg gp PB : Nat), s15 = .pointer (some ⟨PB, 0, none⟩) ∧ Hid (Below B9 w9 wx) ∧ Hid (wx.heap[PB]? = some (.cells #[.string f.name, .int .i64 f.params, .int .i64 (n : Int), .slice bA f.blocks.length bc, .slice cA n cc, .slice aA (rowX Ac n).length ac, .slice (some ⟨gg, 0, none⟩) (q2c many).length cg, .slice (some ⟨gp, 0, none⟩) n n] 96 (0, 0))) ∧ Hid (IntAt gg (q2c many) wx ∧ (q2c many).length ≤ cg ∧ cg ≤ maxLen) ∧ Hid (IntAt gp (List.replicate n 0) wx) ∧ Hid (B9 ≤ gg ∧ B9 ≤ gp ∧ B9 ≤ PB ∧ gg ≠ gp ∧ PB ≠ gp))
 case first =>
  have hmk : ∀ W : World, (Instr.makeSlice 26 (.int .i64 (n : Int)) (.int .i64 (n : Int))).run Tryz.prog W = .ok (.slice (some ⟨W.heap.size, 0, none⟩) n n) (W.alloc (.cells (Array.replicate n (Value.int .i64 0)) 3)) := fun W => q9w W n (by omega);have hS0 : w9.cell? ⟨w.heap.size, 1, none⟩ = some (.slice (some ⟨bf, offf, none⟩) u.funcs.length fc) ∧ w9.cell? ⟨bf, offf + k * 4, none⟩ = some (.string f.name) ∧ w9.cell? ⟨bf, offf + k * 4 + 1, none⟩ = some (.int .i64 f.params) ∧ w9.cell? ⟨bf, offf + k * 4 + 2, none⟩ = some (.int .i64 (n : Int)) ∧ w9.cell? ⟨bf, offf + k * 4 + 3, none⟩ = some (.slice bA f.blocks.length bc) := ⟨u1, p0, p1, p2, p3⟩;have HSS : Hid (∀ W, Below w9.heap.size w9 W -> W.cell? ⟨w.heap.size, 1, none⟩ = some (.slice (some ⟨bf, offf, none⟩) u.funcs.length fc) ∧ W.cell? ⟨bf, offf + k * 4, none⟩ = some (.string f.name) ∧ W.cell? ⟨bf, offf + k * 4 + 1, none⟩ = some (.int .i64 f.params) ∧ W.cell? ⟨bf, offf + k * 4 + 2, none⟩ = some (.int .i64 (n : Int)) ∧ W.cell? ⟨bf, offf + k * 4 + 3, none⟩ = some (.slice bA f.blocks.length bc)) := lh fun W hW => ⟨(hW.cell (p := ⟨w.heap.size, 1, none⟩) (by show w.heap.size < w9.heap.size; omega)).trans u1, (hW.cell (p := ⟨bf, offf + k * 4, none⟩) (by show bf < w9.heap.size; omega)).trans p0, (hW.cell (p := ⟨bf, offf + k * 4 + 1, none⟩) (by show bf < w9.heap.size; omega)).trans p1, (hW.cell (p := ⟨bf, offf + k * 4 + 2, none⟩) (by show bf < w9.heap.size; omega)).trans p2, (hW.cell (p := ⟨bf, offf + k * 4 + 3, none⟩) (by show bf < w9.heap.size; omega)).trans p3⟩;have hgpos : Hid (0 < (q2c many).length) := lh (List.length_pos_of_mem ((q9x (r := 0) Hm.out).2 (by unfold q2e halfC; rw [decide_eq_true_eq]; left; have := Hm.out; split <;> omega)))
  clear u0 u1 p0 p1 p2 p3
  go_region_held3 (fun W : World => W.cell? ⟨w.heap.size, 1, none⟩ = some (.slice (some ⟨bf, offf, none⟩) u.funcs.length fc) ∧ W.cell? ⟨bf, offf + k * 4, none⟩ = some (.string f.name) ∧ W.cell? ⟨bf, offf + k * 4 + 1, none⟩ = some (.int .i64 f.params) ∧ W.cell? ⟨bf, offf + k * 4 + 2, none⟩ = some (.int .i64 (n : Int)) ∧ W.cell? ⟨bf, offf + k * 4 + 3, none⟩ = some (.slice bA f.blocks.length bc)) (first | with_reducible exact hS0 | with_reducible exact hSg | go_keep) (first
   | (go_at_call 42; refine qdc many Hm.out _ _ ?_; intro wg vg hbg hog; have hb9g : Below w9.heap.size w9 wg := (by exact bl0 : Below w9.heap.size w9 _).trans (hbg.mono (by first | omega | (simp; done) | (simp; omega))); have hSg := HSS.out wg hb9g; obtain ⟨gg, cg, hvg, hgg1, hgg2, hgg3⟩ := q3v hog hgpos.out; subst hvg))
  ·have hI := q4u hog;have hgs : w9.heap.size ≤ gg := hgg1;have hgz := hb9g.size;go_wp2;go_meet;refine ⟨gg, cg, wg.heap.size, wg.heap.size + 1, rfl, lh ?_, lh ?_, lh ⟨(hI.1.alloc _).alloc _, hI.2.2⟩, lh ?_, lh ⟨by omega, by omega, by omega, by omega, by omega⟩⟩
   ·rw [hB9];exact (hb9g.alloc hgz _).alloc (by simp; omega) _
   ·have := heap_alloc_new (wg.alloc (Obj.cells (Array.replicate n (Value.int IntKind.i64 0)) 3)) (Obj.cells #[.string f.name, .int .i64 f.params, .int .i64 (n : Int), .slice bA f.blocks.length bc, .slice cA n cc, .slice aA (rowX Ac n).length ac, .slice (some ⟨gg, 0, none⟩) (q2c many).length cg, .slice (some ⟨wg.heap.size, 0, none⟩) n n] 96)
    rwa [show (wg.alloc (Obj.cells (Array.replicate n (Value.int IntKind.i64 0)) 3)).heap.size = wg.heap.size + 1 by simp] at this
   ·exact q8l (qf (heap_alloc_new _ _) _)
  ·have hI := q4u hog;have hgs : w9.heap.size + 1 ≤ gg := by simpa using hgg1
   have hgz : w9.heap.size + 1 ≤ wg.heap.size := by simpa using hbg.size
   go_wp2;go_meet;refine ⟨gg, cg, w9.heap.size, wg.heap.size, rfl, lh ?_, lh ?_, lh ⟨hI.1.alloc _, hI.2.2⟩, lh ?_, lh ⟨by omega, by omega, by omega, by omega, by omega⟩⟩
   ·rw [hB9];exact hb9g.alloc (by omega) _
   ·exact heap_alloc_new _ _
   ·exact (q8l (w := wg) (g := w9.heap.size) (by
     rw [hbg.block _ (by simp)];exact heap_alloc_new w9.drew _)).alloc _
 case rest =>
  rename World => V9;clear p0 p1 p2 p3 u0 u1;obtain ⟨gg, cg, gp, PB, rfl, Hbx, Hpb, Hgg, Hgp, Hne⟩ := hcut;have hzc : B9 ≤ V9.heap.size := by have := Hbx.out.size; omega
  have hlt9 : w.heap.size + 1 < B9 ∧ X < B9 ∧ gw < B9 := by
   have h1 := qa HF9.out;have h2 := qa HX9.out;omega
  have hltc : PB < V9.heap.size ∧ gg < V9.heap.size ∧ gp < V9.heap.size := ⟨qa Hpb.out, Hgg.out.1.lt, Hgp.out.lt⟩;have HKB : Hid (∀ W, Grew (fun j => j = gp) V9 W -> Below B9 w9 W) := lh fun W hG => Hbx.out.trans (hG.below (fun j hj e => by have := Hne.out; omega) hzc);have HKA : Hid (∀ W, Grew (fun j => j = gp) V9 W -> Below w.heap.size w W) := lh fun W hG => Hb9.out.trans ((HKB.out W hG).mono (by omega));have HKP : Hid (∀ W, Grew (fun j => j = gp) V9 W -> W.heap[PB]? = some (.cells #[.string f.name, .int .i64 f.params, .int .i64 (n : Int), .slice bA f.blocks.length bc, .slice cA n cc, .slice aA (rowX Ac n).length ac, .slice (some ⟨gg, 0, none⟩) (q2c many).length cg, .slice (some ⟨gp, 0, none⟩) n n] 96 (0, 0))) := lh fun W hG => (hG.block PB hltc.1 (fun e => by have := Hne.out; omega)).trans Hpb.out;have HKX : Hid (∀ W, Grew (fun j => j = gp) V9 W -> W.heap[X]? = some (.cells #[.slice (some ⟨gw, 0, none⟩) n n] 26 (0, 0))) := lh fun W hG => ((HKB.out W hG).block X hlt9.2.1).trans HX9.out;have HKW : Hid (∀ W, Grew (fun j => j = gp) V9 W -> IntAt gw (rowW (regsF f) n) W) := lh fun W hG => HI9.out.block fun o ho _ => ((HKB.out W hG).block gw hlt9.2.2).trans ho;have HKG : Hid (∀ W, Grew (fun j => j = gp) V9 W -> IntAt gg (q2c many) W) := lh fun W hG => Hgg.out.1.block fun o ho _ => (hG.block gg hltc.2.1 (fun e => by have := Hne.out; omega)).trans ho
  have HKR : Hid (∀ W, Grew (fun j => j = gp) V9 W -> rpInt.slice.SL W B9 (rowsC C n) (.slice cA n cc)) := lh fun W hG => by
   have h1 := HR9.out;rw [<- hB9, Hrl.out] at h1;exact h1.up (HKB.out W hG) (Nat.le_refl _)
  have HKC : Hid (∀ W, Grew (fun j => j = gp) V9 W -> rpInt.SL W B9 (rowX Ac n) (.slice aA (rowX Ac n).length ac)) := lh fun W hG => by
   have h1 := Rp.SL.of_own (r := rpInt) (f := qh) (fun _ _ _ => rfl) (fun _ => rfl) Hown9.out (Nat.le_refl _);rw [<- hB9] at h1;exact h1.up (HKB.out W hG) (Nat.le_refl _)
  have HKL : Hid (∀ W, Grew (fun j => j = gp) V9 W -> rpBlk.SL W B9 f.blocks (.slice bA f.blocks.length bc)) := lh fun W hG => Hsb.out.up (HKA.out W hG) (by omega)
  have HKS : Hid (∀ W, Grew (fun j => j = gp) V9 W -> rpInt.SL W W.heap.size Bg (.slice bgA Bg.length bgc)) := lh fun W hG => by
   have h1 := Hsl9.out;rw [<- hB9] at h1;exact h1.up (HKB.out W hG) (by have := hG.size; omega)
  have HKF : Hid (∀ W, Grew (fun j => j = gp) V9 W -> W.heap[w.heap.size + 1]? = some (.cells #[.int .i64 0, .int .i64 0] 30 (0, 0))) := lh fun W hG => ((HKB.out W hG).block _ hlt9.1).trans HF9.out;obtain ⟨i0, hi0, hz0, hz1, hz2⟩ := info_parts q44;have x7 : V9.cell? ⟨PB, 7, none⟩ = some (.slice (some ⟨gp, 0, none⟩) n n) := cqq Hpb.out;have lPB : PB < V9.heap.size := hltc.1;obtain ⟨Y, hY⟩ : ∃ Y : Int -> Bool, Y = fun r => decide (0 < wgt f r) || L 0 0 r := ⟨_, rfl⟩;have HY := lh hY;have HO0 : Hid (V9.ownsRow V9.heap.size 3 1 (.slice none 0 0) (rowX Y 0).length ((rowX Y 0).flatMap qh)) := lh (World.ownsRow_nil _ _ _ _);have HG0 : Hid (Grew (fun j => j = gp) V9 V9) := lh (Grew.refl _ _);have HP0 : Hid (IntAt gp (plR n 0) V9) := lh (by rw [qm0]; exact Hgp.out);clear hY;go_wp2;clear x7
  go_loopg [16, 70] n (fun gh s16 s70 wr => ∃ r : Nat, r ≤ n ∧ gh = n - r ∧ s70 = .int .i64 (r : Int) ∧ Hid (wr.ownsRow V9.heap.size 3 1 s16 (rowX Y r).length ((rowX Y r).flatMap qh)) ∧ Hid (Grew (fun j => j = gp) V9 wr) ∧ Hid (IntAt gp (plR n r) wr))
  case atStart => exact ⟨0, Nat.zero_le _, rfl, rfl, HO0, HG0, HP0⟩
  case round =>
   clear HO0 HG0 HP0;obtain ⟨r, hr, rfl, rfl, HO, HG, HP⟩ := hrel;have r1 := nnn r;have hzr : V9.heap.size ≤ wr.heap.size := HG.out.size
   by_cases hlt : r < n
   ·have r2 : (r : Int) < (n : Int) := by omega
    have x7 : wr.cell? ⟨PB, 7, none⟩ = some (.slice (some ⟨gp, 0, none⟩) n n) := by rw [qb (HKP.out _ HG.out)]; rfl
    have c0 := HP.out.cell (k := r) (by rw [qnm hr]; exact hlt);have fz := HP.out.frozen r;have lPr : PB < wr.heap.size := by omega
    have lgp : gp < wr.heap.size := by omega
    have h0 := HP.out.set r (-1);rw [qlz hlt] at h0;have HP1 := lh h0;have HG1 := lh (HG.out.setCell ⟨gp, r, none⟩ (.inl rfl) (.int .i64 (-1)));have HO1 := lh (ql HO.out (p := ⟨gp, r, none⟩) (fun e => by have := (HO.out.lt gp e).1; omega) (.int .i64 (-1)));have hst := q8t Y r;clear h0 HP HO
    go_upto_region 15 with fail
    obtain ⟨W1, hW1⟩ : ∃ W1, W1 = wr.setCell ⟨gp, r, none⟩ (.int .i64 (-1)) := ⟨_, rfl⟩;rw [<- hW1] at HP1 HG1 HO1 ⊢;clear hW1 x7 c0 fz lPr lgp HG hzr;obtain ⟨wt, hwt⟩ : ∃ wt, wt = wgt f (r : Int) := ⟨_, rfl⟩;obtain ⟨y, hy⟩ : ∃ y, y = Y (r : Int) := ⟨_, rfl⟩;have hyy : y = (decide (0 < wt) || decide ((r : Int) ∈ Bg)) := by rw [hy, HY.out, hwt, HBg.out]
    have x0 : W1.cell? ⟨X, 0, none⟩ = some (.slice (some ⟨gw, 0, none⟩) n n) := by rw [qb (HKX.out _ HG1.out)]; rfl
    have c0 : W1.cell? ⟨gw, r, none⟩ = some (.int .i64 wt) := by
     have := (HKW.out _ HG1.out).cell (k := r) (by rw [q3w]; exact hlt);rw [q8s hlt] at this;rw [hwt];exact this
    have lX := qa (HKX.out _ HG1.out);have lw := (HKW.out _ HG1.out).lt;rw [<- hy] at hst;obtain ⟨Hst, Hyy⟩ := lh2 hst hyy;clear hwt hy hst hyy
    go_cut [88] (fun s wx => s = .bool y ∧ wx = W1)
    case first =>
     by_cases hpos : 0 < wt
     ·have hy1 : y = true := by rw [Hyy.out, decide_eq_true hpos]; rfl
      subst hy1;go_wp2;go_meet;exact ⟨rfl, rfl⟩
     ·have hy1 : y = decide ((r : Int) ∈ Bg) := by rw [Hyy.out, decide_eq_false hpos]; rfl
      have hneg : ¬ (0 : Int) < wt := hpos;have hle : wt ≤ 0 := by omega
      go_wp2_with fail
      refine q2a _ Bg (r : Int) _ (HKS.out W1 HG1.out) _ ?_;rw [<- hy1];clear hy1;go_wp2;go_meet;exact ⟨rfl, rfl⟩
    case rest =>
     obtain ⟨rfl, hw⟩ := hcut;subst hw;rename World => W1;clear x0 c0 lX lw;have hzw : V9.heap.size ≤ W1.heap.size := HG1.out.size
     cases y
     ·rw [if_neg (by decide), List.append_nil] at Hst;have HO2 : Hid (W1.ownsRow V9.heap.size 3 1 u16 (rowX Y (r + 1)).length ((rowX Y (r + 1)).flatMap qh)) := lh (by rw [Hst.out]; exact HO1.out);clear HO1 Hst;go_wp2
      go_roundg (n - (r + 1))
      case measure => omega
      case rel => exact ⟨r + 1, hlt, rfl, by go_num, HO2, HG1, HP1⟩
     ·rw [if_pos rfl] at Hst;have hll := q5c Y r;generalize hL1 : rowX Y r = L1 at *;generalize hL2 : rowX Y (r + 1) = L2 at *;obtain ⟨HL2, HL1, Hll⟩ := lh3 hL2 hL1 hll;clear hL1 hL2 hll;obtain ⟨A, c4, rfl⟩ := qj HO1.out
      go_wp2_with (at_builtin; refine wpList_append_own _ rfl _ _ 26 rfl V9.heap.size 3 i0 _ 1 8 Tryz.underlying26 hi0 hz0 hz1 hz2 rfl (by decide) (.slice A L1.length c4) L1.length (L1.flatMap qh) rfl (HO1.out.alloc _) ⟨W1.heap.size, 0, none⟩ 1 1 [.int .i64 (r : Int)] rfl rfl ?_ ?_ ?_ ?_ ?_ ?_)
      any_goals have hll := Hll.out
      any_goals first | exact World.news_of_block (cs := #[.int .i64 (r : Int)]) (t := 3) (fr := (0, 0)) (heap_alloc_new W1 _) | (simp [Value.oneCell']; done) | (unfold maxLen; omega) | omega | (simp; done) | (simp; omega)
      intro v' w2 hown2 hgrow _;have hown : ∀ j, some j = (Value.slice A L1.length c4).ownBlock -> V9.heap.size ≤ j := fun j e => (HO1.out.lt j e.symm).1;have hG2 : Grew (fun j => j = gp) V9 w2 := (HG1.out.alloc (Obj.cells #[.int .i64 (r : Int)] 3)).trans (Grew.of_grown hgrow) (fun j hj e => by have := hown j e.symm; omega)
      have hP2 : IntAt gp (plR n (r + 1)) w2 := (HP1.out.alloc (Obj.cells #[.int .i64 (r : Int)] 3)).block fun o ho _ => by
       rw [hgrow.block gp (by simp; omega) (fun e => by have := hown gp e; omega)];exact ho
      have hO2 : w2.ownsRow V9.heap.size 3 1 v' L2.length (L2.flatMap qh) := by
       rw [Hst.out, List.length_append, List.flatMap_append];exact hown2
      obtain ⟨HG2, HP2, HO2⟩ := lh3 hG2 hP2 hO2;clear hown2 hgrow hown hG2 hP2 hO2 HG1 HP1 HO1 hll;go_wp2
      go_roundg (n - (r + 1))
      case measure => omega
      case rel => exact ⟨r + 1, hlt, rfl, by go_num, by rw [HL2.out]; exact HO2, HG2, HP2⟩
   ·obtain rfl : r = n := by omega
    have r2 : ¬ (r : Int) < (r : Int) := by omega
    rw [qnl] at HP;have hDb : ∀ x ∈ rowX Y r, 0 ≤ x ∧ x < (r : Int) := fun x hx => (mem_rowX.1 hx).1;have hDs := q1s Y r;have hDl := q5c Y r;have HDw : Hid (rowX Y r = wantL f r (L 0 0)) := lh (by rw [HY.out]; rfl);generalize rowX Y r = D at *;obtain ⟨HDb, HDs, HDl⟩ := lh3 hDb hDs hDl;obtain ⟨oA, oc, rfl⟩ := qj HO.out;clear hDb hDs hDl
    go_upto_region 18 with fail
    go_cut [] (fun wx => Hid (D.length = 0 ∨ ∃ gs, oA = some ⟨gs, 0, none⟩ ∧ V9.heap.size ≤ gs ∧ IntAt gs (sortW (wgt f) D) wx) ∧ Hid (Grew (fun j => j = gp) V9 wx) ∧ Hid (IntAt gp (List.replicate r (-1)) wx))
    case first =>
     rcases HO.out.2 with ⟨hnil, hl0⟩ | ⟨gs, cap, cur, hsl, hgs, _⟩
     ·injection hnil with h1 h2 h3
      subst h1 h3;have hl0' : D = [] := List.eq_nil_of_length_eq_zero hl0;subst hl0'
      go_wp2_with fail
      refine qkf 0 X _ _ (fun w1 hb1 => ?_);have HG2 := lh (HG.out.on hb1);have HP2 := lh (HP.out.below hb1);clear hb1;go_wp2;go_meet;exact ⟨lh (.inl rfl), HG2, HP2⟩
     ·injection hsl with h1 h2 h3
      subst h1 h3;have hI := (q4u HO.out).1;have hC : CmpN (rowW (regsF f) r) gw r r X gs wr := ⟨HKW.out _ HG.out, q3w _ _, HKX.out _ HG.out, by omega, by omega⟩;obtain ⟨HI, HCC⟩ := lh2 hI hC;clear hI hC
      go_wp2_with fail
      refine qei (rowW (regsF f) r) gw r r X gs D.length oc D rfl (by have := HDl.out; omega) HDs.out HDb.out _ HCC.out HI.out _ (fun w1 h1 => ?_);have h2 := h1.1;rw [qkg HDb.out] at h2;have HI2 := lh h2;have HG2 : Hid (Grew (fun j => j = gp) V9 w1) := lh (HG.out.trans (Grew.of_grown h1.2.1) (fun j hj e => by have e : gs = j := Option.some.inj e; omega));have HP2 := lh (HP.out.keep h1.2.2 (by omega));clear h1 h2;go_wp2;go_meet;exact ⟨lh (.inr ⟨gs, rfl, hgs, HI2.out⟩), HG2, HP2⟩
    case rest =>
     rename World => V18;clear HO HG HP;obtain ⟨HO, HG, HP⟩ := hcut;have hz18 : V9.heap.size ≤ V18.heap.size := HG.out.size
     have hxx : ∀ b ∈ f.blocks, ∀ x ∈ b.list, x.op = 1 -> x.a.reg = true -> (0 ≤ x.dst ∧ x.dst < (r : Int)) ∧ (0 ≤ x.a.n ∧ x.a.n < (r : Int)) := fun b hb x hx h1 h2 => by
      have h3 := Hfo.out.ins b hb x hx;have h4 := h3.a h2;have h5 := h3.opDst (by rw [h1]; rfl) (by omega);have h6 := h3.dst;rw [Hn.out] at h4 h6;exact ⟨by omega, h4⟩
     have hmx : f.blocks.length ≤ maxLen ∧ (q2c many).length ≤ maxLen ∧ ∀ b ∈ f.blocks, b.list.length ≤ maxLen := by
      refine ⟨by have := Hfo.out.blocks; unfold maxLen; omega, by have := Hgg.out.2; omega, fun b hb => ?_⟩;obtain ⟨j, hj, rfl⟩ := List.getElem_of_mem hb;obtain ⟨_, _, _, _, _, _, _, _, hl, _⟩ := Hsb.out.blk_at hj;exact hl.max
     have hrow : ∀ row ∈ rowsC C r, ∀ o ∈ row, 0 ≤ o ∧ o < (r : Int) := fun row hr0 o ho => by
      unfold rowsC at hr0;obtain ⟨a, _, rfl⟩ := List.mem_map.1 hr0;exact (mem_rowX.1 ho).1
     have hrow1 : ∀ q : Nat, ((rowsC C r).getD q []).length ≤ 100 := fun q => by
      unfold rowsC;rw [List.getD_eq_getElem?_getD, List.getElem?_map]
      cases (ints r)[q]? with
      | none => exact Nat.zero_le _
      | some a => exact Nat.le_trans (q5c _ _) hn1
     obtain ⟨Hxx, Hmx, Hrw⟩ := lh3 hxx hmx hrow1;obtain ⟨st, hst⟩ : ∃ st : List Int -> Int -> List Int, st = q4j f many Ac (rowsC C r) := ⟨_, rfl⟩;have Hst := lh hst;have hstl : ∀ pl x, (st pl x).length = pl.length := fun pl x => by rw [hst]; unfold q4j; rw [List.length_set]
     have hfl : ∀ (xs : List Int) (pl : List Int), (xs.foldl st pl).length = pl.length := fun xs => by
      induction xs with
      | nil => exact fun pl => rfl
      | cons x xs ih => exact fun pl => by rw [List.foldl_cons, ih, hstl]
     have Hfl := lh (fun xs => (hfl xs (List.replicate r (-1))).trans (List.length_replicate ..));obtain ⟨D2, hD2⟩ : ∃ D2, D2 = sortW (wgt f) D := ⟨_, rfl⟩;have hDl2 : D2.length = D.length := by rw [hD2, (qs _ _).length_eq]
     have hDb2 : ∀ x ∈ D2, 0 ≤ x ∧ x < (r : Int) := fun x hx => HDb.out x (by rw [hD2] at hx; exact (qs _ _).mem_iff.1 hx);rw [<- hD2] at HO;obtain ⟨HD2, HDl2, HDb2⟩ := lh3 hD2 hDl2 hDb2
     have hfin0 : qy f r many C Ac (L 0 0) = D2.foldl st (List.replicate r (-1)) := by
      unfold qy;rw [<- HDw.out, <- hD2, hst]
     rw [hfin0] at HR;have HP0 : Hid (IntAt gp ((D2.take 0).foldl st (List.replicate r (-1))) V18) := HP;have HG0 : Hid (Grew (fun j => j = gp) V18 V18) := lh (Grew.refl _ _);clear hxx hmx hrow1 hst hstl hfl hD2 hDl2 hDb2 hfin0 HP;go_wp2
     go_loopg [99] D.length (fun gh s99 wr => ∃ i : Nat, i ≤ D.length ∧ gh = D.length - i ∧ s99 = .int .i64 (i : Int) ∧ Hid (Grew (fun j => j = gp) V18 wr) ∧ Hid (IntAt gp ((D2.take i).foldl st (List.replicate r (-1))) wr))
     case atStart => exact ⟨0, Nat.zero_le _, rfl, rfl, HG0, HP0⟩
     case round =>
      clear HG0 HP0;obtain ⟨i, hi, rfl, rfl, HG1, HP1⟩ := hrel;have hdl := HDl.out;have i1 := nnn i;have hzr : V18.heap.size ≤ wr.heap.size := HG1.out.size;have HG9 : Hid (Grew (fun j => j = gp) V9 wr) := lh (HG.out.trans HG1.out (fun _ _ e => e))
      by_cases hlt : i < D.length
      ·have i2 : (i : Int) < (D.length : Int) := by omega
       have hlt2 : i < D2.length := by rw [HDl2.out]; exact hlt
       obtain ⟨gs, rfl, hgs, hIs⟩ := HO.out.resolve_left (by omega);have hIw : IntAt gs D2 wr := hIs.block fun o ho _ => (HG1.out.block gs (qa ho) (fun e => by omega)).trans ho;have c0 := hIw.cell hlt2;have lgs := hIw.lt;have hge : iAt D2 i = D2[i] := qir hlt2;obtain ⟨q, hq⟩ : ∃ q : Nat, D2[i] = (q : Int) := ⟨(D2[i]).toNat, by have := HDb2.out _ (List.getElem_mem hlt2); omega⟩;have hqr : q < r := by have := HDb2.out _ (List.getElem_mem hlt2); omega
       rw [hge, hq] at c0
       have hstep : (D2.take (i + 1)).foldl st (List.replicate r (-1)) = st ((D2.take i).foldl st (List.replicate r (-1))) (q : Int) := by
        rw [List.take_succ_eq_append_getElem hlt2, List.foldl_append, hq];rfl
       have hpll := Hfl.out (D2.take i);obtain ⟨pl, hpl⟩ : ∃ pl, pl = (D2.take i).foldl st (List.replicate r (-1)) := ⟨_, rfl⟩;rw [<- hpl] at hpll hstep HP1;obtain ⟨P, hP⟩ : ∃ P : PW, P = ⟨f, rowsC C r, rowX Ac r, q2c many, pl, .string f.name, bA, cA, aA, bc, cc, ac, cg, r, PB, gp, gg, r, B9, hpll, hrow⟩ := ⟨_, rfl⟩
       have hPN : PaintN P wr := by
        subst hP;have h1 := HKP.out _ HG9.out;rw [<- Hn.out] at h1;refine ⟨?_, ?_, HKC.out _ HG9.out, HKL.out _ HG9.out, HP1.out, HKG.out _ HG9.out, ⟨Nat.le_trans Hgg.out.2.1 Hgg.out.2.2, Hgg.out.2.1⟩, by show B9 ≤ wr.heap.size; omega⟩
        ·show wr.heap[PB]? = _;rw [Hrl.out];exact h1
        ·show rpInt.slice.SL wr B9 (rowsC C r) (.slice cA (rowsC C r).length cc);rw [Hrl.out];exact HKR.out _ HG9.out
       have hpi := qly P many Hm.out Ac q (by subst hP; exact hqr) (by subst hP; exact Hxx.out) (by subst hP; rfl) (by subst hP; rfl) (by subst hP; exact Hrl.out);have hpc := qe8 P q (by subst hP; show q < (rowsC C r).length; rw [Hrl.out]; exact hqr) (by subst hP; exact Hxx.out) (by subst hP; exact Hmx.out) (by subst hP; exact Hrw.out q) wr.drew (hPN.below (Below.refl _ _).drew);rw [show P.PB = PB by subst hP; rfl] at hpc
       have hset : st pl (q : Int) = pl.set q (P.paint q) := by
        rw [hpi, Hst.out];subst hP;unfold q4j;rw [Int.toNat_natCast]
       obtain ⟨pp, hpp⟩ := nmm (P.paint q);rw [<- hpp] at hpc hset;rw [hset] at hstep;obtain ⟨Hstep, Hpc, Hpll⟩ := lh3 hstep hpc hpll;clear hPN hpi hpc hset hstep hpp hP hpl hge hq hIs;have x7 : wr.cell? ⟨PB, 7, none⟩ = some (.slice (some ⟨gp, 0, none⟩) r r) := by rw [qb (HKP.out _ HG9.out)]; rfl
       have lPr : PB < wr.heap.size := by omega
       have q1 := nnn q;have q2 : (q : Int) < (r : Int) := by omega
       go_upto_region 22 with fail
       clear c0 lgs;have hS0 : wr.cell? ⟨PB, 7, none⟩ = some (.slice (some ⟨gp, 0, none⟩) r r) := x7;clear x7
       go_region_held3 (fun W : World => W.cell? ⟨PB, 7, none⟩ = some (.slice (some ⟨gp, 0, none⟩) r r)) (first | with_reducible exact hS0 | with_reducible exact hSy | with_reducible exact hSz | go_keep) ((go_at_call 46; refine Hpc.out _ ?_; intro wy hby; have hbw : Below wr.heap.size wr wy := (by exact bl0 : Below wr.heap.size wr wr.drew).trans hby; have hGy : Grew (fun j => j = gp) V18 wy := HG1.out.on hbw; have hPy : IntAt gp pl wy := HP1.out.below hbw; have hSy : wy.cell? ⟨PB, 7, none⟩ = some (.slice (some ⟨gp, 0, none⟩) r r) := (hbw.cell (p := ⟨PB, 7, none⟩) lPr).trans hS0; have hcy := hPy.cell (k := q) (by rw [Hpll.out]; exact hqr); have hfy := hPy.frozen q; have lgy := hPy.lt; have hSz : (wy.setCell ⟨gp, q, none⟩ (.int .i64 pp)).cell? ⟨PB, 7, none⟩ = some (.slice (some ⟨gp, 0, none⟩) r r) := (World.cell?_of_block (Below.heap_setCell _ _ _ _ (fun e => by have e : PB = gp := e; have := Hne.out; omega))).trans hSy))
       have HG2 := lh (hGy.setCell ⟨gp, q, none⟩ (.inl rfl) (.int .i64 pp));have HP2 := lh (hPy.set q pp);rw [<- Hstep.out] at HP2;clear hSz hSy hcy hfy lgy hPy hGy hbw hby hS0;go_wp2
       go_roundg (D.length - (i + 1))
       case measure => omega
       case rel =>
        exact ⟨i + 1, hlt, rfl, by go_num, HG2, HP2⟩
      ·obtain rfl : i = D.length := by omega
       have i2 : ¬ (D.length : Int) < (D.length : Int) := by omega
       rw [show D2.take D.length = D2 by rw [<- HDl2.out, List.take_length]] at HP1;have x7 : wr.cell? ⟨PB, 7, none⟩ = some (.slice (some ⟨gp, 0, none⟩) r r) := by rw [qb (HKP.out _ HG9.out)]; rfl
       have lPr : PB < wr.heap.size := by omega
       obtain ⟨f0, f1⟩ := qi (HKF.out _ HG9.out);have lF := qa (HKF.out _ HG9.out);have y0 : wr.frozen? ⟨w.heap.size + 1, 0, none⟩ = false := by simp [World.frozen?, HKF.out _ HG9.out]
       have y1 : wr.frozen? ⟨w.heap.size + 1, 1, none⟩ = false := by simp [World.frozen?, HKF.out _ HG9.out]
       have hbl := q02 (HKA.out _ HG9.out) [(⟨w.heap.size + 1, 0, none⟩, .int .i64 0), (⟨w.heap.size + 1, 1, none⟩, .int .i64 0)] (by simp);have hgpn : gp ≠ w.heap.size + 1 := by have := Hne.out; omega
       have hIz : IntAt gp (D2.foldl st (List.replicate r (-1))) ((wr.setCell ⟨w.heap.size + 1, 0, none⟩ (.int .i64 0)).setCell ⟨w.heap.size + 1, 1, none⟩ (.int .i64 0)) := HP1.out.block fun o ho _ => by
        rw [Below.heap_setCell _ _ _ _ hgpn, Below.heap_setCell _ _ _ _ hgpn];exact ho
       obtain ⟨Hbl, HIz⟩ := lh2 hbl hIz;have Hgp9 : Hid (w.heap.size ≤ gp) := lh (by have := Hne.out; omega);clear hbl hIz HP1 HG1;go_wp2;refine bodyPost_ret (v := .tuple #[.slice (some ⟨gp, 0, none⟩) r r, (.agg #[.int .i64 (((0 : Int), (0 : Int))).1, .int .i64 (((0 : Int), (0 : Int))).2])]) (by simp [results, Tryz.results20, go_sem, f0, f1, lF]) rfl ?_
       first | exact HR.out _ gp Hbl.out Hgp9.out HIz.out | exact HR.out _ gp (Hbl.out.drew) Hgp9.out HIz.out
theorem q7z (u : Unt) (hu : UntI u) (k many : Int) (c a : Int) (hF : q1l u k = (c, a)) (hne : ¬ (c = 0 ∧ a = 0)) (gA fA : Option Addr) (gn gc fn fc : Nat) (w : World) (hW : Ways w) (hg : rpGlobal.SL w w.heap.size u.globals (.slice gA gn gc)) (hf : rpFun.SL w w.heap.size u.funcs (.slice fA fn fc)) (R : Ending -> World -> Prop)
 (hR : ∀ w', Below w.heap.size w w' -> R (.returned (.tuple #[.slice none 0 0, .agg #[.int .i64 c, .int .i64 a]])) w') :
 Calls Tryz.prog 20 #[.agg #[.slice gA gn gc, .slice fA fn fc], .int .i64 k, .int .i64 many] w R := by
 obtain ⟨HR, Hg, Hf, HW, HF⟩ := lh5 hR hg hf hW hF;clear hR hg hf hW hF
 go_enter Tryz.func20, Tryz.ntmps20
 go_upto_region 1 with fail
 obtain ⟨W2, hW2, hb2, hU2, hF2⟩ := box2 w (.cells #[.slice gA gn gc, .slice fA fn fc] 25) (.cells #[.int .i64 0, .int .i64 0] 30) rfl;rw [<- hW2];obtain ⟨Hb2, HU2, HF2⟩ := lh3 hb2 hU2 hF2;have hz2 := hb2.size;obtain ⟨u0, u1, lU⟩ := cbl hU2;clear hW2 hb2 hU2 hF2
 go_wp2_with fail
 refine qde u hu k c a HF.out hne _ _ _ _ _ _ _ (HW.out.up Hb2.out HW.out.1) (Hg.out.up Hb2.out hz2) (Hf.out.up Hb2.out hz2) _ (fun w3 hb3 => ?_);have Hb3 := btt Hb2 hb3 hz2;have HF3 := bkk hb3 HF2;have hz3 := Hb3.out.size;clear hb3 u0 u1 lU;obtain ⟨W4, hW4, hb34, hE4⟩ := box1 w3 (.cells #[.int .i64 c, .int .i64 a] 30) rfl;have Hb4 := btt Hb3 hb34 hz3;have HF4 := bkk hb34 HF3;have HW4 := lh hW4.symm;have Hbl := lh (q02 Hb4.out.drew [(⟨w.heap.size + 1, 0, none⟩, .int .i64 c), (⟨w.heap.size + 1, 1, none⟩, .int .i64 a)] (by simp));have HE4 := lh hE4;clear hW4 hb34 hE4;obtain ⟨e0, e1, lE⟩ := cbl HE4.out;obtain ⟨f0, f1, lF⟩ := cbl HF4.out;have y0 := fzz HF4.out 0;have y1 := fzz HF4.out 1
 go_upto_region 2 with fail
 rw [HW4.out]
 by_cases hc : c = 0
 ·subst hc;have ha : ¬ a = 0 := fun h => hne ⟨rfl, h⟩;clear hne;go_wp2
  go_region
  go_wp2;refine bodyPost_ret (v := .tuple #[.slice none 0 0, .agg #[.int .i64 0, .int .i64 a]]) (by simp [results, Tryz.results20, go_sem, f0, f1, lF]) rfl ?_;exact HR.out _ Hbl.out
 ·clear hne;go_wp2
  go_region
  go_wp2;refine bodyPost_ret (v := .tuple #[.slice none 0 0, .agg #[.int .i64 c, .int .i64 a]]) (by simp [results, Tryz.results20, go_sem, f0, f1, lF]) rfl ?_;exact HR.out _ Hbl.out
theorem q7j (C : Int -> Int -> Bool) (L : Nat -> Nat -> Int -> Bool) (u : Unt) (hu : UntI u) (hok : qo u = (0, 0)) (k : Nat) (f : UFun) (hkf : u.funcs[k]? = some f) (hnp : ∀ b ∈ f.blocks, b.phis = []) (hto : ∀ b ∈ f.blocks, b.end_.to.length ≤ 2) (n : Nat) (hn : f.regs = (n : Int)) (hL : ∀ i k r, L i k r = true ↔ LvI f r i k) (hC : ∀ a b, C a b = true ↔ Clash f a b) (many : Int) (hm : ¬ (2 ≤ many ∧ many ≤ 14)) (gA fA : Option Addr) (gn gc fc : Nat) (w : World) (hW : Ways w) (hg : rpGlobal.SL w w.heap.size u.globals (.slice gA gn gc)) (hf : rpFun.SL w w.heap.size u.funcs (.slice fA u.funcs.length fc)) (R : Ending -> World -> Prop)
 (hR : ∀ w', Below w.heap.size w w' -> R (.returned (.tuple #[.slice none 0 0, .agg #[.int .i64 3, .int .i64 (-1)]])) w') :
 Calls Tryz.prog 20 #[.agg #[.slice gA gn gc, .slice fA u.funcs.length fc], .int .i64 (k : Int), .int .i64 many] w R := by
 obtain ⟨HR, Hg, Hf, HW, Hk, Hkf, Hnp, Hto, Hn, HL, HC, Hm⟩ := lh12 hR hg hf hW hok hkf hnp hto hn hL hC hm;clear hR hg hf hW hok hkf hnp hto hn hL hC hm
 go_enter Tryz.func20, Tryz.ntmps20
 go_upto_region 1 with fail
 obtain ⟨W2, hW2, hb2, hU2, hF2⟩ := box2 w (.cells #[.slice gA gn gc, .slice fA u.funcs.length fc] 25) (.cells #[.int .i64 0, .int .i64 0] 30) rfl;rw [<- hW2];obtain ⟨Hb2, HU2, HF2⟩ := lh3 hb2 hU2 hF2;have hz2 := hb2.size;obtain ⟨u0, u1, lU⟩ := cbl hU2;clear hW2 hb2 hU2 hF2
 go_wp2_with fail
 refine qel C L u hu Hk.out k f Hkf.out Hnp.out Hto.out n Hn.out HL.out HC.out _ _ _ _ _ _ (HW.out.up Hb2.out HW.out.1) (Hg.out.up Hb2.out hz2) (Hf.out.up Hb2.out hz2) _ (fun w3 v3 hb3 hsl3 => ?_);have Hb3 := btt Hb2 hb3 hz2;have HF3 := bkk hb3 HF2;have hz3 := Hb3.out.size;clear hb3 u0 u1 lU;obtain ⟨W4, hW4, hb34, hE4⟩ := box1 w3 (.cells #[.int .i64 0, .int .i64 0] 30) rfl;have Hb4 := btt Hb3 hb34 hz3;have HF4 := bkk hb34 HF3;have HW4 := lh hW4.symm;have HE4 := lh hE4;clear hW4 hb34 hE4;obtain ⟨e0, e1, lE⟩ := cbl HE4.out;obtain ⟨f0, f1, lF⟩ := cbl HF4.out;have y0 := fzz HF4.out 0;have y1 := fzz HF4.out 1
 go_upto_region 2 with fail
 rw [HW4.out]
 go_wp2_with fail
 refine qd _ _ _ _ _ ?_;rw [show decide ((2 : Int) ≤ many ∧ many ≤ 14) = false from decide_eq_false Hm.out];clear e0 e1 lE
 go_wp2_with fail
 refine q07 _ _ _ _ (fun w9 hb9 => ?_);have Hb9 := lh (Hb4.out.trans (hb9.mono Hb4.out.size));have HF9 := bkk hb9 HF4;clear hb9 f0 f1 lF y0 y1;obtain ⟨v0, v1⟩ := qi HF9.out;have y0 := fzz HF9.out 0;have y1 := fzz HF9.out 1;have l9 := qa HF9.out;have Hbl := lh (q02 Hb9.out [(⟨w.heap.size + 1, 0, none⟩, .int .i64 (3)), (⟨w.heap.size + 1, 1, none⟩, .int .i64 (-1))] (by simp));go_wp2;refine bodyPost_ret (v := .tuple #[.slice none 0 0, .agg #[.int .i64 3, .int .i64 (-1)]]) (by simp [results, Tryz.results20, go_sem, v0, v1, l9]) rfl ?_;exact HR.out _ Hbl.out
theorem qcw (l : List Int) (p : Int) : q0o (l ++ [p]) = if 15 + q0o l < p then p - 15 else q0o l := by
 unfold q0o;rw [List.foldl_append];rfl
theorem qcx {pl : List Int} {k : Nat} (h : k < pl.length) : q0o (pl.take (k + 1)) = if 15 + q0o (pl.take k) < pl[k] then pl[k] - 15 else q0o (pl.take k) := by
 rw [List.take_succ_eq_append_getElem h, qcw]
theorem q5g : ∀ (l : List Int) (s : Int), 0 ≤ s -> 0 ≤ l.foldl (fun s p => if 15 + s < p then p - 15 else s) s
 | [], s, h => h
 | x :: l, s, h => by
   rw [List.foldl_cons];refine q5g l _ ?_
   split <;> omega
theorem q5h (l : List Int) : 0 ≤ q0o l := q5g l 0 (Int.le_refl _)
theorem qa4 {m : Int} : ∀ (l : List Int) (s : Int), s ≤ m -> (∀ p ∈ l, p ≤ 15 + m) -> l.foldl (fun s p => if 15 + s < p then p - 15 else s) s ≤ m
 | [], s, h, _ => h
 | x :: l, s, h, hl => by
   rw [List.foldl_cons];refine qa4 l _ ?_ (fun p hp => hl p (.tail _ hp));have := hl x (.head _)
   split <;> omega
theorem qa5 {l : List Int} {m : Int} (h0 : 0 ≤ m) (h : ∀ p ∈ l, p ≤ 15 + m) : q0o l ≤ m := qa4 l 0 h0 h
def q1c (pl : List Int) (r : Nat) : List Int := (rowX (fun r => decide (r ∈ pl)) r).filter fun r => decide (6 ≤ r)
theorem q7f (pl : List Int) (r : Nat) (h : 6 ≤ r) : q1c pl (r + 1) = q1c pl r ++ (if (r : Int) ∈ pl then [(r : Int)] else []) := by
 unfold q1c;rw [q8t, List.filter_append]
 congr 1
 by_cases hx : (r : Int) ∈ pl
 ·have : (6 : Int) ≤ (r : Int) := by omega
  simp [hx, this]
 ·simp [hx]
theorem q8y (pl : List Int) : q1c pl 6 = [] := by
 unfold q1c;rw [List.filter_eq_nil_iff];intro x hx;have := (mem_rowX.1 hx).1;rw [decide_eq_true_eq];omega
theorem qkp (pl : List Int) (v : Value) (w : World) (h : rpInt.SL w w.heap.size pl v) (hb : ∀ p ∈ pl, -1 ≤ p ∧ p ≤ 1000) (R : Ending -> World -> Prop)
 (hR : ∀ w' vs, Below w.heap.size w w' -> w'.ownsRow w.heap.size 3 1 vs (q3k pl).length ((q3k pl).flatMap qh) -> R (.returned (.agg #[.int .i64 (q0o pl), vs])) w') :
 Calls Tryz.prog 21 #[v] w R := by
 obtain ⟨i0, hi0, hz0, hz1, hz2⟩ := info_parts q44;obtain ⟨A, c, rfl, hmx, hcap, hs⟩ := h.cases_;obtain ⟨Hs, HR, HB⟩ := lh3 hs hR hb;clear hR h hs hb
 go_enter Tryz.func21, Tryz.ntmps21
 go_upto_region 2 with fail
 obtain ⟨B, hB⟩ := nmm (w.heap.size);obtain ⟨W2, hW2, hb2, hA2, hF2⟩ := box2 w (.cells #[.int .i64 0, .slice none 0 0] 28) (.cells #[.int .i64 0, .slice none 0 0] 28) hB;have hs2 : W2.heap.size = B + 2 := by subst hW2 hB; simp
 rw [<- hW2, <- hB];obtain ⟨Hb2, HA2, HF2, HS2, HBe⟩ := lh5 hb2 hA2 hF2 hs2 hB;clear hW2 hb2 hA2 hF2 hs2 hB;go_wp2
 go_loopg [9] pl.length (fun gh s9 wr => ∃ k : Nat, k ≤ pl.length ∧ gh = pl.length - k ∧ s9 = .int .i64 (k : Int) ∧ Hid (Below B w wr) ∧ B + 2 ≤ wr.heap.size ∧ Hid (wr.heap[B]? = some (.cells #[.int .i64 0, .slice none 0 0] 28 (0, 0))) ∧ Hid (wr.heap[B + 1]? = some (.cells #[.int .i64 (q0o (pl.take k)), .slice none 0 0] 28 (0, 0))))
 case atStart => exact ⟨0, Nat.zero_le _, rfl, rfl, lh (by have := Hb2.out; rwa [<- HBe.out] at this), by have := HS2.out; omega, HA2, HF2⟩
 case round =>
  clear Hb2 HA2 HF2 HS2;obtain ⟨k, hk, rfl, rfl, Hb, hsz, HA, HF⟩ := hrel;have i1 := nnn k;obtain ⟨s, hs⟩ : ∃ s, s = q0o (pl.take k) := ⟨_, rfl⟩;have hs0 : 0 ≤ s := by rw [hs]; exact q5h _
  have hs1 : s ≤ 1000 := by rw [hs]; exact qa5 (by omega) (fun p hp => by have := HB.out p (List.mem_of_mem_take hp); omega)
  rw [<- hs] at HF;have f0 : wr.cell? ⟨B + 1, 0, none⟩ = some (.int .i64 s) := cqq HF.out;have f1 : wr.cell? ⟨B + 1, 1, none⟩ = some (.slice none 0 0) := cqq HF.out;have fz := fzz HF.out 0;have fz1 := fzz HF.out 1;have lF : B + 1 < wr.heap.size := by omega
  by_cases hlt : k < pl.length
  ·have i2 : (k : Int) < (pl.length : Int) := by omega
   obtain ⟨b, off, rfl, hbb, p0⟩ := Hs.out.int_at hlt;have q0 := (Hb.out.cell (p := ⟨b, off + k, none⟩) (show b < B by rw [HBe.out]; exact hbb)).trans p0;have lb : b < wr.heap.size := by have := HBe.out; omega
   clear p0;have hst := qcx hlt;have hpb := HB.out _ (List.getElem_mem hlt);rw [<- hs] at hst;have hgd : pl.getD k 0 = pl[k] := by rw [List.getD_eq_getElem?_getD, List.getElem?_eq_getElem hlt]; rfl
   rw [hgd] at q0;clear hgd;generalize pl[k] = p at *;obtain ⟨Hst, Hs0⟩ := lh2 hst hs;clear hst hs
   by_cases hp : (16 : Int) ≤ p
   ·obtain ⟨t, ht⟩ : ∃ t, t = q0o (pl.take (k + 1)) := ⟨_, rfl⟩
    have hmx : max s (p - 15) = t := by
     rw [ht, Hst.out]
     split <;> omega
    have e1 : p - 16 + 1 = p - 15 := by omega
    have Ht := lh ht;have HF' : Hid ((wr.setCell ⟨B + 1, 0, none⟩ (.int .i64 t)).heap[B + 1]? = some (.cells #[.int .i64 t, .slice none 0 0] 28 (0, 0))) := lh (qeq HF.out _);have HA' : Hid ((wr.setCell ⟨B + 1, 0, none⟩ (.int .i64 t)).heap[B]? = some (.cells #[.int .i64 0, .slice none 0 0] 28 (0, 0))) := lh ((Below.heap_setCell _ _ _ _ (fun e => by have e : B = B + 1 := e; omega)).trans HA.out);have HB' : Hid (Below B w (wr.setCell ⟨B + 1, 0, none⟩ (.int .i64 t))) := lh (Below.setCell (p := ⟨B + 1, 0, none⟩) Hb.out (by show B ≤ B + 1; omega) _);clear ht Hst;go_wp2
    go_roundg (pl.length - (k + 1))
    case measure => omega
    case rel => exact ⟨k + 1, hlt, rfl, by go_num, HB', by simpa [World.setCell] using hsz, HA', by rw [<- Ht.out]; exact HF'⟩
   ·have ht : q0o (pl.take (k + 1)) = s := by
     rw [Hst.out, if_neg (by omega)]
    have Ht := lh ht;clear ht Hst;go_wp2
    go_roundg (pl.length - (k + 1))
    case measure => omega
    case rel => exact ⟨k + 1, hlt, rfl, by go_num, Hb, hsz, HA, by rw [Ht.out]; exact HF⟩
  ·obtain rfl : k = pl.length := by omega
   have hpe : q0o pl = s := by rw [hs, List.take_length]
   rw [hpe] at HR;have i2 : ¬ (pl.length : Int) < (pl.length : Int) := by omega
   clear hpe hs f0 f1 fz fz1 lF;obtain ⟨wa, hwa⟩ := nmm (wr);rw [<- hwa] at Hb hsz HA HF ⊢;clear hwa;have hG0 : Hid (Grew (fun j => j = B + 1) wa wa) := lh (Grew.refl _ _);have HO0 : Hid (wa.ownsRow wa.heap.size 3 1 (.slice none 0 0) (q1c pl 6).length ((q1c pl 6).flatMap qh)) := lh (by rw [q8y]; exact World.ownsRow_nil _ _ _ _);go_wp2
   go_loopg [6] 8 (fun gh s6 wr => ∃ (r : Nat) (vs : Value), 6 ≤ r ∧ r ≤ 14 ∧ gh = 14 - r ∧ s6 = .int .i64 (r : Int) ∧ Hid (Grew (fun j => j = B + 1) wa wr) ∧ Hid (wr.heap[B + 1]? = some (.cells #[.int .i64 s, vs] 28 (0, 0))) ∧ Hid (wr.ownsRow wa.heap.size 3 1 vs (q1c pl r).length ((q1c pl r).flatMap qh)))
   case atStart => exact ⟨6, _, by omega, by omega, rfl, rfl, hG0, HF, HO0⟩
   case round =>
    clear hG0 HF HO0;obtain ⟨r, vs, hr6, hr14, hg, rfl, HG, HF, HO⟩ := hrel;have Hgh := lh hg;have hzr := HG.out.size;have r1 := nnn r;have lF : B + 1 < wr.heap.size := qa HF.out;obtain ⟨A1, c1, rfl⟩ := qj HO.out;have f0 : wr.cell? ⟨B + 1, 0, none⟩ = some (.int .i64 s) := cqq HF.out;have f1 : wr.cell? ⟨B + 1, 1, none⟩ = some (.slice A1 (q1c pl r).length c1) := cqq HF.out;clear hg
    by_cases hlt : r < 14
    ·have r2 : (r : Int) < 14 := by omega
     have hpls : rpInt.SL wr wr.heap.size pl (.slice A pl.length c) := Hs.out.up ((Hb.out.trans (HG.out.below (B := B) (fun j hj e => by omega) (by omega))).mono (by rw [HBe.out]; exact Nat.le_refl _)) (by have := HBe.out; omega);have Hpls := lh hpls;have hst := q7f pl r hr6
     have hll : (q1c pl r).length ≤ 100 := by
      unfold q1c;have h1 := List.length_filter_le (fun r : Int => decide (6 ≤ r)) (rowX (fun r => decide (r ∈ pl)) r);have h2 := q5c (fun r => decide (r ∈ pl)) r;omega
     generalize hL1 : q1c pl r = L1 at *;generalize hL2 : q1c pl (r + 1) = L2 at *;obtain ⟨HL2, Hst, Hll⟩ := lh3 hL2 hst hll;clear hL1 hL2 hst hll hpls
     go_wp2_with fail
     refine q2a _ pl (r : Int) _ Hpls.out _ ?_
     by_cases hin : (r : Int) ∈ pl
     ·rw [decide_eq_true hin];rw [if_pos hin] at Hst;have fz : ∀ X : World, X.heap[B + 1]? = some (.cells #[.int .i64 s, .slice A1 L1.length c1] 28 (0, 0)) -> X.frozen? ⟨B + 1, 1, none⟩ = false := fun X hX => by simp [World.frozen?, hX]
      go_wp2_with (at_builtin; refine wpList_append_own _ rfl _ _ 26 rfl wa.heap.size 3 i0 _ 1 8 Tryz.underlying26 hi0 hz0 hz1 hz2 rfl (by decide) (.slice A1 L1.length c1) L1.length (L1.flatMap qh) rfl (HO.out.alloc _) ⟨wr.heap.size, 0, none⟩ 1 1 [.int .i64 (r : Int)] rfl rfl ?_ ?_ ?_ ?_ ?_ ?_)
      any_goals have hll := Hll.out
      any_goals first | exact World.news_of_block (cs := #[.int .i64 (r : Int)]) (t := 3) (fr := (0, 0)) (heap_alloc_new wr _) | (simp [Value.oneCell']; done) | (unfold maxLen; omega) | omega | (simp; done) | (simp; omega)
      intro v' w2 hown2 hgrow _;have hown : ∀ j, some j = (Value.slice A1 L1.length c1).ownBlock -> wa.heap.size ≤ j := fun j e => (HO.out.lt j e.symm).1;have hG2 : Grew (fun j => j = B + 1) wa w2 := (HG.out.alloc (Obj.cells #[.int .i64 (r : Int)] 3)).trans (Grew.of_grown hgrow) (fun j hj e => by have := hown j e.symm; omega)
      have hF2 : w2.heap[B + 1]? = some (.cells #[.int .i64 s, .slice A1 L1.length c1] 28 (0, 0)) := by
       rw [hgrow.block (B + 1) (by simp; omega) (fun e => by have := hown _ e; omega)];exact qf HF.out _
      have hO2 : w2.ownsRow wa.heap.size 3 1 v' L2.length (L2.flatMap qh) := by
       rw [Hst.out, List.length_append, List.flatMap_append];exact hown2
      obtain ⟨A2, c2, rfl⟩ := qj hO2;have fz2 := fz w2 hF2;have g1 : w2.cell? ⟨B + 1, 1, none⟩ = some (.slice A1 L1.length c1) := cqq hF2;have l2 := qa hF2;have HG2 := lh (hG2.setCell ⟨B + 1, 1, none⟩ (.inl rfl) (.slice A2 L2.length c2));have HF2 : Hid ((w2.setCell ⟨B + 1, 1, none⟩ (.slice A2 L2.length c2)).heap[B + 1]? = some (.cells #[.int .i64 s, .slice A2 L2.length c2] 28 (0, 0))) := lh (by apply qer hF2);have HO2 := lh (ql hO2 (p := ⟨B + 1, 1, none⟩) (fun e => by have h1 := (hO2.lt (B + 1) e).1; omega) (.slice A2 L2.length c2));clear hown2 hgrow hown hG2 hF2 hO2 HG HF HO hll f0 f1 fz;go_wp2
      go_roundg (14 - (r + 1))
      case measure => have := Hgh.out; omega
      case rel => exact ⟨r + 1, _, by omega, hlt, rfl, by go_num, HG2, HF2, by rw [HL2.out]; exact HO2⟩
     ·rw [decide_eq_false hin];rw [if_neg hin, List.append_nil] at Hst;have HO2 : Hid (wr.ownsRow wa.heap.size 3 1 (.slice A1 L1.length c1) L2.length (L2.flatMap qh)) := lh (by rw [Hst.out]; exact HO.out);clear HO;go_wp2
      go_roundg (14 - (r + 1))
      case measure => have := Hgh.out; omega
      case rel => exact ⟨r + 1, _, by omega, hlt, rfl, by go_num, HG, HF, by rw [HL2.out]; exact HO2⟩
    ·obtain rfl : r = 14 := by omega
     have hAr := (HG.out.block B (by omega) (by omega)).trans HA.out;obtain ⟨g0, g1⟩ := qi hAr;have lA : B < wr.heap.size := by omega
     have y0 := fzz hAr 0;have y1 := fzz hAr 1;have hbB : Below B w wr := Hb.out.trans (HG.out.below (B := B) (fun j hj e => by omega) (by omega));have hbl := q02 hbB [(⟨B, 0, none⟩, .int .i64 s), (⟨B, 1, none⟩, .slice A1 (q1c pl 14).length c1)] (by simp);have hOz := ql (ql HO.out (p := ⟨B, 0, none⟩) (fun e => by have h1 := (HO.out.lt B e).1; omega) (.int .i64 s)) (p := ⟨B, 1, none⟩) (fun e => by have h1 := (HO.out.lt B e).1; omega) (.slice A1 (q1c pl 14).length c1);have Hbl : Hid (Below w.heap.size w ((wr.setCell ⟨B, 0, none⟩ (.int .i64 s)).setCell ⟨B, 1, none⟩ (.slice A1 (q1c pl 14).length c1))) := lh (by rw [<- HBe.out]; exact hbl);have HOz := lh (q1y (B' := w.heap.size) hOz (by have := HBe.out; omega));clear hbl hOz hAr hbB HO HG HF;go_wp2;refine bodyPost_ret (v := .agg #[.int .i64 s, .slice A1 (q1c pl 14).length c1]) (by simp [results, Tryz.results21, go_sem, g0, g1, lA]) rfl ?_;exact HR.out _ _ Hbl.out HOz.out
end Go.Proofs.YtdanebboiekieaaGreatDoor
