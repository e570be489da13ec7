/- The walks, part 20. -/
import Derived.Laws.EntriesVeiled
import Derived.Test.YtdanebboiekieaaGreatDoorP19
set_option linter.unusedSimpArgs false
set_option linter.unusedVariables false
set_option maxRecDepth 100000
set_option maxHeartbeats 16000000
namespace Go.Proofs.YtdanebboiekieaaGreatDoor
open Go.RowKit Go.Shelf
attribute [local go_sem] Oper.semAt_some
theorem qjr (v : UVal) : regsV [v] = if v.reg = true then [v.n] else [] := by
 rw [qh7];simp [regsV]
theorem qbp (l : List Int) (n g ob : Nat) (v : UVal) (w : World) (hS : IntAt g (rowW l n) w) (hB : w.heap[ob]? = some (.cells #[.slice (some ⟨g, 0, none⟩) n n] 26 (0, 0))) (hne : ob ≠ g) (hv : ValOk n v) (R : Ending -> World -> Prop)
 (hR : ∀ w', IntAt g (rowW (l ++ regsV [v]) n) w' -> w.grownBy w' (some g) -> R (.returned (.tuple #[])) w') :
 Calls Tryz.prog 77 #[.agg #[.bool v.reg, .int .i64 v.n], .pointer (some ⟨ob, 0, none⟩)] w R := by
 obtain ⟨HR, HS⟩ := lh2 hR hS;clear hR hS;rw [qjr] at HR;obtain ⟨reg, m⟩ := v
 cases reg
 ·have e : l ++ (if (UVal.mk false m).reg = true then [(UVal.mk false m).n] else []) = l := by simp
  rw [e] at HR;clear e
  go_enter Tryz.func77, Tryz.ntmps77
  go_wp2
  go_end0
  exact HR.out _ (HS.out.alloc _) (World.grownBy_alloc _ _ _)
 ·have hn := hv rfl;simp only at hn;obtain ⟨k, rfl⟩ : ∃ k : Nat, m = (k : Int) := ⟨m.toNat, by omega⟩;have hk : k < n := by omega
  have e : l ++ (if (UVal.mk true (k : Int)).reg = true then [(UVal.mk true (k : Int)).n] else []) = l ++ [(k : Int)] := by simp
  rw [e, qct hk] at HR;have c00 := HS.out.cell (k := k) (by rw [q3w]; exact hk);rw [q8s hk] at c00;generalize cntW l (k : Int) = q at *;have f00 := HS.out.frozen k;have lg0 := HS.out.lt;have b0 : w.cell? ⟨ob, 0, none⟩ = some (.slice (some ⟨g, 0, none⟩) n n) := cqq hB;have lb0 := qa hB;have k1 := nnn k;have k2 : (k : Int) < (n : Int) := by omega
  clear hv e
  go_enter Tryz.func77, Tryz.ntmps77
  go_wp2
  go_end0
  exact HR.out _ ((HS.out.set k (wrap64 (q + 1))).alloc _) ((q04 _ _ _).trans (World.grownBy_alloc _ _ _))
theorem q44 : (Tryz.prog.info? 3).map (fun i => (i.zero, i.size, i.bytes)) = some (some (.int .i64 0), 1, 8) := by kernel_rfl
theorem q9w (W : World) (n : Nat) (hn : n ≤ 5000) : (Instr.makeSlice 26 (.int .i64 (n : Int)) (.int .i64 (n : Int))).run Tryz.prog W = .ok (.slice (some ⟨W.heap.size, 0, none⟩) n n) (W.alloc (.cells (Array.replicate n (Value.int .i64 0)) 3)) := by
 obtain ⟨iB, hi, z0, z1, z2⟩ := info_parts q44;have h := run_make (P := Tryz.prog) W 26 3 iB _ Tryz.underlying26 hi z0 .i64 .i64 (n : Int) (n : Int) (by omega) (Int.le_refl _) (by rw [z2]; omega) (by omega);rw [z1] at h;simp only [Int.toNat_natCast, Nat.mul_one] at h
 have e : madeCells (Value.int .i64 0).cells n = Array.replicate n (Value.int .i64 0) := by
  unfold madeCells;apply Array.ext
  ·simp
  ·intro i h1 h2;simp [Value.cells, Nat.mod_one]
 rw [e] at h;exact h
def q1r (bs : List UBlk) (b : Nat) : List Int := (bs.take b).flatMap regsB
theorem qch {bs : List UBlk} {b : Nat} (h : b < bs.length) : q1r bs (b + 1) = (q1r bs b ++ bs[b].list.flatMap regsX) ++ regsV [bs[b].end_.on] := by
 unfold q1r;rw [List.take_succ_eq_append_getElem h, List.flatMap_append];simp [regsB]
theorem qgt {l : List UIns} {j : Nat} (h : j < l.length) (Z : List Int) : Z ++ (l.take (j + 1)).flatMap regsX = (Z ++ (l.take j).flatMap regsX) ++ regsX l[j] := by
 rw [List.take_succ_eq_append_getElem h, List.flatMap_append];simp
set_option pp.deepTerms true in
set_option pp.maxSteps 100000 in
theorem qad (u : Unt) (hu : UntI u) (hok : qo u = (0, 0)) (k : Nat) (f : UFun) (hkf : u.funcs[k]? = some f) (hnp : ∀ b ∈ f.blocks, b.phis = []) (n : Nat) (hn : f.regs = (n : Int)) (gA fA : Option Addr) (gn gc fc : Nat) (w : World) (hW : Ways w) (hg : rpGlobal.SL w w.heap.size u.globals (.slice gA gn gc)) (hf : rpFun.SL w w.heap.size u.funcs (.slice fA u.funcs.length fc)) (R : Ending -> World -> Prop)
 (hR : ∀ w' g, Below w.heap.size w w' -> w.heap.size ≤ g -> IntAt g (rowW (regsF f) n) w' -> R (.returned (.tuple #[.slice (some ⟨g, 0, none⟩) n n, (.agg #[.int .i64 (((0 : Int), (0 : Int))).1, .int .i64 (((0 : Int), (0 : Int))).2])])) w') :
 Calls Tryz.prog 41 #[.agg #[.slice gA gn gc, .slice fA u.funcs.length fc], .int .i64 (k : Int)] w R := by
 have hfo := funOk hok hkf;have h40 : f.blocks.length ≤ 40 := hfo.blocks.2;have hn1 : n ≤ 100 := by have := hfo.regs.2; omega
 have hcl := qaf hok hkf hnp;obtain ⟨hku, hfk⟩ := List.getElem?_eq_some_iff.1 hkf;obtain ⟨bf, offf, vb, hfA, hbf, hsb, qf0, qf1, qf2, qf3⟩ := hf.fun_at hku;subst hfA;rw [hfk] at qf0 qf1 qf2 hsb;rw [hn] at qf2;obtain ⟨A, c, rfl, hmx, hcap, hsb⟩ := hsb.cases_;have k0 := nnn k;have k1 : (k : Int) < (u.funcs.length : Int) := by omega
 obtain ⟨HR, Hg, Hf, HW, Hn, Hcl, Hfo, Hs⟩ := lh8 hR hg hf hW hn hcl hfo hsb;clear hR hg hf hW hok hkf hnp hn hcl hfo hsb hfk;obtain ⟨W2, hW2, hb2, hU2, hF2⟩ := box2 w (.cells #[.slice gA gn gc, .slice (some ⟨bf, offf, none⟩) u.funcs.length fc] 25) (.cells #[.int .i64 0, .int .i64 0] 30) rfl;obtain ⟨Hb2, HU2, HF2⟩ := lh3 hb2 hU2 hF2;have HW2 := lh hW2.symm;have hz2 := hb2.size;obtain ⟨u0, u1, lU⟩ := cbl hU2;clear hW2 hb2 hU2 hF2;refine (callsIn_wide (n := 7)).1 ?_;refine callsIn_of_wp_marks Tryz.func41 rfl trivial ?_ rfl;simp only [Tryz.ntmps41, List.size_toArray, List.length_cons, List.length_nil, Nat.reduceAdd, Nat.reduceSub, Array.replicate_succ, Array.replicate_zero, List.push_toArray, List.append_toArray, List.nil_append, List.cons_append];refine wpIn_wide.2 (wp_mono (Q := postN Tryz.prog Tryz.f41 R) ?_ qax)
 go_upto_region 1 with fail
 rw [HW2.out]
 go_wp2_with fail
 refine q1o u hu (k : Int) _ _ _ _ _ _ _ (HW.out.up Hb2.out HW.out.1) (Hg.out.up Hb2.out hz2) (Hf.out.up Hb2.out hz2) _ (fun w3 hb3 => ?_);rw [Hcl.out];have Hb3 := btt Hb2 hb3 hz2;have HU3 := bkk hb3 HU2;have HF3 := bkk hb3 HF2;have hz3 := Hb3.out.size;clear hb3 u0 u1 lU;obtain ⟨u0, u1, lU⟩ := cbl HU3.out;obtain ⟨g, hg⟩ := nmm (w3.heap.size + 1);have hsz : (w3.alloc (Obj.cells #[.int .i64 0, .int .i64 0] 30)).heap.size = g := by rw [hg]; simp
 have hmk := q9w (w3.alloc (Obj.cells #[.int .i64 0, .int .i64 0] 30)) n (by omega);rw [hsz] at hmk;obtain ⟨W5, hW5⟩ : ∃ W5, W5 = (((w3.alloc (Obj.cells #[.int .i64 0, .int .i64 0] 30)).alloc (.cells (Array.replicate n (Value.int .i64 0)) 3)).alloc (Obj.cells #[.slice (some ⟨g, 0, none⟩) n n] 26)).alloc (Obj.cells #[.func (.func 77) #[] #[.pointer (some ⟨g + 1, 0, none⟩)]] 121) := ⟨_, rfl⟩;have q2 := (Hb3.out.cell (p := ⟨bf, offf + k * 4 + 2, none⟩) hbf).trans qf2;have q3 := (Hb3.out.cell (p := ⟨bf, offf + k * 4 + 3, none⟩) hbf).trans qf3;have lbf : bf < w3.heap.size := by omega
 have hb35 : Below w3.heap.size w3 W5 := by subst hW5; exact bl0
 have hI5 : IntAt g (rowW [] n) W5 := by
  subst hW5;refine ⟨Array.replicate n (Value.int .i64 0), qf (qf (by have := heap_alloc_new (w3.alloc (Obj.cells #[.int .i64 0, .int .i64 0] 30)) (.cells (Array.replicate n (Value.int .i64 0)) 3); rw [hsz] at this; exact this) _) _, fun j hj => ?_⟩;rw [q3w] at hj;rw [q8s hj];have : cntW [] (j : Int) = 0 := by unfold cntW wrap64; simp
  rw [this];simp [hj]
 have hsz2 : ((w3.alloc (Obj.cells #[.int .i64 0, .int .i64 0] 30)).alloc (.cells (Array.replicate n (Value.int .i64 0)) 3)).heap.size = g + 1 := by simp; omega
 have hX5 : W5.heap[g + 1]? = some (.cells #[.slice (some ⟨g, 0, none⟩) n n] 26 (0, 0)) := by
  subst hW5;refine qf ?_ _;have := heap_alloc_new ((w3.alloc (Obj.cells #[.int .i64 0, .int .i64 0] 30)).alloc (.cells (Array.replicate n (Value.int .i64 0)) 3)) (Obj.cells #[.slice (some ⟨g, 0, none⟩) n n] 26)
  rwa [hsz2] at this
 have hQ5 : W5.heap[g + 2]? = some (.cells #[.func (.func 77) #[] #[.pointer (some ⟨g + 1, 0, none⟩)]] 121 (0, 0)) := by
  have := heap_alloc_new (((w3.alloc (Obj.cells #[.int .i64 0, .int .i64 0] 30)).alloc (.cells (Array.replicate n (Value.int .i64 0)) 3)).alloc (Obj.cells #[.slice (some ⟨g, 0, none⟩) n n] 26)) (Obj.cells #[.func (.func 77) #[] #[.pointer (some ⟨g + 1, 0, none⟩)]] 121);rw [<- hW5] at this;have e : (((w3.alloc (Obj.cells #[.int .i64 0, .int .i64 0] 30)).alloc (.cells (Array.replicate n (Value.int .i64 0)) 3)).alloc (Obj.cells #[.slice (some ⟨g, 0, none⟩) n n] 26)).heap.size = g + 2 := by simp; omega
  rwa [e] at this
 have Hb5 := btt Hb3 hb35 hz3;have HU5 := bkk hb35 HU3;have HF5 := bkk hb35 HF3;obtain ⟨HI5, HX5, HQ5⟩ := lh3 hI5 hX5 hQ5;have HW5 := lh hW5.symm;have Hg3 : Hid (w.heap.size + 1 < g ∧ w3.heap.size < g) := lh ⟨by have := qa HF3.out; omega, by omega⟩;have Hgs := lh hg;have hz5 := Hb5.out.size;clear hb35 hI5 hX5 hQ5 hW5 hsz hsz2 hg
 go_upto_region 6 with fail
 rw [show w3.heap.size + 1 + 1 = g + 1 from by have := Hgs.out; omega, HW5.out, show g + 1 + 1 = g + 2 from rfl];clear u0 u1 lU q2 q3 lbf hmk;obtain ⟨u0, u1, lU⟩ := cbl HU5.out;have q3 := (Hb5.out.cell (p := ⟨bf, offf + k * 4 + 3, none⟩) hbf).trans qf3;have lbf : bf < W5.heap.size := by omega
 go_wp2;clear u0 u1 lU q3 lbf
 refine q3q (fun u => #[u 0, u 1, .pointer (some ⟨w.heap.size, 0, none⟩), u 3, u 4, .pointer (some ⟨w.heap.size + 1, 0, none⟩), u 6, .pointer (some ⟨g + 1, 0, none⟩), .pointer (some ⟨g + 2, 0, none⟩), u 9, u 10, u 11, u 12, u 13, u 14, u 15, u 16, u 17, u 18, u 19, u 20, u 21, u 22, u 23, u 24, u 25, u 26, u 27, u 28, u 29, u 30, u 31, u 32, u 33, .slice A f.blocks.length c, .int .i64 (f.blocks.length : Int), u 36, u 37, u 38, u 39, u 40, u 41, u 42, u 43, u 44, u 45, u 46, u 47, u 48, u 49, u 50, u 51, u 52, u 53, u 54, u 55, u 56, u 57, u 58, u 59, u 60, u 61, u 62, u 63, u 64, u 65, u 66, u 67, u 68, u 69, u 70, u 71])
  (fun gh u ds wr => ∃ b : Nat, b ≤ f.blocks.length ∧ gh = f.blocks.length - b ∧ u 36 = .int .i64 (b : Int) ∧ Hid (IntI g (rowW (q1r f.blocks b) n) W5 wr) ∧ Hid (DMarks w.heap.size wr ds))
  f.blocks.length rfl ?_ ?_
 ·exact ⟨0, Nat.zero_le _, rfl, rfl, lh ⟨HI5.out, q38 _ _, CKeep.refl _ _⟩, lh .nil⟩
 intro gh us ds w4 hI K HK;obtain ⟨b, hbN, hgh, h36, HIr, HM⟩ := hI;dsimp only;rw [h36];have Hgh := lh hgh;clear h36 hgh;have hzr : W5.heap.size ≤ w4.heap.size := HIr.out.2.1.size;have k2 := nnn b;have Hb4 : Hid (Below w.heap.size w w4) := lh (Hb5.out.grown HIr.out.2.1 hz5 (fun k e => by have := Option.some.inj e; have := Hg3.out; omega));have hz4 := Hb4.out.size
 by_cases hlt : ¬ b < f.blocks.length
 ·have hbe : b = f.blocks.length := by omega
  subst hbe;have k3 : ¬ ((f.blocks.length : Int) < (f.blocks.length : Int)) := by omega
  clear hlt;have hXo := HIr.out.2.2.blk HX5.out (by omega);have hFo := HIr.out.2.2.blk HF5.out (by have := Hg3.out; omega);have o0 : w4.cell? ⟨g + 1, 0, none⟩ = some (.slice (some ⟨g, 0, none⟩) n n) := cqq hXo;have lo := qa hXo;obtain ⟨f0, f1, lF⟩ := cbl hFo;have y0 := fzz hFo 0;have y1 := fzz hFo 1;have HFo := lh hFo;have hne : w.heap.size + 1 ≠ g := by have := Hg3.out; omega
  have hIe : IntAt g (rowW (regsF f) n) w4 := by
   have := HIr.out.1;unfold q1r at this
   rwa [List.take_length] at this
  have HIe := lh hIe;clear hXo hFo hIe;go_wp2;have hblk : ((w4.setCell ⟨w.heap.size + 1, 0, none⟩ (.int .i64 0)).setCell ⟨w.heap.size + 1, 1, none⟩ (.int .i64 0)).heap[w.heap.size + 1]? = some (.cells #[.int .i64 0, .int .i64 0] 30 (0, 0)) := q0h (j := 1) (q0h (j := 0) HFo.out _) _;have hI2 : IntAt g (rowW (regsF f) n) ((w4.setCell ⟨w.heap.size + 1, 0, none⟩ (.int .i64 0)).setCell ⟨w.heap.size + 1, 1, none⟩ (.int .i64 0)) := HIe.out.block (fun o ho _ => (Below.heap_setCell _ _ _ _ (show g ≠ w.heap.size + 1 from hne.symm)).trans ((Below.heap_setCell _ _ _ _ (show g ≠ w.heap.size + 1 from hne.symm)).trans ho))
  have hM2 : DMarks w.heap.size ((w4.setCell ⟨w.heap.size + 1, 0, none⟩ (.int .i64 0)).setCell ⟨w.heap.size + 1, 1, none⟩ (.int .i64 0)) ds := (HM.out.grown (q04 w4 ⟨w.heap.size + 1, 0, none⟩ (.int .i64 0)) (fun y h => by have h : w4.heap[w.heap.size + 1]? = _ := h; rw [HFo.out] at h; cases h)).grown (q04 _ ⟨w.heap.size + 1, 1, none⟩ (.int .i64 0)) (fun y h => by
   have h : (w4.setCell ⟨w.heap.size + 1, 0, none⟩ (.int .i64 0)).heap[w.heap.size + 1]? = _ := h;rw [q0h (j := 0) HFo.out (.int .i64 0)] at h
   cases h)
  have hbl := q02 Hb4.out [(⟨w.heap.size + 1, 0, none⟩, .int .i64 (0)), (⟨w.heap.size + 1, 1, none⟩, .int .i64 (0))] (by simp);refine q1v (n₀ := w.heap.size) (by simp [World.setCell]; omega) hM2 (fun w' hsh => ?_);have hblk' := hsh.cells _ _ hblk (fun x e => by cases e);refine ⟨_, q3i (by rfl) (by rfl) (by rfl) (qi hblk'), ?_⟩;exact HR.out w' g (hbl.trans hsh.bel) (by have := Hg3.out; omega) (hI2.block (fun o ho hc => hsh.cells _ _ ho (fun x e => by subst e; cases hc)))
 have hlt := Decidable.of_not_not hlt;have k3 : (b : Int) < (f.blocks.length : Int) := by omega
 obtain ⟨b9, off9, vp, vl, vt, hA9, hb9, hp, hl, ht, q0, q1, q2, q3, q4, q5⟩ := Hs.out.blk_at hlt;subst hA9;obtain ⟨Ap, cp, rfl, _, _, hp⟩ := hp.cases_;obtain ⟨Al, cl, rfl, hlm, _, hl⟩ := hl.cases_;obtain ⟨At, ct, rfl, _, _, ht⟩ := ht.cases_;obtain ⟨F, hF⟩ := q6d hl;obtain ⟨bk, hbk⟩ : ∃ bk, bk = f.blocks[b] := ⟨_, rfl⟩;have hgb : f.blocks[b]? = some bk := by rw [hbk]; exact List.getElem?_eq_getElem hlt
 have Hstep : Hid (q1r f.blocks (b + 1) = (q1r f.blocks b ++ bk.list.flatMap regsX) ++ regsV [bk.end_.on]) := lh (by rw [qch hlt, hbk]);rw [<- hbk] at hF q0 q1 q2 q3 q4 q5 hl hlm;have Hin : Hid (∀ x ∈ bk.list, InsOk u n x) := lh (by rw [<- Hn.out]; exact Hfo.out.ins bk (List.mem_of_getElem? hgb));have Hon : Hid (ValOk n bk.end_.on) := lh (by rw [<- Hn.out]; exact Hfo.out.on bk (List.mem_of_getElem? hgb));have HF := lh hF;have r0 := (Hb4.out.cell (p := ⟨b9, off9 + b * 6, none⟩) hb9).trans q0;have r1 := (Hb4.out.cell (p := ⟨b9, off9 + b * 6 + 1, none⟩) hb9).trans q1;have r2 := (Hb4.out.cell (p := ⟨b9, off9 + b * 6 + 2, none⟩) hb9).trans q2;have r3 := (Hb4.out.cell (p := ⟨b9, off9 + b * 6 + 3, none⟩) hb9).trans q3;have r4 := (Hb4.out.cell (p := ⟨b9, off9 + b * 6 + 4, none⟩) hb9).trans q4;have r5 := (Hb4.out.cell (p := ⟨b9, off9 + b * 6 + 5, none⟩) hb9).trans q5;have lb9 : b9 < w4.heap.size := by omega
 clear hF hgb hp hl ht q0 q1 q2 q3 q4 q5 hbk;obtain ⟨W6, hW6, hb6, hX6⟩ := box1 w4 (.cells #[.slice Ap bk.phis.length cp, .slice Al bk.list.length cl, .int .i64 bk.end_.kind, .bool bk.end_.on.reg, .int .i64 bk.end_.on.n, .slice At bk.end_.to.length ct] 68) rfl;obtain ⟨BX, hBX⟩ := nmm (w4.heap.size);have HI6 : Hid (IntI g (rowW (q1r f.blocks b ++ (bk.list.take 0).flatMap regsX) n) W5 W6) := lh (by simpa using HIr.out.below hb6);have HM6 := lh (HM.out.onto hb6);rw [<- hBX] at hX6;have HX6 := lh hX6;have hBXl : W5.heap.size ≤ BX := by omega
 have HW6 := lh hW6.symm;clear hb6 hX6 hW6;obtain ⟨x0, x1, x2, x3, x4, x5⟩ := q1d HX6.out;have lX := qa HX6.out
 go_upto_region 9 with fail
 rw [HW6.out, <- hBX];clear hBX r0 r1 r2 r3 r4 r5 lb9;go_wp2;clear x0 x1 x2 x3 x4 x5 lX
 refine q3q (fun u => #[u 0, u 1, .pointer (some ⟨w.heap.size, 0, none⟩), u 3, u 4, .pointer (some ⟨w.heap.size + 1, 0, none⟩), u 6, .pointer (some ⟨g + 1, 0, none⟩), .pointer (some ⟨g + 2, 0, none⟩), u 9, .pointer (some ⟨BX, 0, none⟩), u 11, u 12, u 13, u 14, u 15, u 16, u 17, u 18, u 19, u 20, u 21, u 22, u 23, u 24, u 25, u 26, u 27, u 28, u 29, u 30, u 31, u 32, u 33, .slice (some ⟨b9, off9, none⟩) f.blocks.length c, .int .i64 (f.blocks.length : Int), .int .i64 (b : Int), u 37, u 38, u 39, u 40, .slice Al bk.list.length cl, .int .i64 (bk.list.length : Int), u 43, u 44, u 45, u 46, u 47, u 48, u 49, u 50, u 51, u 52, u 53, u 54, u 55, u 56, u 57, u 58, u 59, u 60, u 61, u 62, u 63, u 64, u 65, u 66, u 67, u 68, u 69, u 70, u 71])
  (fun gh u ds wr => ∃ j : Nat, j ≤ bk.list.length ∧ gh = bk.list.length - j ∧ u 43 = .int .i64 (j : Int) ∧ Hid (IntI g (rowW (q1r f.blocks b ++ (bk.list.take j).flatMap regsX) n) W5 wr) ∧ Hid (wr.heap[BX]? = some (.cells #[.slice Ap bk.phis.length cp, .slice Al bk.list.length cl, .int .i64 bk.end_.kind, .bool bk.end_.on.reg, .int .i64 bk.end_.on.n, .slice At bk.end_.to.length ct] 68 (0, 0))) ∧ Hid (DMarks w.heap.size wr ds))
  bk.list.length rfl ?_ ?_
 ·exact ⟨0, Nat.zero_le _, rfl, rfl, HI6, HX6, HM6⟩
 intro gh2 us2 ds2 w7 hI2 K2 HK2;obtain ⟨j, hjN, hgh2, h43, HI7, HX7, HM7⟩ := hI2;dsimp only;rw [h43];have Hgh2 := lh hgh2;clear h43 hgh2 HI6 HX6 HM6;have hz7 : W5.heap.size ≤ w7.heap.size := HI7.out.2.1.size;have j1 := nnn j
 by_cases hltj : ¬ j < bk.list.length
 ·have hje : j = bk.list.length := by omega
  subst hje;have j3 : ¬ ((bk.list.length : Int) < (bk.list.length : Int)) := by omega
  clear hltj;rw [List.take_length] at HI7;obtain ⟨x0, x1, x2, x3, x4, x5⟩ := q1d HX7.out;have lX := qa HX7.out;have hXo := HI7.out.2.2.blk HX5.out (by omega);have hQo := HI7.out.2.2.blk HQ5.out (by omega);have o0 : w7.cell? ⟨g + 2, 0, none⟩ = some (.func (.func 77) #[] #[.pointer (some ⟨g + 1, 0, none⟩)]) := cqq hQo;have lq := qa hQo;have HXo := lh hXo;clear hXo hQo
  go_wp2_with fail
  refine qbp _ n g (g + 1) bk.end_.on w7 HI7.out.1 HXo.out (by omega) Hon.out _ (fun w8 h1 h2 => ?_);rw [<- Hstep.out] at h1;have HI8 : Hid (IntI g (rowW (q1r f.blocks (b + 1)) n) W5 w8) := lh ⟨h1, HI7.out.2.1.trans h2, HI7.out.2.2.trans (CKeep.of_grown h2)⟩
  have HM8 := lh (HM7.out.grown h2 (fun y h => by
   obtain ⟨A', h3, _⟩ := HI7.out.1;rw [h3] at h
   cases h))
  clear h1 h2 x0 x1 x2 x3 x4 x5 lX o0 lq;go_wp2;refine HK.out (f.blocks.length - (b + 1)) _ _ _ (by have := Hgh.out; omega) ?_ ?_
  ·rfl
  ·exact ⟨b + 1, hlt, rfl, by go_num, HI8, HM8⟩
 have hltj := Decidable.of_not_not hltj;have j3 : (j : Int) < (bk.list.length : Int) := by omega
 obtain ⟨x, hx⟩ : ∃ x, x = bk.list[j] := ⟨_, rfl⟩;have Hix : Hid (InsOk u n x) := lh (Hin.out x (by rw [hx]; exact List.getElem_mem hltj));have Hst2 : Hid (q1r f.blocks b ++ (bk.list.take (j + 1)).flatMap regsX = (q1r f.blocks b ++ (bk.list.take j).flatMap regsX) ++ regsX x) := lh (by rw [qgt hltj, hx]);have Hb7 : Hid (Below w.heap.size w w7) := lh (Hb5.out.grown HI7.out.2.1 hz5 (fun k e => by have := Option.some.inj e; have := Hg3.out; omega));obtain ⟨b8, off8, hA8, hb8, hva, q0, q1, q2, q3, q4, q5, q6, q7⟩ := HF.out j hltj;subst hA8;rw [<- hx] at hva q0 q1 q2 q3 q4 q5 q6;obtain ⟨Aj, cj, hFj, _, _, hva⟩ := hva.cases_;rw [hFj] at q7;have Hva := lh hva;have hq : ∀ {o : Nat} {v : Value}, w.cell? ⟨b8, o, none⟩ = some v -> w7.cell? ⟨b8, o, none⟩ = some v := fun {o v} h => (Hb7.out.cell (p := ⟨b8, o, none⟩) hb8).trans h;have r0 := hq q0;have r1 := hq q1;have r2 := hq q2;have r3 := hq q3;have r4 := hq q4;have r5 := hq q5;have r6 := hq q6;have r7 := hq q7;have lb8 : b8 < w7.heap.size := by have := Hb7.out.size; omega
 have hd := Hix.out.dst;clear hva q0 q1 q2 q3 q4 q5 q6 q7 hq hFj hx;generalize q1r f.blocks b ++ (bk.list.take j).flatMap regsX = Z at *;obtain ⟨W8, hW8⟩ : ∃ W8, W8 = w7.alloc (Obj.cells #[.int .i64 x.op, .int .i64 x.dst, .bool x.a.reg, .int .i64 x.a.n, .bool x.b.reg, .int .i64 x.b.n, .int .i64 x.fn, .slice Aj x.args.length cj] 71) := ⟨_, rfl⟩;obtain ⟨BI, hBI⟩ := nmm (w7.heap.size);have hb78 : Below w7.heap.size w7 W8 := by subst hW8; exact bl0
 have hv8 : W8.heap[BI]? = some (.cells #[.int .i64 x.op, .int .i64 x.dst, .bool x.a.reg, .int .i64 x.a.n, .bool x.b.reg, .int .i64 x.b.n, .int .i64 x.fn, .slice Aj x.args.length cj] 71 (0, 0)) := by subst hW8 hBI; exact heap_alloc_new _ _
 have HI8 := lh (HI7.out.below hb78);have HX8 := bkk hb78 HX7;have HM8 := lh (HM7.out.onto hb78);have HV8 := lh hv8;have HW8 := lh hW8.symm;have hz8 := hb78.size;have hBIg : g < BI ∧ w.heap.size ≤ BI ∧ BX < BI := by have := HI7.out.1.lt; have := qa HX7.out; have := Hb7.out.size; omega
 have HBIg := lh hBIg;clear hb78 hv8 hW8 hBIg HI7 HX7 HM7;have y1 : W8.cell? ⟨BI, 1, none⟩ = some (.int .i64 x.dst) := cqq HV8.out;have lI := qa HV8.out
 go_upto_region 12 with fail
 rw [HW8.out, <- hBI];clear hBI r0 r1 r2 r3 r4 r5 r6 r7 lb8
 go_upto_if 49 with fail
 go_cut [] from 49 to 56 (fun wx => IntI g (rowW (Z ++ (if 0 ≤ x.dst then [x.dst] else [])) n) W5 wx ∧ wx.heap[BI]? = some (.cells #[.int .i64 x.op, .int .i64 x.dst, .bool x.a.reg, .int .i64 x.a.n, .bool x.b.reg, .int .i64 x.b.n, .int .i64 x.fn, .slice Aj x.args.length cj] 71 (0, 0)) ∧ wx.heap[BX]? = some (.cells #[.slice Ap bk.phis.length cp, .slice (some ⟨b8, off8, none⟩) bk.list.length cl, .int .i64 bk.end_.kind, .bool bk.end_.on.reg, .int .i64 bk.end_.on.n, .slice At bk.end_.to.length ct] 68 (0, 0)) ∧ DMarks w.heap.size wx ds2)
 case first =>
  by_cases hd0 : 0 ≤ x.dst
  ·have hdd : x.dst = ((x.dst.toNat : Nat) : Int) := by omega
   have hdn : x.dst.toNat < n := by omega
   have hfin : ∀ q, cntW Z x.dst = q -> (IntI g (rowW (Z ++ (if 0 ≤ x.dst then [x.dst] else [])) n) W5 (W8.setCell ⟨g, x.dst.toNat, none⟩ (.int .i64 (wrap64 (q + 1)))) ∧ (W8.setCell ⟨g, x.dst.toNat, none⟩ (.int .i64 (wrap64 (q + 1)))).heap[BI]? = some (.cells #[.int .i64 x.op, .int .i64 x.dst, .bool x.a.reg, .int .i64 x.a.n, .bool x.b.reg, .int .i64 x.b.n, .int .i64 x.fn, .slice Aj x.args.length cj] 71 (0, 0)) ∧ (W8.setCell ⟨g, x.dst.toNat, none⟩ (.int .i64 (wrap64 (q + 1)))).heap[BX]? = some (.cells #[.slice Ap bk.phis.length cp, .slice (some ⟨b8, off8, none⟩) bk.list.length cl, .int .i64 bk.end_.kind, .bool bk.end_.on.reg, .int .i64 bk.end_.on.n, .slice At bk.end_.to.length ct] 68 (0, 0)) ∧ DMarks w.heap.size (W8.setCell ⟨g, x.dst.toNat, none⟩ (.int .i64 (wrap64 (q + 1)))) ds2) := fun q hq => by
    have hgs := q04 W8 ⟨g, x.dst.toNat, none⟩ (.int .i64 (wrap64 (q + 1)))
    refine ⟨⟨?_, HI8.out.2.1.trans hgs, HI8.out.2.2.trans (CKeep.of_grown hgs)⟩, (Below.heap_setCell _ _ _ _ (by have := HBIg.out; show BI ≠ g; omega)).trans HV8.out, (Below.heap_setCell _ _ _ _ (by have := HI5.out.lt; show BX ≠ g; omega)).trans HX8.out, HM8.out.grown hgs (fun y h => by
     obtain ⟨A, h1, _⟩ := HI8.out.1;rw [h1] at h
     cases h)⟩
    have e := qct (l := Z) hdn;rw [<- hdd] at e;rw [if_pos hd0, e, hq];exact HI8.out.1.set x.dst.toNat (wrap64 (q + 1))
   have c0 := HI8.out.1.cell (k := x.dst.toNat) (by rw [q3w]; exact hdn);rw [q8s hdn, <- hdd] at c0;have f0 := HI8.out.1.frozen x.dst.toNat;have lg := HI8.out.1.lt;have hXo := HI8.out.2.2.blk HX5.out (by omega);have o0 : W8.cell? ⟨g + 1, 0, none⟩ = some (.slice (some ⟨g, 0, none⟩) n n) := cqq hXo;have lo := qa hXo;obtain ⟨q, hq⟩ : ∃ q, cntW Z x.dst = q := ⟨_, rfl⟩;have Hfin := lh (hfin q hq);rw [hq] at c0;have k6 : x.dst < (n : Int) := by omega
   clear hfin hq hXo hdd;go_wp2;go_meet;exact Hfin.out
  ·have Hnd := lh hd0;go_wp2;go_meet;exact ⟨by rw [if_neg (by have := Hnd.out; omega), List.append_nil]; exact HI8.out, HV8.out, HX8.out, HM8.out⟩
 case rest =>
  obtain ⟨hI9, hV9, hX9, hM9⟩ := hcut;rename World => w9;have hcI : ∀ k v, (insC x (.slice Aj x.args.length cj))[k]? = some v -> w9.cell? ⟨BI, k, none⟩ = some v := fun k v h => by rw [qb hV9]; exact h
  have z0 : w9.cell? ⟨BI, 0, none⟩ = some (.int .i64 x.op) := hcI 0 _ rfl;have z1 : w9.cell? ⟨BI, 1, none⟩ = some (.int .i64 x.dst) := hcI 1 _ rfl;have z2 : w9.cell? ⟨BI, 2, none⟩ = some (.bool x.a.reg) := hcI 2 _ rfl;have z3 : w9.cell? ⟨BI, 3, none⟩ = some (.int .i64 x.a.n) := hcI 3 _ rfl;have z4 : w9.cell? ⟨BI, 4, none⟩ = some (.bool x.b.reg) := hcI 4 _ rfl;have z5 : w9.cell? ⟨BI, 5, none⟩ = some (.int .i64 x.b.n) := hcI 5 _ rfl;have z6 : w9.cell? ⟨BI, 6, none⟩ = some (.int .i64 x.fn) := hcI 6 _ rfl;have z7 : w9.cell? ⟨BI, 7, none⟩ = some (.slice Aj x.args.length cj) := hcI 7 _ rfl;have lI9 := qa hV9;obtain ⟨HI9, HV9, HX9, HM9⟩ := lh4 hI9 hV9 hX9 hM9;clear hI9 hV9 hX9 hM9 hcI y1 lI
  go_wp2_with fail
  refine q52 x Aj x.args.length cj _ _ ?_;clear z0 z1 z2 z3 z4 z5 z6 z7 lI9;go_wp2;obtain ⟨W11, hW11, hb11, hbx11⟩ := box1 w9 (.cells #[.int .i64 x.op, .int .i64 x.dst, .bool x.a.reg, .int .i64 x.a.n, .bool x.b.reg, .int .i64 x.b.n, .int .i64 x.fn, .slice Aj x.args.length cj] 71) rfl;have hs11 := hb11.size;have HI11 := lh (HI9.out.below hb11);have HX11 := bkk hb11 HX9;have HM11 := lh (HM9.out.onto hb11);have hg9 := HI9.out.1.lt;have Hb11 : Hid (Below w.heap.size w W11) := lh (Hb5.out.grown HI11.out.2.1 hz5 (fun k e => by have := Option.some.inj e; have := Hg3.out; omega));have hVN : ValsNeed x (.slice Aj x.args.length cj) w9.heap.size w.heap.size g W11 := ⟨hbx11, Hva.out.below Hb11.out, by omega, by have := Hg3.out; omega, by omega⟩;have HVN := lh hVN;have HWS : Hid (W5.heap.size ≤ W11.heap.size) := lh HI11.out.2.1.size;rw [<- hW11];clear hW11 hb11 hbx11 hVN;obtain ⟨Z1, hZ1⟩ : ∃ Z1, Z1 = Z ++ (if 0 ≤ x.dst then [x.dst] else []) := ⟨_, rfl⟩;rw [<- hZ1] at HI11;have Hst3 : Hid (q1r f.blocks b ++ (bk.list.take (j + 1)).flatMap regsX = Z1 ++ regsV (qn x)) := lh (by rw [Hst2.out, hZ1]; unfold regsX; rw [List.append_assoc]);have HX11' := HI11.out.2.2.blk HX5.out (by omega);have HQ11' := HI11.out.2.2.blk HQ5.out (by omega);clear hZ1 Hst2 HI9 HV9 HX9 HM9 HI8 HX8 HM8 HV8 HW8;refine (wpIn_wide (n := 7)).1 ?_
  refine wpIn_rangeFunc_ownH (F := Fence.wide) rfl (by decide) (gf := 100) (lb := #[.pointer (some ⟨w9.heap.size, 0, none⟩)]) rfl trivial (enters_of Tryz.func100 (by kernel_rfl) rfl)
   (q53 6 (by decide) w9.heap.size w.heap.size g x (.slice Aj x.args.length cj) W11 HVN.out) (fun h k => h.trans k) (fun W l o o' _ h1 h2 _ => CKeep.putObj W l o o' h1 h2) (Below.refl _ _) (fun _ => rfl)
   (fun (pre : List (VX x)) (W : World) => IntI g (rowW (Z1 ++ regsV (pre.map (·.1))) n) W11 W ∧ W.heap[g + 1]? = some (.cells #[.slice (some ⟨g, 0, none⟩) n n] 26 (0, 0)) ∧ W.heap[g + 2]? = some (.cells #[.func (.func 77) #[] #[.pointer (some ⟨g + 1, 0, none⟩)]] 121 (0, 0)))
   (fun _ _ _ => False)
   (OwnFrom.and (qlm (f := fun pre : List (VX x) => rowW (Z1 ++ regsV (pre.map (·.1))) n) (Nat.le_refl _)) (OwnFrom.and (q2s _ _ _ _ _) (q2s _ _ _ _ _))) (fun _ _ _ _ _ hs _ _ => hs) ⟨by simpa [regsV] using ⟨HI11.out.1, q38 _ _, CKeep.refl _ _⟩, HX11', HQ11'⟩
   (fun (v : VX x) (a' : Act) (W : World) => ∃ Bv, W.heap[Bv]? = some (Obj.cells #[.bool v.1.reg, .int .i64 v.1.n] 64 ((0, 0) : Nat × Nat)) ∧ a' = { tmps := #[us2 0, us2 1, .pointer (some ⟨w.heap.size, 0, none⟩), us2 3, us2 4, .pointer (some ⟨w.heap.size + 1, 0, none⟩), us2 6, .pointer (some ⟨g + 1, 0, none⟩), .pointer (some ⟨g + 2, 0, none⟩), us2 9, .pointer (some ⟨BX, 0, none⟩), us2 11, .pointer (some ⟨BI, 0, none⟩), .pointer (some ⟨Bv, 0, none⟩), us2 14, us2 15, us2 16, us2 17, us2 18, us2 19, us2 20, us2 21, us2 22, us2 23, us2 24, us2 25, us2 26, us2 27, us2 28, us2 29, us2 30, us2 31, us2 32, us2 33, .slice (some ⟨b9, off9, none⟩) f.blocks.length c, .int .i64 (f.blocks.length : Int), .int .i64 (b : Int), us2 37, us2 38, us2 39, us2 40, .slice (some ⟨b8, off8, none⟩) bk.list.length cl, .int .i64 (bk.list.length : Int), .int .i64 (j : Int), .bool true, .pointer (some ⟨b8, off8 + j * 8, none⟩), .agg #[.int .i64 x.op, .int .i64 x.dst, .bool x.a.reg, .int .i64 x.a.n, .bool x.b.reg, .int .i64 x.b.n, .int .i64 x.fn, .slice Aj x.args.length cj], .pointer (some ⟨BI, 1, none⟩), .int .i64 x.dst, u49, u50, u51, u52, u53, u54, u55, u56, .agg #[.int .i64 x.op, .int .i64 x.dst, .bool x.a.reg, .int .i64 x.a.n, .bool x.b.reg, .int .i64 x.b.n, .int .i64 x.fn, .slice Aj x.args.length cj], .func (.func 100) #[] #[.pointer (some ⟨w9.heap.size, 0, none⟩)], .agg #[.bool v.1.reg, .int .i64 v.1.n], us2 60, us2 61, us2 62, us2 63, us2 64, us2 65, us2 66, us2 67, us2 68, us2 69, us2 70, us2 71], defers := [] })
   (fun (v : VX x) a' s X Y row hs hg hr => by obtain ⟨Bv, h1, h2⟩ := hs; exact ⟨Bv, q2s Bv #[.bool v.1.reg, .int .i64 v.1.n] 64 (0, 0) W11.heap.size () X Y row h1 hg hr, h2⟩) ?assign ?body ?done ?stop
  case assign =>
   rintro l pre v W K9 ⟨hI, hB, hQ⟩ hK;unfold encV
   gi_wp2
   exact hK _ _ ((KeepsOthers.alloc _ _).from _) (CKeep.of_below ((Below.refl W.heap.size W).alloc (Nat.le_refl _) _)) ⟨hI.alloc _, qf hB _, qf hQ _⟩ ⟨W.heap.size, heap_alloc_new _ _, rfl⟩
  case body =>
   rintro l pre v a' W hl ⟨r, hr⟩ ⟨hI, hB, hQ⟩ ⟨Bv, hv, rfl⟩ hlen;obtain ⟨v0, v1, lv⟩ := cbl hv;have o0 : W.cell? ⟨g + 2, 0, none⟩ = some (.func (.func 77) #[] #[.pointer (some ⟨g + 1, 0, none⟩)]) := cqq hQ;have lq := qa hQ;obtain ⟨HIv, HBv, HQv⟩ := lh3 hI hB hQ;have Hvo := lh (q49 Hix.out v.1 v.2);clear hI hB hQ hv
   gi_wp2_with fail
   refine ⟨trivial, CallsIn.inRound l (callsIn_wide.2 (qbp (Z1 ++ regsV (pre.map (·.1))) n g (g + 1) v.1 W HIv.out.1 HBv.out (by omega) Hvo.out _ (fun w2' h1 h2 => ?_)))⟩;have h3 := CKeep.of_grown h2;have hI2 : IntI g (rowW (Z1 ++ regsV ((pre ++ [v]).map (·.1))) n) W11 w2' := ⟨by rw [List.map_append, q1z, <- List.append_assoc]; exact h1, HIv.out.2.1.trans h2, HIv.out.2.2.trans h3⟩;have hB2 := h3.blk HBv.out (by omega);have hQ2 := h3.blk HQv.out (by omega);have hKF : KeepsFrom W11.heap.size W w2' := KeepsFrom.of_grownBy h2 (fun j e => by cases e; have := HI11.out.1.lt; omega)
   gi_wp2
   exact ⟨hKF, h3, hI2, hB2, hQ2⟩
  case done =>
   rintro D ys W hD hys ⟨hI, hB, hQ⟩ hK;have hys' : ys.map (·.1) = qn x := hys;rw [hys', <- Hst3.out] at hI;have hI2 : IntI g (rowW (q1r f.blocks b ++ (bk.list.take (j + 1)).flatMap regsX) n) W5 W := ⟨hI.1, HI11.out.2.1.trans hI.2.1, HI11.out.2.2.trans hI.2.2⟩;have hX2 := hI.2.2.blk HX11.out (by have := HI5.out.lt; omega)
   have hM2 : DMarks w.heap.size W ({ target := .collected D, args := #[] } :: ds2) := DMarks.push HM11.out (HM11.out.grown hI.2.1 (fun y h => by
    obtain ⟨A', h1, _⟩ := HI11.out.1;rw [h1] at h
    cases h)) (by have := Hb11.out.size; omega) hD hK
   obtain ⟨HI2', HX2, HM2⟩ := lh3 hI2 hX2 hM2;clear hI hB hQ hK hys hys' hI2 hX2 hM2;go_wp2;refine HK2.out (bk.list.length - (j + 1)) _ _ _ (by have := Hgh2.out; omega) ?_ ?_
   ·rfl
   ·exact ⟨j + 1, hltj, rfl, by go_num, HI2', HX2, HM2⟩
  case stop =>
   rintro D c pre W _ _ h _;exact h.elim
end Go.Proofs.YtdanebboiekieaaGreatDoor
namespace Go.Proofs.YtdanebboiekieaaGreatDoor
open Go.RowKit
theorem qil {many : Int} (h : 2 ≤ many ∧ many ≤ 14) : q2c many = ints (halfC many).toNat ++ (ints (many - halfC many).toNat).map (fun k => 6 + k) := by
 obtain ⟨m, rfl⟩ : ∃ m : Nat, many = (m : Int) := ⟨many.toNat, by omega⟩;have : m = 2 ∨ m = 3 ∨ m = 4 ∨ m = 5 ∨ m = 6 ∨ m = 7 ∨ m = 8 ∨ m = 9 ∨ m = 10 ∨ m = 11 ∨ m = 12 ∨ m = 13 ∨ m = 14 := by omega
 rcases this with rfl | rfl | rfl | rfl | rfl | rfl | rfl | rfl | rfl | rfl | rfl | rfl | rfl <;> decide +kernel
theorem qlg {many : Int} (h : 2 ≤ many ∧ many ≤ 14) : min (6 : Int) ((many + 1) / 2) = halfC many ∧ 1 ≤ halfC many ∧ halfC many ≤ 6 ∧ halfC many ≤ many := by
 unfold halfC
 split <;> omega
def gTo (k : Nat) : List Int := (ints k).map fun k => 6 + k
theorem qlf (k : Nat) : gTo (k + 1) = gTo k ++ [6 + (k : Int)] := by
 unfold gTo;rw [q4s, List.map_append];rfl
theorem qn6 (k : Nat) : (gTo k).length = k := by
 unfold gTo;rw [List.length_map, q2x]
theorem qdc (many : Int) (h : 2 ≤ many ∧ many ≤ 14) (w : World) (R : Ending -> World -> Prop)
 (hR : ∀ w' v', Below w.heap.size w w' -> w'.ownsRow w.heap.size 3 1 v' (q2c many).length ((q2c many).flatMap qh) -> R (.returned v') w') :
 Calls Tryz.prog 42 #[.int .i64 many] w R := by
 obtain ⟨hc0, hc1, hc2, hc3⟩ := qlg h;rw [qil h] at hR;change ∀ w' v', Below w.heap.size w w' -> w'.ownsRow w.heap.size 3 1 v' (ints (halfC many).toNat ++ gTo (many - halfC many).toNat).length ((ints (halfC many).toNat ++ gTo (many - halfC many).toNat).flatMap qh) -> R (.returned v') w' at hR;obtain ⟨c, hc⟩ : ∃ c : Nat, halfC many = (c : Int) := ⟨(halfC many).toNat, by omega⟩;obtain ⟨d, hd⟩ : ∃ d : Nat, many = (c : Int) + (d : Int) := ⟨(many - c).toNat, by omega⟩;rw [hc] at hR hc0 hc1 hc2 hc3;rw [show (many - (c : Int)).toNat = d by omega, Int.toNat_natCast] at hR;obtain ⟨HR, Hc0⟩ := lh2 hR hc0;obtain ⟨i0, hi0, hz0, hz1, hz2⟩ := info_parts q44;subst hd;clear hR hc0 hc1 hc
 go_enter Tryz.func42, Tryz.ntmps42
 go_wp2;have e0 : min (6 : Int) (((c : Int) + (d : Int) + 1) / 2) = (c : Int) := Hc0.out;rw [e0];clear e0
 go_loopg [4, 12] c (fun g v i wr => ∃ k : Nat, k ≤ c ∧ g = c - k ∧ i = .int .i64 k ∧ Below w.heap.size w wr ∧ wr.ownsRow w.heap.size 3 1 v (ints k).length ((ints k).flatMap qh))
 case atStart => exact ⟨0, by omega, rfl, rfl, Below.refl _ _, World.ownsRow_nil _ _ _ _⟩
 case round =>
  obtain ⟨k, hk, rfl, rfl, hbel, hown⟩ := hrel
  by_cases hlt : k < c
  ·have hst := q4s k;have hll := q2x k;generalize hL : ints k = L at *;generalize hL2 : ints (k + 1) = L2 at *;obtain ⟨HL2, Hst, Hll⟩ := lh3 hL2 hst hll;clear hL hL2 hst hll;obtain ⟨Hb, Ho⟩ := lh2 hbel hown;have hz := hbel.size;obtain ⟨A, c4, rfl⟩ := qj hown;clear hbel hown;have i1 : (k : Int) < (c : Int) := by omega
   have i2 : (0 : Int) ≤ (k : Int) := by omega
   go_wp2_with (at_builtin; refine wpList_append_own _ rfl _ _ 26 rfl w.heap.size 3 i0 _ 1 8 Tryz.underlying26 hi0 hz0 hz1 hz2 rfl (by decide) (.slice A L.length c4) L.length (L.flatMap qh) rfl (Ho.out.alloc _) ⟨wr.heap.size, 0, none⟩ 1 1 [.int .i64 (k : Int)] rfl rfl ?_ ?_ ?_ ?_ ?_ ?_)
   any_goals have hll := Hll.out
   any_goals first | exact World.news_of_block (cs := #[.int .i64 (k : Int)]) (t := 3) (fr := (0, 0)) (heap_alloc_new wr _) | (simp [Value.oneCell']; done) | (unfold maxLen; omega) | omega | (simp; done) | (simp; omega)
   ·intro v' w2 hown2 hgrow _;have hb2 : Below w.heap.size w w2 := (Hb.out.alloc (by omega) (Obj.cells #[.int .i64 (k : Int)] 3)).grown hgrow (by simp; omega) (fun k hk => (Ho.out.lt k hk).1);have H1 := lh (And.intro hown2 hb2);clear hown2 hb2 hgrow hll;go_wp2
    go_roundg (c - (k + 1))
    case measure => omega
    case rel => exact ⟨k + 1, by omega, rfl, by go_num, H1.out.2, by rw [HL2.out, Hst.out, List.length_append, List.flatMap_append]; exact H1.out.1⟩
  ·obtain rfl : k = c := by omega
   obtain ⟨Hbw, How⟩ := lh2 hbel hown;obtain ⟨A0, c40, rfl⟩ := qj hown;clear hbel hown;obtain ⟨w1, hw1⟩ := nmm (wr);go_wp2;rw [show (k : Int) + (d : Int) - (k : Int) = (d : Int) by omega]
   go_loopg [4, 23] d (fun g v i wr => ∃ j : Nat, j ≤ d ∧ g = d - j ∧ i = .int .i64 j ∧ Below w.heap.size w wr ∧ wr.ownsRow w.heap.size 3 1 v (ints k ++ gTo j).length ((ints k ++ gTo j).flatMap qh))
   case atStart => exact ⟨0, by omega, rfl, rfl, Hbw.out, by simpa [gTo, ints] using How.out⟩
   case round =>
    clear Hbw How;obtain ⟨j, hj, rfl, rfl, hbel, hown⟩ := hrel
    by_cases hlt : j < d
    ·have hst : ints k ++ gTo (j + 1) = (ints k ++ gTo j) ++ [6 + (j : Int)] := by rw [qlf, List.append_assoc]
     have hll : (ints k ++ gTo j).length = k + j := by rw [List.length_append, q2x, qn6]
     generalize hL : ints k ++ gTo j = L at *;generalize hL2 : ints k ++ gTo (j + 1) = L2 at *;obtain ⟨HL2, Hst, Hll⟩ := lh3 hL2 hst hll;clear hL hL2 hst hll;obtain ⟨Hb, Ho⟩ := lh2 hbel hown;have hz := hbel.size;obtain ⟨A, c4, rfl⟩ := qj hown;clear hbel hown;have i1 : (j : Int) < (d : Int) := by omega
     have i2 : (0 : Int) ≤ (j : Int) := by omega
     go_wp2_with (at_builtin; refine wpList_append_own _ rfl _ _ 26 rfl w.heap.size 3 i0 _ 1 8 Tryz.underlying26 hi0 hz0 hz1 hz2 rfl (by decide) (.slice A L.length c4) L.length (L.flatMap qh) rfl (Ho.out.alloc _) ⟨wr.heap.size, 0, none⟩ 1 1 [.int .i64 (6 + (j : Int))] rfl rfl ?_ ?_ ?_ ?_ ?_ ?_)
     any_goals have hll := Hll.out
     any_goals first | exact World.news_of_block (cs := #[.int .i64 (6 + (j : Int))]) (t := 3) (fr := (0, 0)) (heap_alloc_new wr _) | (simp [Value.oneCell']; done) | (unfold maxLen; omega) | omega | (simp; done) | (simp; omega)
     ·intro v' w2 hown2 hgrow _;have hb2 : Below w.heap.size w w2 := (Hb.out.alloc (by omega) (Obj.cells #[.int .i64 (6 + (j : Int))] 3)).grown hgrow (by simp; omega) (fun k hk => (Ho.out.lt k hk).1);have H1 := lh (And.intro hown2 hb2);clear hown2 hb2 hgrow hll;go_wp2
      go_roundg (d - (j + 1))
      case measure => omega
      case rel => exact ⟨j + 1, by omega, rfl, by go_num, H1.out.2, by rw [HL2.out, Hst.out, List.length_append, List.flatMap_append]; exact H1.out.1⟩
    ·obtain rfl : j = d := by omega
     have H1 := lh (HR.out _ _ hbel hown);clear hbel hown;go_wp2;exact H1.out
def cmpI (a b : Int) : Int := if a < b then -1 else if b < a then 1 else 0
theorem q2j (a : Int) (w : World) (R : Ending -> World -> Prop) (hR : R (.returned (.bool false)) w) : Calls Tryz.prog 80 #[.int .i64 a] w R := by
 have HR := lh hR;clear hR
 go_enter Tryz.func80, Tryz.ntmps80
 go_wp2;exact HR.out
theorem qaa (a b : Int) (w : World) (R : Ending -> World -> Prop) (hR : R (.returned (.int .i64 (cmpI a b))) w) : Calls Tryz.prog 45 #[.int .i64 a, .int .i64 b] w R := by
 have hx : a < b ∨ (¬ a < b ∧ b < a) ∨ (¬ a < b ∧ ¬ b < a) := by omega
 rcases hx with h | ⟨h, h2⟩ | ⟨h, h2⟩
 ·have e : cmpI a b = -1 := if_pos h;rw [e] at hR;have HR := lh hR;clear hR
  go_enter Tryz.func45, Tryz.ntmps45
  go_wp2_with fail
  refine q2j _ _ _ ?_
  go_wp2_with fail
  refine q2j _ _ _ ?_;go_wp2;exact HR.out
 ·have e : cmpI a b = 1 := by unfold cmpI; rw [if_neg h, if_pos h2]
  rw [e] at hR;have HR := lh hR;clear hR
  go_enter Tryz.func45, Tryz.ntmps45
  go_wp2_with fail
  refine q2j _ _ _ ?_
  go_wp2_with fail
  refine q2j _ _ _ ?_;go_wp2;exact HR.out
 ·have e : cmpI a b = 0 := by unfold cmpI; rw [if_neg h, if_neg h2]
  rw [e] at hR;have HR := lh hR;clear hR
  go_enter Tryz.func45, Tryz.ntmps45
  go_wp2_with fail
  refine q2j _ _ _ ?_
  go_wp2_with fail
  refine q2j _ _ _ ?_;go_wp2;exact HR.out
theorem qb9 (a b : Int) (w : World) : Calls Tryz.prog 45 #[.int .i64 a, .int .i64 b] w (fun e w' => e = .returned (.int .i64 (cmpI a b)) ∧ w' = w) := qaa a b w _ ⟨rfl, rfl⟩
def cmpW (S : List Int) (a b : Int) : Int := cmpI (iAt S b.toNat) (iAt S a.toNat)
def swp (S : List Int) (p q : Nat) : List Int := (S.set p (iAt S q)).set q (iAt S p)
theorem qnq (S : List Int) (p q : Nat) : (swp S p q).length = S.length := by simp [swp]
theorem qn8 {S : List Int} {p q k : Nat} (hp : p < S.length) (hq : q < S.length) : iAt (swp S p q) k = if k = q then iAt S p else if k = p then iAt S q else iAt S k := by
 unfold swp;rw [q4q (by simpa using hq)]
 split
 ·rfl
 ·rw [q4q hp]
theorem qfq {S : List Int} {p q : Nat} (h : p ≠ q) : swp S p q = (S.set q (iAt S p)).set p (iAt S q) := by
 unfold swp;exact List.set_comm _ _ h
def swpTo (S : List Int) (a b : Nat) : Nat -> List Int
 | 0 => S
 | i + 1 => swp (swpTo S a b i) (a + i) (b + i)
theorem q6v (S : List Int) (a b i : Nat) : (swpTo S a b i).length = S.length := by
 induction i with
 | zero => rfl
 | succ i ih => rw [swpTo, qnq, ih]
theorem IntI.refl {g : Nat} {S : List Int} {w : World} (h : IntAt g S w) : IntI g S w w := ⟨h, q38 _ _, CKeep.refl _ _⟩
theorem IntI.set {g : Nat} {S : List Int} {w0 w : World} (h : IntI g S w0 w) (k : Nat) (x : Int) : IntI g (S.set k x) w0 (w.setCell ⟨g, k, none⟩ (.int .i64 x)) := ⟨h.1.set k x, h.2.1.trans (q04 _ _ _), h.2.2.trans (CKeep.setCell _ _)⟩
theorem q3m (gs n c : Nat) (S : List Int) (hS : S.length = n) (a b m : Nat) (hab : a + m ≤ b) (hb : b + m ≤ n) (hn : n ≤ 1000) (cf : Value) (w : World) (hI : IntAt gs S w) (R : Ending -> World -> Prop)
 (hR : ∀ w', IntI gs (swpTo S a b m) w w' -> R (.returned (.tuple #[])) w') :
 Calls Tryz.prog 150 #[.slice (some ⟨gs, 0, none⟩) n c, .int .i64 (a : Int), .int .i64 (b : Int), .int .i64 (m : Int), cf] w R := by
 obtain ⟨HR, HI⟩ := lh2 hR hI;clear hR hI
 go_enter Tryz.func150, Tryz.ntmps150
 go_wp2
 go_loopg [10] m (fun g i wr => ∃ k : Nat, k ≤ m ∧ g = m - k ∧ i = .int .i64 k ∧ Hid (IntI gs (swpTo S a b k) w wr))
 case atStart => exact ⟨0, by omega, rfl, rfl, lh (IntI.refl HI.out)⟩
 case round =>
  obtain ⟨k, hk, rfl, rfl, hi⟩ := hrel
  by_cases hlt : k < m
  ·have hl := q6v S a b k;obtain ⟨T, hT⟩ := nmm (swpTo S a b k);rw [<- hT] at hl hi;have hnx : swpTo S a b (k + 1) = swp T (a + k) (b + k) := by rw [swpTo, hT]
   have Hnx := lh hnx;have c0 := hi.out.1.cell (k := a + k) (by omega);have c1 := hi.out.1.cell (k := b + k) (by omega);have f0 := hi.out.1.frozen (a + k);have f1 := hi.out.1.frozen (b + k);have lg := hi.out.1.lt;obtain ⟨p, hp⟩ : ∃ p : Nat, p = a + k := ⟨_, rfl⟩;obtain ⟨q, hq⟩ : ∃ q : Nat, q = b + k := ⟨_, rfl⟩;rw [<- hp] at c0 f0;rw [<- hq] at c1 f1;have e0 : (a : Int) + (k : Int) = (p : Int) := by omega
   have e1 : (b : Int) + (k : Int) = (q : Int) := by omega
   have k1 : (0 : Int) ≤ (p : Int) := by omega
   have k2 : (p : Int) < (n : Int) := by omega
   have k3 : (0 : Int) ≤ (q : Int) := by omega
   have k4 : (q : Int) < (n : Int) := by omega
   have k5 : (k : Int) < (m : Int) := by omega
   have Hpq : Hid (p ≠ q) := lh (by omega);obtain ⟨Hp, Hq⟩ := lh2 hp hq;rw [<- hp, <- hq] at Hnx;have I0 := (hi.out.1.set p (iAt T q));have I1 := (hi.out.1.set q (iAt T p));have d0 := I0.cell (k := q) (by rw [List.length_set]; omega);have d1 := I1.cell (k := p) (by rw [List.length_set]; omega);rw [q4q (by omega), if_neg (by omega)] at d0 d1;have g0 := I0.frozen q;have g1 := I1.frozen p;generalize hx : iAt T p = x at *;generalize hy : iAt T q = y at *;obtain ⟨Hx, Hy⟩ := lh2 hx hy;clear hT hnx hl hp hq hx hy hS hab hb I0 I1
   go_upto_region 3 with fail
   go_region
   have hf : IntI gs (swpTo S a b (k + 1)) w ((wr.setCell ⟨gs, p, none⟩ (.int .i64 y)).setCell ⟨gs, q, none⟩ (.int .i64 x)).drew := by
    rw [Hnx.out];unfold swp;rw [Hx.out, Hy.out];exact ((hi.out.set p y).set q x).below (Below.refl _ _).drew
   have Hf := lh hf;clear hf c0 c1 f0 f1 d0 d1 g0 g1;go_wp2
   go_roundg (m - (k + 1))
   case measure => omega
   case rel => exact ⟨k + 1, by omega, rfl, by go_num, Hf⟩
  ·obtain rfl : k = m := by omega
   have hf := lh (HR.out _ hi.out);go_wp2
   first | exact hf.out | (go_end0; exact hf.out)
theorem qc2 {S : List Int} {a b : Nat} : ∀ {i : Nat}, a + i ≤ b -> b + i ≤ S.length -> ∀ k, iAt (swpTo S a b i) k = if a ≤ k ∧ k < a + i then iAt S (b + (k - a)) else if b ≤ k ∧ k < b + i then iAt S (a + (k - b)) else iAt S k
 | 0, _, _, k => by
   rw [if_neg (by omega), if_neg (by omega)];rfl
 | i + 1, h1, h2, k => by
   have ih := fun k => qc2 (S := S) (a := a) (b := b) (i := i) (by omega) (by omega) k;rw [swpTo, qn8 (by rw [q6v]; omega) (by rw [q6v]; omega)]
   by_cases e1 : k = b + i
   ·subst e1;rw [if_pos rfl, ih, if_neg (by omega), if_neg (by omega), if_neg (by omega), if_pos (by omega)]
    congr 1
    omega
   ·rw [if_neg e1]
    by_cases e2 : k = a + i
    ·subst e2;rw [if_pos rfl, ih, if_neg (by omega), if_neg (by omega), if_pos (by omega)]
     congr 1
     omega
    ·rw [if_neg e2, ih]
     by_cases e3 : a ≤ k ∧ k < a + i
     ·rw [if_pos e3, if_pos (by omega)]
     ·rw [if_neg e3, if_neg (show ¬ (a ≤ k ∧ k < a + (i + 1)) by omega)]
      by_cases e4 : b ≤ k ∧ k < b + i
      ·rw [if_pos e4, if_pos (by omega)]
      ·rw [if_neg e4, if_neg (by omega)]
theorem qlp {l m : List Int} (h : l.length = m.length) (hk : ∀ k, k < l.length -> iAt l k = iAt m k) : l = m := by
 apply List.ext_getElem h;intro k h1 h2;have := hk k h1;unfold iAt at this
 rwa [List.getD_eq_getElem?_getD, List.getD_eq_getElem?_getD, List.getElem?_eq_getElem h1, List.getElem?_eq_getElem h2] at this
theorem q3s {l m : List Int} {k : Nat} (h : k < l.length) : iAt (l ++ m) k = iAt l k := by
 unfold iAt;rw [List.getD_eq_getElem?_getD, List.getD_eq_getElem?_getD, List.getElem?_append_left h]
theorem q05 {l m : List Int} {k : Nat} (h : l.length ≤ k) : iAt (l ++ m) k = iAt m (k - l.length) := by
 unfold iAt;rw [List.getD_eq_getElem?_getD, List.getD_eq_getElem?_getD, List.getElem?_append_right h]
theorem q57 {A U M V B : List Int} {k : Nat} : iAt (A ++ (U ++ (M ++ (V ++ B)))) k =
 if k < A.length then iAt A k else if k < A.length + U.length then iAt U (k - A.length) else if k < A.length + U.length + M.length then iAt M (k - A.length - U.length) else
  if k < A.length + U.length + M.length + V.length then iAt V (k - A.length - U.length - M.length) else iAt B (k - A.length - U.length - M.length - V.length) := by
 by_cases h1 : k < A.length
 ·rw [if_pos h1, q3s h1]
 ·rw [if_neg h1, q05 (by omega)]
  by_cases h2 : k < A.length + U.length
  ·rw [if_pos h2, q3s (by omega)]
  ·rw [if_neg h2, q05 (by omega)]
   by_cases h3 : k < A.length + U.length + M.length
   ·rw [if_pos h3, q3s (by omega)]
   ·rw [if_neg h3, q05 (by omega)]
    by_cases h4 : k < A.length + U.length + M.length + V.length
    ·rw [if_pos h4, q3s (by omega)]
    ·rw [if_neg h4, q05 (by omega)]
theorem qmh {A U M V B : List Int} (h : U.length = V.length) : swpTo (A ++ (U ++ (M ++ (V ++ B)))) A.length (A.length + U.length + M.length) U.length = A ++ (V ++ (M ++ (U ++ B))) := by
 refine qlp (by rw [q6v]; simp; omega) (fun k hk => ?_);rw [qc2 (by omega) (by simp; omega)]
 by_cases h1 : A.length ≤ k ∧ k < A.length + U.length
 ·rw [if_pos h1, q57, q57, if_neg (by omega), if_neg (by omega), if_neg (by omega), if_pos (by omega), if_neg (by omega), if_pos (by omega)]
  congr 1
  omega
 ·rw [if_neg h1]
  by_cases h2 : A.length + U.length + M.length ≤ k ∧ k < A.length + U.length + M.length + U.length
  ·rw [if_pos h2, q57, q57, if_neg (by omega), if_pos (by omega), if_neg (by omega), if_neg (by omega), if_neg (by omega), if_pos (by omega)]
   congr 1
   omega
  ·rw [if_neg h2, q57, q57]
   by_cases h3 : k < A.length
   ·rw [if_pos h3, if_pos h3]
   ·by_cases h4 : k < A.length + U.length + M.length
    ·rw [if_neg h3, if_neg (by omega), if_pos h4, if_neg h3, if_neg (by omega), if_pos (by omega)]
     congr 1
     omega
    ·rw [if_neg h3, if_neg (by omega), if_neg h4, if_neg (by omega), if_neg h3, if_neg (by omega), if_neg (by omega), if_neg (by omega)]
     congr 1
     omega
theorem q5d {A U M V B S : List Int} {a b m : Nat} (hS : S = A ++ (U ++ (M ++ (V ++ B)))) (hu : U.length = m) (hv : V.length = m) (ha : A.length = a) (hb : A.length + U.length + M.length = b) : swpTo S a b m = A ++ (V ++ (M ++ (U ++ B))) := by
 subst hS hu ha hb;exact qmh hv.symm
def Rot (G : List Int) (m i j : Nat) (S : List Int) : Prop := ∃ A X Y B : List Int, S = A ++ (X ++ (Y ++ B)) ∧ A.length + X.length = m ∧ X.length = i ∧ Y.length = j ∧ A ++ (Y ++ (X ++ B)) = G
theorem qo7 {G S : List Int} {m i j : Nat} (h : Rot G m i j S) (hij : j < i) (hj : 0 < j) : Rot G m (i - j) j (swpTo S (m - i) m j) := by
 obtain ⟨A, X, Y, B, rfl, h1, h2, h3, h4⟩ := h;have hX : X = X.take j ++ X.drop j := (List.take_append_drop j X).symm;have l1 : (X.take j).length = j := by rw [List.length_take]; omega
 have l2 : (X.drop j).length = i - j := by rw [List.length_drop]; omega
 refine ⟨A ++ Y, X.drop j, X.take j, B, ?_, by rw [List.length_append]; omega, l2, l1, ?_⟩
 ·rw [q5d (A := A) (U := X.take j) (M := X.drop j) (V := Y) (B := B) (by rw [<- List.append_assoc (X.take j), <- hX]) l1 h3 (by omega) (by omega)];simp
 ·rw [<- h4, <- List.append_assoc (X.take j), List.take_append_drop, List.append_assoc]
theorem qo8 {G S : List Int} {m i j : Nat} (h : Rot G m i j S) (hij : i < j) (hi : 0 < i) : Rot G m i (j - i) (swpTo S (m - i) (m + j - i) i) := by
 obtain ⟨A, X, Y, B, rfl, h1, h2, h3, h4⟩ := h;have hY : Y = Y.take (j - i) ++ Y.drop (j - i) := (List.take_append_drop _ Y).symm;have l1 : (Y.take (j - i)).length = j - i := by rw [List.length_take]; omega
 have l2 : (Y.drop (j - i)).length = i := by rw [List.length_drop]; omega
 refine ⟨A, Y.drop (j - i), Y.take (j - i), X ++ B, ?_, by omega, l2, l1, ?_⟩
 ·rw [q5d (A := A) (U := X) (M := Y.take (j - i)) (V := Y.drop (j - i)) (B := B) (by rw [<- List.append_assoc (Y.take (j - i)), <- hY]) h2 l2 (by omega) (by omega)]
 ·rw [<- h4, <- List.append_assoc (Y.take (j - i)), List.take_append_drop]
theorem qo6 {G S : List Int} {m i : Nat} (h : Rot G m i i S) : swpTo S (m - i) m i = G := by
 obtain ⟨A, X, Y, B, rfl, h1, h2, h3, h4⟩ := h;rw [q5d (A := A) (U := X) (M := []) (V := Y) (B := B) (by simp) h2 h3 (by omega) (by simp; omega), <- h4];simp
theorem q3j {G S : List Int} {m i j : Nat} (h : Rot G m i j S) : S.length = G.length ∧ i ≤ m ∧ m + j ≤ S.length := by
 obtain ⟨A, X, Y, B, rfl, h1, h2, h3, rfl⟩ := h;simp;omega
theorem IntI.trans {g : Nat} {S T : List Int} {a b c : World} (h : IntI g S a b) (k : IntI g T b c) : IntI g T a c := ⟨k.1, h.2.1.trans k.2.1, h.2.2.trans k.2.2⟩
theorem q1a (gs n c : Nat) (S G : List Int) (hS : S.length = n) (a m b : Nat) (ham : a < m) (hmb : m < b) (hn : n ≤ 1000) (hR0 : Rot G m (m - a) (b - m) S) (cf : Value) (w : World) (hI : IntAt gs S w) (R : Ending -> World -> Prop)
 (hR : ∀ w', IntI gs G w w' -> R (.returned (.tuple #[])) w') :
 Calls Tryz.prog 132 #[.slice (some ⟨gs, 0, none⟩) n c, .int .i64 (a : Int), .int .i64 (m : Int), .int .i64 (b : Int), cf] w R := by
 have hG := (q3j hR0).1;have hbn : b ≤ n := by have := (q3j hR0).2.2; omega
 rw [hS] at hG;obtain ⟨HR, HI⟩ := lh2 hR hI;obtain ⟨i0, hi0⟩ : ∃ i0, i0 = m - a := ⟨_, rfl⟩;obtain ⟨j0, hj0⟩ : ∃ j0, j0 = b - m := ⟨_, rfl⟩;rw [<- hi0, <- hj0] at hR0;have e0 : (m : Int) - (a : Int) = (i0 : Int) := by omega
 have e1 : (b : Int) - (m : Int) = (j0 : Int) := by omega
 have H0 := lh hR0;have p0 : 0 < i0 := by omega
 have p1 : 0 < j0 := by omega
 have p2 : i0 ≤ 1000 := by omega
 have p3 : j0 ≤ 1000 := by omega
 obtain ⟨Hb, HG⟩ := lh2 hbn hG;clear hR hI hi0 hj0 hR0 hS hbn hG ham hmb
 go_enter Tryz.func132, Tryz.ntmps132
 go_wp2;clear e0 e1
 go_loopg [10, 11] (i0 + j0) (fun g vi vj wr => ∃ (i j : Nat) (T : List Int), 0 < i ∧ 0 < j ∧ i + j ≤ g ∧ vi = .int .i64 i ∧ vj = .int .i64 j ∧ Hid (Rot G m i j T) ∧ Hid (IntI gs T w wr))
 case atStart => exact ⟨i0, j0, S, p0, p1, Nat.le_refl _, rfl, rfl, H0, lh (IntI.refl HI.out)⟩
 case round =>
  clear H0 p0 p1 p2 p3 HI;obtain ⟨i, j, T, hi, hj, hg, rfl, rfl, hT, hI⟩ := hrel;have hl := q3j hT.out;rw [<- HG.out] at hl;have hx : i = j ∨ (i ≠ j ∧ j < i) ∨ (i ≠ j ∧ i < j) := by omega
  have Hl := lh hl;have b0 : i ≤ 1000 := by omega
  have b1 : m + j ≤ 1000 := by omega
  clear hl
  rcases hx with hx | ⟨hx, hlt⟩ | ⟨hx, hlt⟩
  ·subst hx;obtain ⟨q, hq⟩ : ∃ q : Nat, q = m - i := ⟨_, rfl⟩;have hq2 : (m : Int) - (i : Int) = (q : Int) := by have := Hl.out; omega
   have b2 : q ≤ 1000 := by omega
   have Hq := lh hq;clear hq
   go_wp2_with fail
   refine q3m gs n c T (by have := Hl.out; omega) q m i (by have := Hl.out; have := Hq.out; omega) (by have := Hl.out; omega) hn cf _ hI.out.1 _ (fun w2 h2 => ?_);rw [Hq.out, qo6 hT.out] at h2;have hf := lh (HR.out _ (hI.out.trans h2));clear h2;go_wp2
   first | exact hf.out | (go_end0; exact hf.out)
  ·have e2 : ¬ (i : Int) = (j : Int) := by omega
   have e3 : (j : Int) < (i : Int) := by omega
   obtain ⟨q, hq⟩ : ∃ q : Nat, q = m - i := ⟨_, rfl⟩;have hq2 : (m : Int) - (i : Int) = (q : Int) := by have := Hl.out; omega
   have e4 : (i : Int) - (j : Int) = ((i - j : Nat) : Int) := by omega
   have b2 : q ≤ 1000 := by omega
   have Hq := lh hq;clear hq
   go_wp2_with fail
   refine q3m gs n c T (by have := Hl.out; omega) q m j (by have := Hl.out; have := Hq.out; omega) (by have := Hl.out; omega) hn cf _ hI.out.1 _ (fun w2 h2 => ?_);rw [Hq.out] at h2;have HT2 := lh (qo7 hT.out hlt hj);have HI2 := lh (hI.out.trans h2);clear h2;go_wp2
   go_roundg (i - j + j)
   case measure => omega
   case rel => exact ⟨i - j, j, _, by omega, hj, Nat.le_refl _, by go_num, rfl, HT2, HI2⟩
  ·have e2 : ¬ (i : Int) = (j : Int) := by omega
   have e3 : ¬ (j : Int) < (i : Int) := by omega
   obtain ⟨q, hq⟩ : ∃ q : Nat, q = m - i := ⟨_, rfl⟩;obtain ⟨t, ht⟩ : ∃ t : Nat, t = m + j - i := ⟨_, rfl⟩;have hq2 : (m : Int) - (i : Int) = (q : Int) := by have := Hl.out; omega
   have hq3 : (m : Int) + (j : Int) - (i : Int) = (t : Int) := by have := Hl.out; omega
   have e4 : (j : Int) - (i : Int) = ((j - i : Nat) : Int) := by omega
   have b2 : q ≤ 1000 := by omega
   have Hq := lh hq;have b3 : t ≤ 1000 := by omega
   have Ht := lh ht;clear hq ht
   go_wp2_with fail
   refine q3m gs n c T (by have := Hl.out; omega) q t i (by have := Hl.out; have := Hq.out; have := Ht.out; omega) (by have := Hl.out; have := Ht.out; omega) hn cf _ hI.out.1 _ (fun w2 h2 => ?_);rw [Hq.out, Ht.out] at h2;have HT2 := lh (qo8 hT.out hlt hi);have HI2 := lh (hI.out.trans h2);clear h2;go_wp2
   go_roundg (i + (j - i))
   case measure => omega
   case rel => exact ⟨i, j - i, _, hi, by omega, Nat.le_refl _, rfl, by go_num, HT2, HI2⟩
end Go.Proofs.YtdanebboiekieaaGreatDoor
