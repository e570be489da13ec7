/- The walks, part 12. -/
import Derived.Test.YtdanebboiekieaaGreatDoorP11
set_option linter.unusedSimpArgs false
set_option linter.unusedVariables false
set_option maxRecDepth 100000
set_option maxHeartbeats 16000000
namespace Go.Proofs.YtdanebboiekieaaGreatDoor
open Go.RowKit
theorem q02 {B : Nat} {w w' : World} (h : Below B w w') : ∀ l : List (Addr × Value), (∀ x ∈ l, B ≤ x.1.block) -> Below B w (l.foldl (fun w x => w.setCell x.1 x.2) w')
 | [], _ => h
 | x :: l, hl => q02 (h.setCell (p := x.1) (hl x (.head _)) x.2) l fun y hy => hl y (.tail _ hy)
theorem qak {u : Unt} (h : qo u = (0, 0)) : u.funcs.length ≤ 10 := by
 unfold qo at h
 by_cases hm : 10 < u.globals.length ∨ 10 < u.funcs.length
 ·rw [if_pos hm] at h
  cases h
 ·omega
theorem q9i (u : Unt) (hu : UntI u) (hok : qo u = (0, 0)) (k : Nat) (f : UFun) (hkf : u.funcs[k]? = some f) (gA fA : Option Addr) (gn gc fn fc : Nat) (w : World) (hW : Ways w) (hg : rpGlobal.SL w w.heap.size u.globals (.slice gA gn gc)) (hf : rpFun.SL w w.heap.size u.funcs (.slice fA fn fc)) (R : Ending -> World -> Prop)
 (hR : ∀ w' vb, Below w.heap.size w w' -> rpBlk.SL w w.heap.size f.blocks vb -> R (.returned (.tuple #[.agg #[.string f.name, .int .i64 f.params, .int .i64 f.regs, vb], (.agg #[.int .i64 (((0 : Int), (0 : Int))).1, .int .i64 (((0 : Int), (0 : Int))).2])])) w') :
 Calls Tryz.prog 89 #[.agg #[.slice gA gn gc, .slice fA fn fc], .int .i64 (k : Int)] w R := by
 have e2 := hf.len;subst e2;obtain ⟨hk, hfk⟩ := List.getElem?_eq_some_iff.1 hkf;have h10 := qak hok;obtain ⟨b, off, vb, rfl, hbl, hsl, q0, q1, q2, q3⟩ := hf.fun_at hk;rw [hfk] at q0 q1 q2 hsl;obtain ⟨vA, vc, rfl, _, _, _⟩ := hsl.cases_;have HR := lh (fun w' h => hR w' _ h hsl);obtain ⟨Hg, Hf, HW, Hk⟩ := lh4 hg hf hW hok;have k0 := nnn k;have k1 : (k : Int) < (u.funcs.length : Int) := by omega
 have k2 : (k : Int) ≤ (u.funcs.length : Int) - 1 := by omega
 clear hR hg hf hW hok hsl hkf hfk
 go_enter Tryz.func89, Tryz.ntmps89
 go_upto_region 1 with fail
 obtain ⟨W2, hW2⟩ := nmm (((w.alloc (Obj.cells #[.slice gA gn gc, .slice (some ⟨b, off, none⟩) u.funcs.length fc] 25)).alloc (Obj.cells #[.string ⟨#[]⟩, .int .i64 0, .int .i64 0, .slice none 0 0] 56)).alloc (Obj.cells #[.int .i64 0, .int .i64 0] 30));have hb2 : Below w.heap.size w W2 := by subst hW2; exact bl0
 have hU2 : W2.heap[w.heap.size]? = some (.cells #[.slice gA gn gc, .slice (some ⟨b, off, none⟩) u.funcs.length fc] 25 (0, 0)) := by subst hW2; exact qf (qf (heap_alloc_new _ _) _) _
 have hE2 : W2.heap[w.heap.size + 1]? = some (.cells #[.string ⟨#[]⟩, .int .i64 0, .int .i64 0, .slice none 0 0] 56 (0, 0)) := by
  subst hW2;refine qf ?_ _;have := heap_alloc_new (w.alloc (Obj.cells #[.slice gA gn gc, .slice (some ⟨b, off, none⟩) u.funcs.length fc] 25)) (Obj.cells #[.string ⟨#[]⟩, .int .i64 0, .int .i64 0, .slice none 0 0] 56);simpa using this
 have hF2 : W2.heap[w.heap.size + 1 + 1]? = some (.cells #[.int .i64 0, .int .i64 0] 30 (0, 0)) := by
  subst hW2;have := heap_alloc_new ((w.alloc (Obj.cells #[.slice gA gn gc, .slice (some ⟨b, off, none⟩) u.funcs.length fc] 25)).alloc (Obj.cells #[.string ⟨#[]⟩, .int .i64 0, .int .i64 0, .slice none 0 0] 56)) (Obj.cells #[.int .i64 0, .int .i64 0] 30);simpa using this
 rw [<- hW2];obtain ⟨Hb2, HU2, HE2, HF2⟩ := lh4 hb2 hU2 hE2 hF2;have hz2 := hb2.size;obtain ⟨u0, u1, lU⟩ := cbl hU2;clear hW2 hb2 hU2 hE2 hF2
 go_wp2_with fail
 refine q7x u hu _ _ _ _ _ _ _ (HW.out.up Hb2.out HW.out.1) (Hg.out.up Hb2.out hz2) (Hf.out.up Hb2.out hz2) _ (fun w3 hb3 => ?_);rw [Hk.out];dsimp only;have Hb3 := btt Hb2 hb3 hz2;have HU3 := bkk hb3 HU2;have HE3 := bkk hb3 HE2;have HF3 := bkk hb3 HF2;have hz3 := Hb3.out.size;clear hb3 u0 u1 lU;obtain ⟨u0, u1, lU⟩ := cbl HU3.out
 go_wp2_with fail
 refine qd _ _ _ _ _ ?_;rw [show decide ((0 : Int) ≤ (k : Int) ∧ (k : Int) ≤ (u.funcs.length : Int) - 1) = true from decide_eq_true ⟨k0, k2⟩];have p0 := (Hb3.out.cell (p := ⟨b, off + k * 4, none⟩) hbl).trans q0;have p1 := (Hb3.out.cell (p := ⟨b, off + k * 4 + 1, none⟩) hbl).trans q1;have p2 := (Hb3.out.cell (p := ⟨b, off + k * 4 + 2, none⟩) hbl).trans q2;have p3 := (Hb3.out.cell (p := ⟨b, off + k * 4 + 3, none⟩) hbl).trans q3;have lb3 : b < w3.heap.size := by omega
 have i0 := fzz HE3.out 0;have i1 := fzz HE3.out 1;have i2 := fzz HE3.out 2;have i3 := fzz HE3.out 3;have j0 := fzz HF3.out 0;have j1 := fzz HF3.out 1;obtain ⟨e0, e1, e2, e3⟩ := q0j HE3.out;obtain ⟨f0, f1, lF⟩ := cbl HF3.out;have lE := qa HE3.out;clear q0 q1 q2 q3;go_wp2;refine bodyPost_ret (v := .tuple #[.agg #[.string f.name, .int .i64 f.params, .int .i64 f.regs, .slice vA f.blocks.length vc], (.agg #[.int .i64 (((0 : Int), (0 : Int))).1, .int .i64 (((0 : Int), (0 : Int))).2])]) (by simp [results, Tryz.results89, go_sem, e0, e1, e2, e3, f0, f1, lE, lF]) rfl ?_;exact HR.out _ ((q02 Hb3.out [(⟨w.heap.size + 1, 0, none⟩, .string f.name), (⟨w.heap.size + 1, 1, none⟩, .int .i64 f.params), (⟨w.heap.size + 1, 2, none⟩, .int .i64 f.regs), (⟨w.heap.size + 1, 3, none⟩, .slice vA f.blocks.length vc), (⟨w.heap.size + 1 + 1, 0, none⟩, .int .i64 0), (⟨w.heap.size + 1 + 1, 1, none⟩, .int .i64 0)] (by simp; try omega)).alloc (by simp; omega) _)
theorem keep6 {W w' : World} {p q : Nat} {x y z t : Value} (hb : Below W.heap.size W w') (hp : p < W.heap.size) (hq : q < W.heap.size)
 (h : W.cell? ⟨p, 0, none⟩ = some x ∧ W.cell? ⟨p, 1, none⟩ = some y ∧ W.cell? ⟨q, 0, none⟩ = some z ∧ W.cell? ⟨q, 1, none⟩ = some t ∧ W.frozen? ⟨q, 0, none⟩ = false ∧ W.frozen? ⟨q, 1, none⟩ = false) :
 w'.cell? ⟨p, 0, none⟩ = some x ∧ w'.cell? ⟨p, 1, none⟩ = some y ∧ w'.cell? ⟨q, 0, none⟩ = some z ∧ w'.cell? ⟨q, 1, none⟩ = some t ∧ w'.frozen? ⟨q, 0, none⟩ = false ∧ w'.frozen? ⟨q, 1, none⟩ = false := by
 obtain ⟨h0, h1, h2, h3, h4, h5⟩ := h;obtain ⟨hc, hf⟩ := bcell hb;exact ⟨(hc _ _ hp).trans h0, (hc _ _ hp).trans h1, (hc _ _ hq).trans h2, (hc _ _ hq).trans h3, (hf _ _ hq).trans h4, (hf _ _ hq).trans h5⟩
theorem qfc {W : World} {p q : Nat} {x y z t z' t' : Value} (hpq : p ≠ q)
 (h : W.cell? ⟨p, 0, none⟩ = some x ∧ W.cell? ⟨p, 1, none⟩ = some y ∧ W.cell? ⟨q, 0, none⟩ = some z ∧ W.cell? ⟨q, 1, none⟩ = some t ∧ W.frozen? ⟨q, 0, none⟩ = false ∧ W.frozen? ⟨q, 1, none⟩ = false) :
 ((W.setCell ⟨q, 0, none⟩ z').setCell ⟨q, 1, none⟩ t').cell? ⟨p, 0, none⟩ = some x ∧ ((W.setCell ⟨q, 0, none⟩ z').setCell ⟨q, 1, none⟩ t').cell? ⟨p, 1, none⟩ = some y ∧ ((W.setCell ⟨q, 0, none⟩ z').setCell ⟨q, 1, none⟩ t').cell? ⟨q, 0, none⟩ = some z' ∧ ((W.setCell ⟨q, 0, none⟩ z').setCell ⟨q, 1, none⟩ t').cell? ⟨q, 1, none⟩ = some t' ∧ ((W.setCell ⟨q, 0, none⟩ z').setCell ⟨q, 1, none⟩ t').frozen? ⟨q, 0, none⟩ = false ∧ ((W.setCell ⟨q, 0, none⟩ z').setCell ⟨q, 1, none⟩ t').frozen? ⟨q, 1, none⟩ = false := by
 obtain ⟨h0, h1, h2, h3, h4, h5⟩ := h;have hqp : q ≠ p := fun e => hpq e.symm;simp [h0, h1, h2, h3, h4, h5, hpq, hqp, go_sem]
theorem q3i {fn : Func} {t p : Tmp} (h : fn.results = #[.tmp t, .cell p 30]) {tmps : Array Value} {b : Nat} {w : World} {v x y : Value} (ht : tmps.getD t undef = v) (hp : tmps.getD p undef = .pointer (some ⟨b, 0, none⟩))
 (hc : w.cell? ⟨b, 0, none⟩ = some x ∧ w.cell? ⟨b, 1, none⟩ = some y) : (results fn tmps).run Tryz.prog w = .ok (.tuple #[v, .agg #[x, y]]) w := by
 rw [Array.getD_eq_getD_getElem?] at hp ht;simp [results, h, hp, ht, go_sem, hc.1, hc.2]
theorem qmv {f : UFun} {V : List (List Bool)} {r b : Nat} (hb : b < f.blocks.length) (h : ∀ i, bAt (rowV V i) r = true ↔ Lv f r i 0) : behB (colV V r) f.blocks[b] = true ↔ Bh f r b := by
 unfold behB Bh;rw [List.any_eq_true]
 constructor
 ·rintro ⟨t, ht, hv⟩;exact ⟨_, t, List.getElem?_eq_getElem hb, ht, (h _).1 hv⟩
 ·rintro ⟨b', t, hb', ht, hl⟩;rw [List.getElem?_eq_getElem hb] at hb'
  cases hb'
  exact ⟨t, ht, (h _).2 hl⟩
theorem qkq (u : Unt) (hu : UntI u) (hok : qo u = (0, 0)) (k : Nat) (f : UFun) (hkf : u.funcs[k]? = some f) (hnp : ∀ b ∈ f.blocks, b.phis = []) (hto : ∀ b ∈ f.blocks, b.end_.to.length ≤ 2) (n : Nat) (hn : f.regs = (n : Int)) (gA fA : Option Addr) (gn gc fn fc : Nat) (w : World) (hW : Ways w) (hg : rpGlobal.SL w w.heap.size u.globals (.slice gA gn gc)) (hf : rpFun.SL w w.heap.size u.funcs (.slice fA fn fc)) (R : Ending -> World -> Prop)
 (hR : ∀ w' (V : List (List Bool)) v', Below w.heap.size w w' -> rpInt.slice.SLF w' w.heap.size w'.heap.size (V.map setL) v' -> V.length = f.blocks.length -> (∀ S ∈ V, S.length = n) -> (∀ r, r < n -> ∀ i, bAt (rowV V i) r = true ↔ Lv f r i 0) ->
  R (.returned (.tuple #[v', (.agg #[.int .i64 (((0 : Int), (0 : Int))).1, .int .i64 (((0 : Int), (0 : Int))).2])])) w') :
 Calls Tryz.prog 56 #[.agg #[.slice gA gn gc, .slice fA fn fc], .int .i64 (k : Int)] w R := by
 have hfo := funOk hok hkf;have hn1 : n ≤ 100 := by have := hfo.regs.2; omega
 obtain ⟨HR, Hg, Hf, HW, Hk, Hkf, Hfo, Hnp, Hto, Hn⟩ := lh10 hR hg hf hW hok hkf hfo hnp hto hn;clear hR hg hf hW hok hkf hfo hnp hto hn
 go_enter Tryz.func56, Tryz.ntmps56
 go_upto_region 1 with fail
 obtain ⟨W2, hW2, hb2, hU2, hF2⟩ := box2 w (.cells #[.slice gA gn gc, .slice fA fn fc] 25) (.cells #[.int .i64 0, .int .i64 0] 30) rfl;rw [<- hW2];obtain ⟨Hb2, HF2⟩ := lh2 hb2 hF2;have hz2 := hb2.size;obtain ⟨u0, u1, lU⟩ := cbl hU2;clear hW2 hb2 hU2 hF2
 go_wp2_with fail
 refine q9i u hu Hk.out k f Hkf.out _ _ _ _ _ _ _ (HW.out.up Hb2.out HW.out.1) (Hg.out.up Hb2.out hz2) (Hf.out.up Hb2.out hz2) _ (fun w3 vb hb3 hsl => ?_);obtain ⟨vA, vc, rfl, _, _, _⟩ := hsl.cases_;have Hb3 := btt Hb2 hb3 hz2;have Hsl := lh (hsl.up hb3 hb3.size);have HF3 := bkk hb3 HF2;have hz3 := Hb3.out.size;clear hb3 hsl u0 u1 lU
 go_upto_region 2 with fail
 obtain ⟨W4, hW4, hb34, hU4, hE4⟩ := box2 w3 (.cells #[.string f.name, .int .i64 f.params, .int .i64 f.regs, .slice vA f.blocks.length vc] 56) (.cells #[.int .i64 0, .int .i64 0] 30) rfl;rw [<- hW4];have Hb4 := btt Hb3 hb34 hz3;have HF4 := bkk hb34 HF3;have HE4 := lh hE4;have Hsl4 := lh (Hsl.out.up hb34 hb34.size);have hz4 := Hb4.out.size;obtain ⟨u0, u1, u2, u3⟩ := q0j hU4;have lU := qa hU4;obtain ⟨e0, e1, lE⟩ := cbl hE4;clear hW4 hb34 hU4 hE4
 go_wp2_with fail
 refine q7v u f n _ _ Hn.out hn1 Hfo.out.blocks.2 Hfo.out.blocks.1 Hnp.out (fun b hb => ⟨Hto.out b hb, fun t ht => ⟨by have := (Hfo.out.to b hb t ht).1; omega, (Hfo.out.to b hb t ht).2⟩⟩) (fun b hb x hx => by rw [<- Hn.out]; exact Hfo.out.ins b hb x hx) (fun b hb => by rw [<- Hn.out]; exact Hfo.out.on b hb) Hsl4.out _ (fun w5 V O vi vo hb5 hsV hsO hVl hOl hVr hOr hVL hOB => ?_);obtain ⟨iA, ic, rfl, _, _, _⟩ := hsV.SL.cases_;obtain ⟨oA, oc, rfl, _, _, _⟩ := hsO.SL.cases_;have Hb5 := btt Hb4 hb5 hz4;have HF5 := bkk hb5 HF4;have HE5 := bkk hb5 HE4;have HV := lh hsV.SL;obtain ⟨HVl, HVr, HVL⟩ := lh3 hVl hVr hVL;have hz5 := Hb5.out.size;clear hb5 hsV hsO hVl hOl hVr hOr hVL hOB u0 u1 u2 u3 lU e0 e1 lE;obtain ⟨e0, e1, lE⟩ := cbl HE5.out;obtain ⟨f0, f1, lF⟩ := cbl HF5.out
 go_upto_region 5 with fail
 have z0 := fzz HF5.out 0;have z1 := fzz HF5.out 1;have hpq : w3.heap.size + 1 ≠ w.heap.size + 1 := by have := qa HF3.out; omega
 go_region_held3 (fun X : World => X.cell? ⟨w3.heap.size + 1, 0, none⟩ = some (.int .i64 0) ∧ X.cell? ⟨w3.heap.size + 1, 1, none⟩ = some (.int .i64 0) ∧ X.cell? ⟨w.heap.size + 1, 0, none⟩ = some (.int .i64 0) ∧ X.cell? ⟨w.heap.size + 1, 1, none⟩ = some (.int .i64 0) ∧ X.frozen? ⟨w.heap.size + 1, 0, none⟩ = false ∧ X.frozen? ⟨w.heap.size + 1, 1, none⟩ = false) (first | exact hS6 | (simp [e0, e1, f0, f1, z0, z1]; done) | exact qfc hpq (by assumption)) (first | (go_at_call 91; refine q8m V _ _ (HV.out.up (by exact bl0) (by exact (by first | omega | (simp; done) | (simp; omega)))) (by rw [HVl.out]; exact Nat.le_trans Hfo.out.blocks.2 (by omega)) (fun S hS => by rw [HVr.out S hS]; exact hn1) _ ?_; intro w6 v6 hb6 hs6; have hS6 := keep6 hb6 (by exact lE) (by exact lF) (by assumption)))
 go_wp2;have hs7 := ((hs6.setCell ⟨w.heap.size + 1, 0, none⟩ (show w.heap.size + 1 < w5.heap.size from lF) (.int .i64 0)).setCell ⟨w.heap.size + 1, 1, none⟩ (show w.heap.size + 1 < w5.heap.size from lF) (.int .i64 0)).more (b' := w.heap.size) (B' := ((w6.setCell ⟨w.heap.size + 1, 0, none⟩ (.int .i64 0)).setCell ⟨w.heap.size + 1, 1, none⟩ (.int .i64 0)).heap.size) (show w.heap.size ≤ w5.heap.size from hz5) (by simp [World.setCell]);have hfin := HR.out _ V v6 (q02 (Hb5.out.trans ((((by exact bl0 : Below w5.heap.size w5 w5.drew).trans hb6)).mono hz5)) [(⟨w.heap.size + 1, 0, none⟩, .int .i64 0), (⟨w.heap.size + 1, 1, none⟩, .int .i64 0)] (by simp)) hs7 HVl.out HVr.out HVL.out;have hz := qfc (z' := .int .i64 0) (t' := .int .i64 0) hpq hS6;refine bodyPost_ret (v := .tuple #[v6, (.agg #[.int .i64 (((0 : Int), (0 : Int))).1, .int .i64 (((0 : Int), (0 : Int))).2])]) (q3i (by rfl) (by rfl) (by rfl) ⟨hz.2.2.1, hz.2.2.2.1⟩) rfl hfin
theorem qhp (u : Unt) (hu : UntI u) (hok : qo u = (0, 0)) (k : Nat) (f : UFun) (hkf : u.funcs[k]? = some f) (hnp : ∀ b ∈ f.blocks, b.phis = []) (hto : ∀ b ∈ f.blocks, b.end_.to.length ≤ 2) (n : Nat) (hn : f.regs = (n : Int)) (gA fA : Option Addr) (gn gc fn fc : Nat) (w : World) (hW : Ways w) (hg : rpGlobal.SL w w.heap.size u.globals (.slice gA gn gc)) (hf : rpFun.SL w w.heap.size u.funcs (.slice fA fn fc)) (R : Ending -> World -> Prop)
 (hR : ∀ w' (V : List (List Bool)) v', Below w.heap.size w w' -> rpInt.slice.SLF w' w.heap.size w'.heap.size (V.map setL) v' -> V.length = f.blocks.length -> (∀ S ∈ V, S.length = n) -> (∀ b, b < f.blocks.length -> ∀ r, r < n -> (bAt (rowV V b) r = true ↔ Bh f r b)) ->
  R (.returned (.tuple #[v', (.agg #[.int .i64 (((0 : Int), (0 : Int))).1, .int .i64 (((0 : Int), (0 : Int))).2])])) w') :
 Calls Tryz.prog 96 #[.agg #[.slice gA gn gc, .slice fA fn fc], .int .i64 (k : Int)] w R := by
 have hfo := funOk hok hkf;have hn1 : n ≤ 100 := by have := hfo.regs.2; omega
 obtain ⟨HR, Hg, Hf, HW, Hk, Hkf, Hfo, Hnp, Hto, Hn⟩ := lh10 hR hg hf hW hok hkf hfo hnp hto hn;clear hR hg hf hW hok hkf hfo hnp hto hn
 go_enter Tryz.func96, Tryz.ntmps96
 go_upto_region 1 with fail
 obtain ⟨W2, hW2, hb2, hU2, hF2⟩ := box2 w (.cells #[.slice gA gn gc, .slice fA fn fc] 25) (.cells #[.int .i64 0, .int .i64 0] 30) rfl;rw [<- hW2];obtain ⟨Hb2, HF2⟩ := lh2 hb2 hF2;have hz2 := hb2.size;obtain ⟨u0, u1, lU⟩ := cbl hU2;clear hW2 hb2 hU2 hF2
 go_wp2_with fail
 refine q9i u hu Hk.out k f Hkf.out _ _ _ _ _ _ _ (HW.out.up Hb2.out HW.out.1) (Hg.out.up Hb2.out hz2) (Hf.out.up Hb2.out hz2) _ (fun w3 vb hb3 hsl => ?_);obtain ⟨vA, vc, rfl, _, _, _⟩ := hsl.cases_;have Hb3 := btt Hb2 hb3 hz2;have Hsl := lh (hsl.up hb3 hb3.size);have HF3 := bkk hb3 HF2;have hz3 := Hb3.out.size;clear hb3 hsl u0 u1 lU
 go_upto_region 2 with fail
 obtain ⟨W4, hW4, hb34, hU4, hE4⟩ := box2 w3 (.cells #[.string f.name, .int .i64 f.params, .int .i64 f.regs, .slice vA f.blocks.length vc] 56) (.cells #[.int .i64 0, .int .i64 0] 30) rfl;rw [<- hW4];have Hb4 := btt Hb3 hb34 hz3;have HF4 := bkk hb34 HF3;have HE4 := lh hE4;have Hsl4 := lh (Hsl.out.up hb34 hb34.size);have hz4 := Hb4.out.size;obtain ⟨u0, u1, u2, u3⟩ := q0j hU4;have lU := qa hU4;obtain ⟨e0, e1, lE⟩ := cbl hE4;clear hW4 hb34 hU4 hE4
 go_wp2_with fail
 refine q7v u f n _ _ Hn.out hn1 Hfo.out.blocks.2 Hfo.out.blocks.1 Hnp.out (fun b hb => ⟨Hto.out b hb, fun t ht => ⟨by have := (Hfo.out.to b hb t ht).1; omega, (Hfo.out.to b hb t ht).2⟩⟩) (fun b hb x hx => by rw [<- Hn.out]; exact Hfo.out.ins b hb x hx) (fun b hb => by rw [<- Hn.out]; exact Hfo.out.on b hb) Hsl4.out _ (fun w5 V O vi vo hb5 hsV hsO hVl hOl hVr hOr hVL hOB => ?_);obtain ⟨iA, ic, rfl, _, _, _⟩ := hsV.SL.cases_;obtain ⟨oA, oc, rfl, _, _, _⟩ := hsO.SL.cases_;have Hb5 := btt Hb4 hb5 hz4;have HF5 := bkk hb5 HF4;have HE5 := bkk hb5 HE4;have HV := lh hsO.SL;obtain ⟨HVl, HVr⟩ := lh2 hOl hOr;have HVL : Hid (∀ b, b < f.blocks.length -> ∀ r, r < n -> (bAt (rowV O b) r = true ↔ Bh f r b)) := lh (fun b hb r hr => by rw [hOB b hb r hr]; exact qmv hb (hVL r hr));have hz5 := Hb5.out.size;clear hb5 hsV hsO hVl hOl hVr hOr hVL hOB u0 u1 u2 u3 lU e0 e1 lE;obtain ⟨e0, e1, lE⟩ := cbl HE5.out;obtain ⟨f0, f1, lF⟩ := cbl HF5.out
 go_upto_region 5 with fail
 have z0 := fzz HF5.out 0;have z1 := fzz HF5.out 1;have hpq : w3.heap.size + 1 ≠ w.heap.size + 1 := by have := qa HF3.out; omega
 go_region_held3 (fun X : World => X.cell? ⟨w3.heap.size + 1, 0, none⟩ = some (.int .i64 0) ∧ X.cell? ⟨w3.heap.size + 1, 1, none⟩ = some (.int .i64 0) ∧ X.cell? ⟨w.heap.size + 1, 0, none⟩ = some (.int .i64 0) ∧ X.cell? ⟨w.heap.size + 1, 1, none⟩ = some (.int .i64 0) ∧ X.frozen? ⟨w.heap.size + 1, 0, none⟩ = false ∧ X.frozen? ⟨w.heap.size + 1, 1, none⟩ = false) (first | exact hS6 | (simp [e0, e1, f0, f1, z0, z1]; done) | exact qfc hpq (by assumption)) (first | (go_at_call 91; refine q8m O _ _ (HV.out.up (by exact bl0) (by exact (by first | omega | (simp; done) | (simp; omega)))) (by rw [HVl.out]; exact Nat.le_trans Hfo.out.blocks.2 (by omega)) (fun S hS => by rw [HVr.out S hS]; exact hn1) _ ?_; intro w6 v6 hb6 hs6; have hS6 := keep6 hb6 (by exact lE) (by exact lF) (by assumption)))
 go_wp2;have hs7 := ((hs6.setCell ⟨w.heap.size + 1, 0, none⟩ (show w.heap.size + 1 < w5.heap.size from lF) (.int .i64 0)).setCell ⟨w.heap.size + 1, 1, none⟩ (show w.heap.size + 1 < w5.heap.size from lF) (.int .i64 0)).more (b' := w.heap.size) (B' := ((w6.setCell ⟨w.heap.size + 1, 0, none⟩ (.int .i64 0)).setCell ⟨w.heap.size + 1, 1, none⟩ (.int .i64 0)).heap.size) (show w.heap.size ≤ w5.heap.size from hz5) (by simp [World.setCell]);have hfin := HR.out _ O v6 (q02 (Hb5.out.trans ((((by exact bl0 : Below w5.heap.size w5 w5.drew).trans hb6)).mono hz5)) [(⟨w.heap.size + 1, 0, none⟩, .int .i64 0), (⟨w.heap.size + 1, 1, none⟩, .int .i64 0)] (by simp)) hs7 HVl.out HVr.out HVL.out;have hz := qfc (z' := .int .i64 0) (t' := .int .i64 0) hpq hS6;refine bodyPost_ret (v := .tuple #[v6, (.agg #[.int .i64 (((0 : Int), (0 : Int))).1, .int .i64 (((0 : Int), (0 : Int))).2])]) (q3i (by rfl) (by rfl) (by rfl) ⟨hz.2.2.1, hz.2.2.2.1⟩) rfl hfin
theorem q5k (u : Unt) (hu : UntI u) (hok : qo u = (0, 0)) (k : Nat) (f : UFun) (hkf : u.funcs[k]? = some f) (hnp : ∀ b ∈ f.blocks, b.phis = []) (hto : ∀ b ∈ f.blocks, b.end_.to.length ≤ 2) (n : Nat) (hn : f.regs = (n : Int)) (gA fA : Option Addr) (gn gc fn fc : Nat) (w : World) (hW : Ways w) (hg : rpGlobal.SL w w.heap.size u.globals (.slice gA gn gc)) (hf : rpFun.SL w w.heap.size u.funcs (.slice fA fn fc)) (R : Ending -> World -> Prop)
 (hR : ∀ w' (S : List Bool) v', Below w.heap.size w w' -> rpInt.SLF w' w.heap.size w'.heap.size (setL S) v' -> S.length = n -> (∀ r, r < n -> (bAt S r = true ↔ Lv f r 0 0)) ->
  R (.returned v') w') :
 Calls Tryz.prog 27 #[.agg #[.slice gA gn gc, .slice fA fn fc], .int .i64 (k : Int)] w R := by
 have h1b : 1 ≤ f.blocks.length := (funOk hok hkf).blocks.1;obtain ⟨HR, Hg, Hf, HW, Hk, Hkf, Hnp, Hto, Hn⟩ := lh9 hR hg hf hW hok hkf hnp hto hn;clear hR hg hf hW hok hkf hnp hto hn
 go_enter Tryz.func27, Tryz.ntmps27
 go_upto_region 1 with fail
 obtain ⟨W2, hW2, hb2, hU2⟩ := box1 w (.cells #[.slice gA gn gc, .slice fA fn fc] 25) rfl;rw [<- hW2];have Hb2 := lh hb2;have hz2 := hb2.size;obtain ⟨u0, u1, lU⟩ := cbl hU2;clear hW2 hb2 hU2
 go_wp2_with fail
 refine qkq u hu Hk.out k f Hkf.out Hnp.out Hto.out n Hn.out _ _ _ _ _ _ _ (HW.out.up Hb2.out HW.out.1) (Hg.out.up Hb2.out hz2) (Hf.out.up Hb2.out hz2) _ (fun w3 V v3 hb3 hsl hVl hVr hVL => ?_);obtain ⟨iA, ic, rfl, _, _, hsl⟩ := hsl.cases_;rw [List.length_map, hVl] at hsl ⊢
 obtain ⟨S, V', rfl⟩ : ∃ S V', V = S :: V' := by
  cases V with
  | nil => simp at hVl; omega
  | cons S V' => exact ⟨_, _, rfl⟩
 obtain ⟨b9, off9, u9, rfl, hb9, hc9, hs9⟩ := hsl.row_at (k := 0) (by simp);have hs9 : rpInt.SLF w3 W2.heap.size w3.heap.size (setL S) u9 := hs9;obtain ⟨rA, rc, rfl, _, _, hs9⟩ := hs9.cases_;have hc9 : w3.cell? ⟨b9, off9, none⟩ = some _ := (q3h hc9).1;have hS : S.length = n := hVr S (.head _);have hSL : ∀ r, r < n -> (bAt S r = true ↔ Lv f r 0 0) := fun r hr => hVL r hr 0;have hfin := HR.out _ S _ (Hb2.out.trans (hb3.mono hz2)) (hs9.more hz2 (Nat.le_refl _)) hS hSL;have Hfin := lh hfin;have hz3 := hb3.size;have h1i : (0 : Int) < (f.blocks.length : Int) := by omega
 have Hb3 := lh hb3;have hfr : Hid (∀ X, Below w3.heap.size w3 X -> R (.returned (.slice rA (setL S).length rc)) X) := lh fun X hX => HR.out _ S _ ((Hb2.out.trans (Hb3.out.mono hz2)).trans (hX.mono (by omega))) (((hs9.below hX (Nat.le_refl _)).more hz2 hX.size)) hS hSL;clear hb3 hsl hVr hVL hs9 hS hSL hfin u0 u1 lU Hfin;go_wp2;exact hfr.out _ (by exact bl0)
def q3f (b : UBlk) : Bool := decide (0 < b.phis.length)
theorem qbb (n : Nat) (A : Option Addr) (c : Nat) (vl : Value) (k : Int) (r : Bool) (m : Int) (vt : Value) (w : World) (R : Ending -> World -> Prop) (hR : ∀ w', Below w.heap.size w w' -> R (.returned (.bool (decide (0 < n)))) w') :
 Calls Tryz.prog 95 #[.agg #[.slice A n c, vl, .int .i64 k, .bool r, .int .i64 m, vt]] w R := by
 have HR := lh hR;clear hR
 go_enter Tryz.func95, Tryz.ntmps95
 go_wp2;exact HR.out _ (by exact bl0)
theorem q99 {α : Type} (p : α -> Bool) {xs : List α} {k : Nat} (h : k < xs.length) : (xs.take (k + 1)).any p = ((xs.take k).any p || p xs[k]) := by
 rw [List.take_succ_eq_append_getElem h, List.any_append];simp
theorem qc3 (xs : List UBlk) (v : Value) (w : World) (h : rpBlk.SL w w.heap.size xs v) (R : Ending -> World -> Prop)
 (hR : ∀ w' r, Below w.heap.size w w' -> (decide ((0 : Int) ≤ r) = xs.any q3f) -> R (.returned (.int .i64 r)) w') :
 Calls Tryz.prog 128 #[v, .func (.func 95) #[] #[]] w R := by
 obtain ⟨A, c, rfl, hm, hcap, hs⟩ := h.cases_;obtain ⟨Hs, HR⟩ := lh2 hs hR;clear hR h hs
 go_enter Tryz.func128, Tryz.ntmps128
 go_wp2
 go_loopg [5, 8] xs.length (fun g j i wr => ∃ k : Nat, k ≤ xs.length ∧ g = xs.length - k ∧ i = .int .i64 k ∧ (xs.take k).any q3f = false ∧ Below w.heap.size w wr)
 case atStart => exact ⟨0, Nat.zero_le _, rfl, rfl, rfl, Below.refl _ _⟩
 case round =>
  obtain ⟨k, hk, rfl, rfl, ht, hbel⟩ := hrel;obtain ⟨Ht, Hb⟩ := lh2 ht hbel;have hz := hbel.size;clear ht
  by_cases hlt : k < xs.length
  ·obtain ⟨b, off, vp, vl, vt, rfl, hb, hp, hl, hto, q0, q1, q2, q3, q4, q5⟩ := Hs.out.blk_at hlt;obtain ⟨Ap, cp, rfl, _, _, _⟩ := hp.cases_;obtain ⟨Al, cl, rfl, _, _, _⟩ := hl.cases_;obtain ⟨At, ct, rfl, _, _, _⟩ := hto.cases_;have p0 := (hbel.cell (p := ⟨b, off + k * 6, none⟩) hb).trans q0;have p1 := (hbel.cell (p := ⟨b, off + k * 6 + 1, none⟩) hb).trans q1;have p2 := (hbel.cell (p := ⟨b, off + k * 6 + 2, none⟩) hb).trans q2;have p3 := (hbel.cell (p := ⟨b, off + k * 6 + 3, none⟩) hb).trans q3;have p4 := (hbel.cell (p := ⟨b, off + k * 6 + 4, none⟩) hb).trans q4;have p5 := (hbel.cell (p := ⟨b, off + k * 6 + 5, none⟩) hb).trans q5;have lb : b < wr.heap.size := by omega
   have Hst : Hid ((xs.take (k + 1)).any q3f = q3f xs[k]) := lh (by rw [q99 _ hlt, Ht.out, Bool.false_or]);have Hof : Hid (q3f xs[k] = true -> xs.any q3f = true) := lh fun h => List.any_eq_true.2 ⟨_, List.getElem_mem hlt, h⟩;have i1 := nnn k;have i2 : (k : Int) < (xs.length : Int) := by omega
   have hph : q3f xs[k] = decide (0 < xs[k].phis.length) := rfl;rw [hph] at Hst Hof;generalize xs[k].phis.length = np at *;clear q0 q1 q2 q3 q4 q5 hbel hp hl hto hph
   go_wp2_with fail
   refine qbb np _ _ _ _ _ _ _ _ _ (fun w1 hb1 => ?_);have Hb2 := btt Hb hb1 hz;clear hb1 p0 p1 p2 p3 p4 p5;generalize hx : decide (0 < np) = x at *;have Hx := lh hx;clear hx
   cases x
   ·go_wp2
    go_roundg (xs.length - (k + 1))
    case measure => omega
    case rel => exact ⟨k + 1, hlt, rfl, by go_num, Hst.out, Hb2.out⟩
   ·have hfin := lh (HR.out _ (k : Int) Hb2.out (by rw [Hof.out rfl]; exact decide_eq_true i1));go_wp2;exact hfin.out
  ·obtain rfl : k = xs.length := by omega
   rw [List.take_length] at Ht;have hfin := lh (HR.out _ (-1) hbel (by rw [Ht.out]; rfl));clear hbel;go_wp2;exact hfin.out
theorem qag (xs : List UBlk) (v : Value) (w : World) (h : rpBlk.SL w w.heap.size xs v) (R : Ending -> World -> Prop)
 (hR : ∀ w', Below w.heap.size w w' -> R (.returned (.bool (xs.any q3f))) w') :
 Calls Tryz.prog 94 #[v, .func (.func 95) #[] #[]] w R := by
 have HR := lh hR;clear hR
 go_enter Tryz.func94, Tryz.ntmps94
 go_wp2_with fail
 refine qc3 xs v _ h _ (fun w1 r hb1 hr => ?_);have Hf := lh (HR.out _ hb1);have Hr := lh hr;clear hr hb1 h;go_wp2;rw [Hr.out];exact Hf.out
def q1l (u : Unt) (k : Int) : Int × Int :=
 if qo u ≠ (0, 0) then qo u
 else if ¬ (0 ≤ k ∧ k ≤ (u.funcs.length : Int) - 1) then (3, -1)
 else match u.funcs[k.toNat]? with
  | none => (0, 0)
  | some f => if f.blocks.any q3f = true then (11, k) else (0, 0)
theorem q1o (u : Unt) (hu : UntI u) (k : Int) (gA fA : Option Addr) (gn gc fn fc : Nat) (w : World) (hW : Ways w) (hg : rpGlobal.SL w w.heap.size u.globals (.slice gA gn gc)) (hf : rpFun.SL w w.heap.size u.funcs (.slice fA fn fc)) (R : Ending -> World -> Prop)
 (hR : ∀ w', Below w.heap.size w w' -> R (.returned (.agg #[.int .i64 (q1l u k).1, .int .i64 (q1l u k).2])) w') :
 Calls Tryz.prog 71 #[.agg #[.slice gA gn gc, .slice fA fn fc], .int .i64 k] w R := by
 have e2 := hf.len;subst e2;obtain ⟨HR, Hg, Hf, HW⟩ := lh4 hR hg hf hW;clear hR hg hf hW
 go_enter Tryz.func71, Tryz.ntmps71
 go_upto_region 1 with fail
 obtain ⟨W2, hW2, hb2, hU2, hF2⟩ := box2 w (.cells #[.slice gA gn gc, .slice fA u.funcs.length fc] 25) (.cells #[.int .i64 0, .int .i64 0] 30) rfl;rw [<- hW2];obtain ⟨Hb2, HU2, HF2⟩ := lh3 hb2 hU2 hF2;have hz2 := hb2.size;obtain ⟨u0, u1, lU⟩ := cbl hU2;clear hW2 hb2 hU2 hF2
 go_wp2_with fail
 refine q7x u hu _ _ _ _ _ _ _ (HW.out.up Hb2.out HW.out.1) (Hg.out.up Hb2.out hz2) (Hf.out.up Hb2.out hz2) _ (fun w3 hb3 => ?_);have Hb3 := btt Hb2 hb3 hz2;have HU3 := bkk hb3 HU2;have HF3 := bkk hb3 HF2;have hz3 := Hb3.out.size;clear hb3 u0 u1 lU;obtain ⟨u0, u1, lU⟩ := cbl HU3.out;obtain ⟨f0, f1, lF⟩ := cbl HF3.out;have j0 := fzz HF3.out 0;have j1 := fzz HF3.out 1;obtain ⟨⟨c, a⟩, hca⟩ : ∃ p, p = qo u := ⟨_, rfl⟩;rw [<- hca];dsimp only;have Hca := lh hca;clear hca
 by_cases hz : c = 0 ∧ a = 0
 ·obtain ⟨rfl, rfl⟩ := hz
  have e0 : q1l u k = if ¬ (0 ≤ k ∧ k ≤ (u.funcs.length : Int) - 1) then ((3 : Int), (-1 : Int)) else match u.funcs[k.toNat]? with
   | none => (0, 0)
   | some f => if f.blocks.any q3f = true then (11, k) else (0, 0) := by
   unfold q1l;rw [<- Hca.out, if_neg (fun h => h rfl)]
  rw [e0] at HR;clear e0;have h10 := qak Hca.out.symm
  go_wp2_with fail
  refine qd _ _ _ _ _ ?_
  by_cases hk : (0 : Int) ≤ k ∧ k ≤ (u.funcs.length : Int) - 1
  ·rw [decide_eq_true hk];rw [if_neg (fun h => h hk)] at HR;obtain ⟨k0, k1⟩ := hk;obtain ⟨n, rfl⟩ : ∃ n : Nat, k = (n : Int) := ⟨k.toNat, by omega⟩;have hn : n < u.funcs.length := by omega
   have hge : u.funcs[((n : Int)).toNat]? = some u.funcs[n] := List.getElem?_eq_getElem hn;rw [hge] at HR;dsimp only at HR;clear hge;have k2 : (n : Int) < (u.funcs.length : Int) := by omega
   obtain ⟨b, off, vb, rfl, hbl, hsl, q0, q1, q2, q3⟩ := Hf.out.fun_at hn;obtain ⟨vA, vc, rfl, _, _, _⟩ := hsl.cases_;have Hsl := lh (hsl.up Hb3.out hz3);have p3 := (Hb3.out.cell (p := ⟨b, off + n * 4 + 3, none⟩) hbl).trans q3;have lb3 : b < w3.heap.size := by omega
   clear hsl q0 q1 q2 q3 k1
   go_wp2_with fail
   refine qag u.funcs[n].blocks _ _ (Hsl.out.up (by exact bl0 : Below w3.heap.size w3 _) (by exact (by first | omega | (simp; done) | (simp; omega)))) _ (fun w4 hb4 => ?_);have hb34 : Below w3.heap.size w3 w4 := (by exact bl0 : Below w3.heap.size w3 (w3.alloc _)).trans (hb4.mono (by simp));have Hb4 := btt Hb3 hb34 hz3;have HF4 := bkk hb34 HF3;have hz4 := Hb4.out.size;clear hb4 hb34 p3 lb3;generalize u.funcs[n].blocks.any q3f = z at *
   cases z
   ·obtain ⟨w9, hw9⟩ := nmm (w4);rw [<- hw9] at Hb4 HF4 ⊢;clear hw9;have Hb9 := Hb4;have HF9 := HF4;rw [if_neg (fun h => by cases h)] at HR;dsimp only at HR;obtain ⟨v0, v1⟩ := qi HF9.out;have y0 := fzz HF9.out 0;have y1 := fzz HF9.out 1;have l9 := qa HF9.out;have Hbl := lh (q02 Hb9.out [(⟨w.heap.size + 1, 0, none⟩, .int .i64 (0)), (⟨w.heap.size + 1, 1, none⟩, .int .i64 (0))] (by simp));clear f0 f1 j0 j1 lF;go_wp2;refine bodyPost_ret (v := (.agg #[.int .i64 (((0 : Int), (0 : Int))).1, .int .i64 (((0 : Int), (0 : Int))).2])) (by simp [results, Tryz.results71, go_sem, v0, v1, l9]) rfl ?_;exact HR.out _ Hbl.out
   ·rw [if_pos rfl] at HR;dsimp only at HR
    go_wp2_with fail
    refine q07 _ _ _ _ (fun w9 hb9 => ?_);have Hb9 := btt Hb4 hb9 hz4;have HF9 := bkk hb9 HF4;clear hb9;obtain ⟨v0, v1⟩ := qi HF9.out;have y0 := fzz HF9.out 0;have y1 := fzz HF9.out 1;have l9 := qa HF9.out;have Hbl := lh (q02 Hb9.out [(⟨w.heap.size + 1, 0, none⟩, .int .i64 (11)), (⟨w.heap.size + 1, 1, none⟩, .int .i64 ((n : Int)))] (by simp));clear f0 f1 j0 j1 lF;go_wp2;refine bodyPost_ret (v := (.agg #[.int .i64 (((11 : Int), ((n : Int) : Int))).1, .int .i64 (((11 : Int), ((n : Int) : Int))).2])) (by simp [results, Tryz.results71, go_sem, v0, v1, l9]) rfl ?_;exact HR.out _ Hbl.out
  ·rw [decide_eq_false hk];rw [if_pos hk] at HR;dsimp only at HR;clear hk
   go_wp2_with fail
   refine q07 _ _ _ _ (fun w9 hb9 => ?_);have hb39 : Below w3.heap.size w3 w9 := (by exact bl0 : Below w3.heap.size w3 (w3.alloc _)).trans (hb9.mono (by simp));have Hb9 := btt Hb3 hb39 hz3;have HF9 := bkk hb39 HF3;clear hb9 hb39;obtain ⟨v0, v1⟩ := qi HF9.out;have y0 := fzz HF9.out 0;have y1 := fzz HF9.out 1;have l9 := qa HF9.out;have Hbl := lh (q02 Hb9.out [(⟨w.heap.size + 1, 0, none⟩, .int .i64 (3)), (⟨w.heap.size + 1, 1, none⟩, .int .i64 (-1))] (by simp));clear f0 f1 j0 j1 lF;go_wp2;refine bodyPost_ret (v := (.agg #[.int .i64 (((3 : Int), (-1 : Int))).1, .int .i64 (((3 : Int), (-1 : Int))).2])) (by simp [results, Tryz.results71, go_sem, v0, v1, l9]) rfl ?_;exact HR.out _ Hbl.out
 ·have e0 : q1l u k = (c, a) := by
   unfold q1l;rw [<- Hca.out, if_pos (fun h => hz ⟨congrArg Prod.fst h, congrArg Prod.snd h⟩)]
  rw [e0] at HR;clear e0;dsimp only at HR;have hbl := q02 Hb3.out [(⟨w.heap.size + 1, 0, none⟩, .int .i64 c), (⟨w.heap.size + 1, 1, none⟩, .int .i64 a)] (by simp);have Hbl := lh hbl;clear hbl
  by_cases hc : c = 0
  ·subst hc;have ha : ¬ a = 0 := fun h => hz ⟨rfl, h⟩;clear hz;go_wp2;refine bodyPost_ret (v := (.agg #[.int .i64 (((0 : Int), a)).1, .int .i64 (((0 : Int), a)).2])) (by simp [results, Tryz.results71, go_sem, f0, f1, lF]) rfl ?_;exact HR.out _ (Hbl.out.alloc (by simp; omega) _)
  ·clear hz;go_wp2;refine bodyPost_ret (v := (.agg #[.int .i64 ((c, a)).1, .int .i64 ((c, a)).2])) (by simp [results, Tryz.results71, go_sem, f0, f1, lF]) rfl ?_;exact HR.out _ (Hbl.out.alloc (by simp; omega) _)
end Go.Proofs.YtdanebboiekieaaGreatDoor
namespace Go.Proofs.YtdanebboiekieaaGreatDoor
open Go.RowKit
open Go.Maps Go.WideShapes Go.MapKept Go.ChangeMaps Go.ChangeShapes
theorem qml {w : World} {base base' size n : Nat} {e : TypeId} {v : Value} {xs : List Value} (h : w.ownsRow base e size v n xs) (hb : base' ≤ base) : w.ownsRow base' e size v n xs := by
 obtain ⟨h1, h2 | ⟨g, cap, cur, hv, hg, r⟩⟩ := h
 ·exact ⟨h1, .inl h2⟩
 ·exact ⟨h1, .inr ⟨g, cap, cur, hv, Nat.le_trans hb hg, r⟩⟩
theorem qlw {w : World} {B : Nat} {e : TypeId} {size : Nat} {v : Value} {n : Nat} {xs : List Value} (h : w.ownsRow B e size v n xs) : ∀ g, v.ownBlock = some g -> ∃ c fz, w.heap[g]? = some (.cells c e fz) := by
 intro g hg;obtain ⟨h1, ⟨h2, _⟩ | ⟨g', cap, cur, hv, _, hh, _⟩⟩ := h
 ·rw [h2] at hg; cases hg
 ·rw [hv] at hg
  cases hg
  exact ⟨_, _, hh⟩
theorem SetR.sub {w : World} {B r : Nat} {X Lf : Int -> Bool} {cnt : Nat} (h : SetR w B r X Lf cnt) : ∀ x, Lf x = true -> X x = true := by
 obtain ⟨D, l, left, _, _, _, _, h5⟩ := h;exact h5
theorem q7e (B : Nat) (X : Int -> Bool) (n : Nat) (w : World) (h : SetM w B X) (hX : ∀ r, X r = true -> r < (n : Int)) (R : Ending -> World -> Prop)
 (hR : ∀ w' v', Below w.heap.size w w' -> w'.ownsRow w.heap.size 3 1 v' (rowX X n).length ((rowX X n).flatMap qh) -> R (.returned v') w') :
 Calls Tryz.prog 75 #[.map (some B)] w R := by
 obtain ⟨HR, H, HX⟩ := lh3 hR h hX;clear hR h hX;have hlt := H.out.lt
 go_enter Tryz.func75, Tryz.ntmps75
 go_wp2_with (at_range; refine q4h rfl _ 116 rfl Tryz.underlying116 B X rfl H.out ?_)
 intro w2 cnt hr2 hg2 hz2;have Hr2 := lh hr2;have Hb2 := lh ((Below.refl w.heap.size w).grown hg2 (Nat.le_refl _) (fun k e => by cases e));clear hr2 hg2
 go_wp2_with fail
 go_loopg [3, 4] cnt (fun g s3 s4 wr => ∃ (l : List Int) (Lf : Int -> Bool), Hid (SetR wr B w.heap.size X Lf g) ∧ Hid (wr.ownsRow (w.heap.size + 1) 3 1 s3 l.length (l.flatMap qh)) ∧ Hid (l.Nodup) ∧ Hid (∀ x, x ∈ l ↔ (X x = true ∧ Lf x = false)) ∧ Hid (Below w.heap.size w wr))
 case atStart => exact ⟨[], X, Hr2, lh (World.ownsRow_nil _ _ _ _), lh List.nodup_nil, lh (fun x => by simp), Hb2⟩
 case round =>
  obtain ⟨l, Lf, HS, Ho, Hnd, Hmem, Hb⟩ := hrel;have hz := Hb.out.size;obtain ⟨A6, c6, hs6⟩ := qj Ho.out;subst hs6;have hl100 : l.length ≤ 100 := qat 100 l Hnd.out (fun x hx => HS.out.set.range x ((Hmem.out x).1 hx).1);have hrl := HS.out.lt;have Hl100 := lh hl100;clear hl100
  go_wp2_with (at_next; refine q50 rfl _ rfl B w.heap.size X Lf gk rfl HS.out ?_ ?_)
  ·intro hdone;have Hd := lh hdone;clear hdone
   go_wp2_with fail
   refine qeh l (.slice A6 l.length c6) (w.heap.size + 1) _ Ho.out (by have := Hl100.out; omega) _ (fun w9 hown9 hg9 => ?_)
   have he : l.mergeSort leI = rowX X n := by
    have hp := List.mergeSort_perm l leI;refine qe9 ?_ fun x => ?_
    ·have hnd := hp.symm.nodup Hnd.out;have hle := qgv l;exact (List.pairwise_and_iff.2 ⟨hle, hnd⟩).imp fun {a b} h => by omega
    ·rw [hp.mem_iff, Hmem.out, Hd.out];have hr := HS.out.set.range x;have hn := HX.out x
     constructor
     ·rintro ⟨h1, _⟩;have := hr h1;have := hn h1;exact ⟨⟨by omega, by omega⟩, h1⟩
     ·rintro ⟨_, h1⟩;exact ⟨h1, rfl⟩
   rw [he] at hown9;have hb9 : Below w.heap.size w w9 := Hb.out.grown hg9 hz (fun k e => by have := (Ho.out.lt k e).1; omega);have hv : (l.length : Nat) = (rowX X n).length := by rw [<- he, List.length_mergeSort]
   have Hfin := lh (HR.out w9 (.slice A6 l.length c6) hb9 (qml hown9 (by omega)));clear hown9 hg9 hb9 hv he;go_wp2;exact Hfin.out
  ·intro x w4 cnt4 hLx hx0 hx1 hs4 hlt4 hg4 hz4 hen4;have hx := And.intro hx0 hx1;have HS4 := lh hs4;have Hb4 := lh (Hb.out.grown hg4 hz (fun k e => by cases e; exact Nat.le_refl _));have Ho4 := lh (Ho.out.kept hg4 (.inr (fun e => by have := (Ho.out.lt _ e).1; omega)));obtain ⟨Hx, HLx⟩ := lh2 hx hLx;have HXx : Hid (X x = true) := lh (HS.out.sub x hLx);have Hlt4 := lh hlt4;have hgr : w.heap.size + 1 ≤ (w4.alloc (Obj.cells #[.int .i64 x] 3)).heap.size := by simp; omega
   have hw4 : w.heap.size ≤ w4.heap.size := by omega
   have Hbal := lh (Hb4.out.alloc hw4 (Obj.cells #[.int .i64 x] 3));have Hlo : Hid (∀ j, (Value.slice A6 l.length c6).ownBlock = some j -> w.heap.size + 1 ≤ j) := lh fun j e => (Ho4.out.lt j e).1;clear hs4 hg4 hx hLx hlt4 hz4
   go_wp2_with (at_builtin; refine qae rfl _ _ rfl (v := .slice A6 l.length c6) rfl (Ho4.out.alloc _) w4.heap.size x rfl (heap_alloc_new _ _) Hl100.out hgr ?_)
   intro v7 w7 hown7 hg7 hat7;have hb7 := Hbal.out.trans ((Grew.of_grown hg7).below (B := w.heap.size) (fun j hj e => by have := Hlo.out j e; omega) (by simp; omega));have hs7 : SetR w7 B w.heap.size X (fun z => Lf z && !decide (z = x)) cnt4 := (HS4.out.kept (row := none) (World.grownBy_alloc w4 _ _) (by simp) (by simp)).kept hg7 (fun e => ?_) (fun e => ?_)
   ·have hown8 : w7.ownsRow (w.heap.size + 1) 3 1 v7 (l ++ [x]).length ((l ++ [x]).flatMap qh) := by simpa using hown7
    obtain ⟨Hown7, Hb7, HS7⟩ := lh3 hown8 hb7 hs7;clear hown7 hg7 hat7 hb7 hs7 hown8;go_wp2
    go_roundg cnt4
    case measure => exact Hlt4.out
    case rel =>
     refine ⟨l ++ [x], _, HS7, Hown7, lh ?_, lh (fun z => ?_), Hb7⟩
     ·refine List.nodup_append.2 ⟨Hnd.out, by simp, fun a ha b hb e => ?_⟩;rw [List.mem_singleton] at hb;subst hb e;have := (Hmem.out a).1 ha;rw [HLx.out] at this;exact absurd this.2 (by decide)
     ·rw [List.mem_append, List.mem_singleton, Hmem.out, Bool.and_eq_false_iff];have hXx := HXx.out
      by_cases e : z = x
      ·subst e;simp [hXx]
      ·simp [e]
   ·obtain ⟨_, _, h3⟩ := HS4.out.set.obj;obtain ⟨c, f, h4⟩ := qlw Ho4.out B e.symm;rw [h4] at h3
    cases h3
   ·have := Hlo.out _ e.symm;omega
end Go.Proofs.YtdanebboiekieaaGreatDoor
