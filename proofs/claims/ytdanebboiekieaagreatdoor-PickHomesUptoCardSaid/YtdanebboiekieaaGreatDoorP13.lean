/- The walks, part 13. -/
import Derived.Test.YtdanebboiekieaaGreatDoorP12
set_option linter.unusedSimpArgs false
set_option linter.unusedVariables false
set_option maxRecDepth 100000
set_option maxHeartbeats 16000000
namespace Go.Proofs.YtdanebboiekieaaGreatDoor
open Go.RowKit Go.Shelf
attribute [local go_sem] Oper.semAt_some
def CKeepA (W W' : World) : Prop := W.heap.size ≤ W'.heap.size ∧ ∀ (k : Nat) (o : Obj), W.heap[k]? = some o -> o.isCells = true -> W'.heap[k]? = some o
theorem CKeepA.refl (W : World) : CKeepA W W := ⟨Nat.le_refl _, fun _ _ h _ => h⟩
theorem CKeepA.trans {A B C : World} (h : CKeepA A B) (k : CKeepA B C) : CKeepA A C := ⟨Nat.le_trans h.1 k.1, fun j o h1 h2 => k.2 j o (h.2 j o h1 h2) h2⟩
theorem CKeepA.of_below {W W' : World} (h : Below W.heap.size W W') : CKeepA W W' := ⟨h.size, fun k o h1 _ => (h.block _ (qa h1)).trans h1⟩
theorem CKeepA.of_grown {W W' : World} {row : Option Nat} (h : W.grownBy W' row) (hr : ∀ k, row = some k -> ∃ o : Obj, W.heap[k]? = some o ∧ o.isCells = false) : CKeepA W W' := ⟨h.size, fun k o h1 h2 => (h.block k (qa h1) (fun e => by
 obtain ⟨o', h3, h4⟩ := hr k e.symm;rw [h1] at h3
 cases h3
 rw [h2] at h4
 cases h4)).trans h1⟩
theorem CKeepA.keep {g : Nat} {W W' : World} (h : CKeepA W W') : CKeep g W W' := ⟨h.1, fun k o h1 h2 _ => h.2 k o h1 h2⟩
theorem CKeepA.blk {k : Nat} {W W' : World} (h : CKeepA W W') {A : Array Value} {T : TypeId} {fr : Nat × Nat} (hb : W.heap[k]? = some (.cells A T fr)) : W'.heap[k]? = some (.cells A T fr) := h.2 k _ hb rfl
theorem CKeepA.cell {W W' : World} (h : CKeepA W W') {p : Addr} {u : Value} (hp : W.cell? p = some u) : W'.cell? p = some u := by
 have hc := hp;unfold World.cell? at hp ⊢
 cases hx : W.heap[p.block]? with
 | none => rw [hx] at hp; cases hp
 | some o =>
   cases o with
   | cells A T fr => rw [h.2 _ _ hx rfl]; rw [hx] at hp; exact hp
   | _ => rw [hx] at hp; cases hp
abbrev Mid (b0 n0 : Nat) (W W' : World) : Prop := Grew (fun k => b0 ≤ k ∧ k < n0) W W'
theorem Mid.of_below {b0 n0 : Nat} {W W' : World} (h : Below W.heap.size W W') : Mid b0 n0 W W' := ⟨h.os, h.tape, h.output, h.size, fun k hk _ => h.block k hk⟩
theorem Mid.to {b0 n0 : Nat} {A B C : World} (h : Mid b0 n0 A B) (k : Mid b0 n0 B C) : Mid b0 n0 A C := Grew.trans h k (fun _ _ h => h)
theorem qb3 {F : Fence} {nn : Nat} {w : World} {ops : Array Oper} {rest : List Oper} {o : Oper} {a : Act} {Q : Exit -> Act -> World -> Prop} (hg : o.guard = none) (m x : Operand) (hop : o.op = Op.call { callee := Callee.builtin Builtin.delete, args := #[m, x], argTypes := #[116, 3] })
 (B : Nat) (X : Int -> Bool) (z : Int) (hm : a.eval m = .map (some B)) (hx : a.eval x = .int .i64 z) (hz : (Lit.int .i64 z).wf = true) (h : SetM w B X)
 (hK : ∀ w', SetM w' B (q3l X z) -> w.mapTurned w' B -> wpListIn F nn Tryz.prog ops Q rest (a.put o.dst (.tuple #[])) w') :
 wpListIn F nn Tryz.prog ops Q (o :: rest) a w := by
 refine wpListIn_plain hg fun K' hK' => ?_;obtain ⟨w', hrun, r1, r2⟩ := h.drop hz o.type;unfold Oper.wpIn;refine ⟨by simp [Oper.about, hop, resolve, Target.leads, Sem.run_pure], ?_⟩;rw [Oper.semAt_plain F _ _ (by rw [hop]; intro c hc'; cases hc')];simp [execOp, hop, resolve, invoke, builtin, hm, hx, hrun, Result.andThen];exact hK' _ _ (hK w' r1 r2)
theorem q1j {w w' : World} {b : Nat} {X : Int -> Bool} (h : SetM w b X) (hg : w.grownBy w' (some b)) : CKeepA w w' := CKeepA.of_grown hg (fun k e => by
 cases e
 obtain ⟨es, clock, ho⟩ := h.obj;exact ⟨_, ho, rfl⟩)
structure Kept (b0 n0 mp : Nat) (W W' : World) : Prop where
 grew : Grew (fun k => (b0 ≤ k ∧ k < n0) ∨ k = mp) W W'
 cells : CKeepA W W'
theorem Kept.refl (b0 n0 mp : Nat) (W : World) : Kept b0 n0 mp W W := ⟨Grew.refl _ _, CKeepA.refl _⟩
theorem Kept.to {b0 n0 mp : Nat} {A B C : World} (h : Kept b0 n0 mp A B) (k : Kept b0 n0 mp B C) : Kept b0 n0 mp A C := ⟨Grew.trans h.grew k.grew (fun _ _ h => h), h.cells.trans k.cells⟩
theorem Kept.of_below {b0 n0 mp : Nat} {W W' : World} (h : Below W.heap.size W W') : Kept b0 n0 mp W W' := ⟨⟨h.os, h.tape, h.output, h.size, fun k hk _ => h.block k hk⟩, CKeepA.of_below h⟩
theorem Kept.of_mid {b0 n0 mp : Nat} {W W' : World} (h : Mid b0 n0 W W') (k : CKeepA W W') : Kept b0 n0 mp W W' := ⟨Grew.more h (fun _ _ h => .inl h), k⟩
theorem Kept.of_set {b0 n0 mp : Nat} {W W' : World} {X : Int -> Bool} (h : SetM W mp X) (hg : W.grownBy W' (some mp)) : Kept b0 n0 mp W W' := ⟨⟨hg.os, hg.tape, hg.output, hg.size, fun k hk hx => hg.block k hk (fun e => hx (.inr (Option.some.inj e)))⟩, q1j h hg⟩
theorem Kept.from {b0 n0 mp B : Nat} {W W' : World} (h : Kept b0 n0 mp W W') (hn : n0 ≤ B) (hm : mp < B) : KeepsFrom B W W' := ⟨h.grew.size, fun k o hB hk _ => (h.grew.block k (qa hk) (by omega)).trans hk⟩
theorem qln {β : Type} {b0 n0 mp B : Nat} {W0 : World} (hB : W0.heap.size ≤ B) : OwnFrom B (fun (_ : β) W => Kept b0 n0 mp W0 W) := fun s A Z row hs hg hr =>
 ⟨⟨hg.os.trans hs.grew.os, hg.tape.trans hs.grew.tape, hg.output.trans hs.grew.output, Nat.le_trans hs.grew.size hg.size, fun k hk hx => by
   rw [<- hs.grew.block k hk hx];refine hg.block k (by have := hs.grew.size; omega) (fun e => ?_);have := (hr k e.symm).1;omega⟩, hs.cells.trans (CKeepA.of_grown hg (fun k e => (hr k e).2))⟩
theorem qma {β : Type} {mp B : Nat} {f : β -> Int -> Bool} (hB : mp < B) : OwnFrom B (fun (s : β) W => SetM W mp (f s)) := fun s A Z row hs hg hr => hs.kept hg (fun e => by
 have := (hr mp e.symm).1;omega)
def RoundI {St : Type} (J : St -> World -> Prop) (b0 n0 mp n : Nat) (W0 : World) (p : St × (Int -> Bool)) (W : World) : Prop := Kept b0 n0 mp W0 W ∧ SetM W mp p.2 ∧ J p.1 W ∧ ∀ z, p.2 z = true -> z < (n : Int)
theorem qa2 {St β : Type} {J : St -> World -> Prop} {b0 n0 mp n B : Nat} {W0 : World} {f : β -> St × (Int -> Bool)} (hJ : ∀ σ W W', J σ W -> Below n0 W W' -> J σ W') (hn : n0 ≤ W0.heap.size) (hB : W0.heap.size ≤ B) (hm : mp < B) : OwnFrom B (fun (s : β) W => RoundI J b0 n0 mp n W0 (f s) W) := fun s A Z row hs hg hr => by
 obtain ⟨h1, h2, h3, h4⟩ := hs;refine ⟨qln hB s A Z row h1 hg hr, qma (f := fun s => (f s).2) hm s A Z row h2 hg hr, hJ _ _ _ h3 ⟨hg.os, hg.tape, hg.output, hg.size, fun k hk => ?_⟩, h4⟩;have := h1.grew.size;exact hg.block k (by omega) (fun e => by have := (hr k e.symm).1; omega)
theorem RoundI.below {St : Type} {J : St -> World -> Prop} {b0 n0 mp n : Nat} {W0 W W' : World} {p : St × (Int -> Bool)} (hJ : ∀ σ W W', J σ W -> Below n0 W W' -> J σ W') (hn : n0 ≤ W0.heap.size) (h : RoundI J b0 n0 mp n W0 p W) (hb : Below W.heap.size W W') : RoundI J b0 n0 mp n W0 p W' := by
 obtain ⟨h1, h2, h3, h4⟩ := h;have := h1.grew.size;exact ⟨h1.to (Kept.of_below hb), h2.below hb, hJ _ _ _ h3 (hb.mono (by omega)), h4⟩
theorem qnc {X : Int -> Bool} {v : UVal} {n : Nat} (h : ∀ z, X z = true -> z < (n : Int)) (hv : ValOk n v) : ∀ z, q1k X v z = true -> z < (n : Int) := fun z hz => by
 unfold q1k at hz
 split at hz
 ·rename_i hr;unfold q1g at hz;rw [Bool.or_eq_true, decide_eq_true_eq] at hz
  rcases hz with hz | rfl
  ·exact h z hz
  ·exact (hv hr).2
 ·exact h z hz
theorem qo5 {X : Int -> Bool} {x : Int} {n : Nat} (h : ∀ z, X z = true -> z < (n : Int)) : ∀ z, q3l X x z = true -> z < (n : Int) := fun z hz => by
 unfold q3l at hz;rw [Bool.and_eq_true] at hz;exact h z hz.1
theorem mem_setL {S : List Bool} {x : Int} : x ∈ setL S ↔ ∃ r : Nat, x = (r : Int) ∧ r < S.length ∧ bAt S r = true := by
 unfold setL setTo;rw [List.mem_map]
 constructor
 ·rintro ⟨r, hr, rfl⟩;rw [List.mem_filter, List.mem_range] at hr;exact ⟨r, rfl, hr.1, hr.2⟩
 ·rintro ⟨r, rfl, h1, h2⟩;exact ⟨r, by rw [List.mem_filter, List.mem_range]; exact ⟨h1, h2⟩, rfl⟩
theorem qfn {V : List (List Bool)} {k : Nat} (h : k < V.length) : rowV V k ∈ V := by
 rw [<- q7t h];exact List.getElem_mem h
theorem q9k (fi : FuncId) (hfi : Enters Tryz.prog fi) {St : Type} (J : St -> World -> Prop) (upd : St -> UIns -> (Int -> Bool) -> St) (cv : Value) (L : Nat -> Nat -> Int -> Bool) (u : Unt) (hu : UntI u) (hok : qo u = (0, 0)) (k : Nat) (f : UFun) (hkf : u.funcs[k]? = some f) (hnp : ∀ b ∈ f.blocks, b.phis = []) (hto : ∀ b ∈ f.blocks, b.end_.to.length ≤ 2) (n : Nat) (hn : f.regs = (n : Int)) (hL : ∀ i k r, L i k r = true ↔ LvI f r i k) (gA fA : Option Addr) (gn gc fc : Nat) (b0 : Nat) (w : World) (hW : Ways w) (hg : rpGlobal.SL w b0 u.globals (.slice gA gn gc)) (hf : rpFun.SL w b0 u.funcs (.slice fA u.funcs.length fc)) (hb0 : b0 ≤ w.heap.size) (hb1 : 0 < b0)
 (hJ : ∀ σ W W', J σ W -> Below w.heap.size W W' -> J σ W') (σ0 : St) (h0 : J σ0 w)
 (hdo : ∀ σ (x : UIns) (va : Value) W mp X, InsOk u n x -> J σ W -> w.heap.size ≤ mp -> SetM W mp X -> (∀ z, X z = true -> z < (n : Int)) -> ∀ R : Ending -> World -> Prop, (∀ W', J (upd σ x X) W' -> Mid b0 w.heap.size W W' -> CKeepA W W' -> R (.returned (.tuple #[])) W') -> Calls Tryz.prog fi #[.agg #[.int .i64 x.op, .int .i64 x.dst, .bool x.a.reg, .int .i64 x.a.n, .bool x.b.reg, .int .i64 x.b.n, .int .i64 x.fn, va], .map (some mp), cv] W R)
 (R : Ending -> World -> Prop) (hR : ∀ w', J (runF upd f.blocks L f.blocks.length σ0) w' -> Mid b0 w.heap.size w w' -> CKeepA w w' -> R (.returned (.tuple #[])) w') :
 Calls Tryz.prog 73 #[.agg #[.slice gA gn gc, .slice fA u.funcs.length fc], .int .i64 (k : Int), .func (.func fi) #[] #[cv]] w R := by
 have hfr : ∀ args w, (callFunc fi args).run Tryz.prog w = .ok (.enter fi args) w := fun a w => hfi.run a w;clear hfi;have hfo := funOk hok hkf;have h1b : 1 ≤ f.blocks.length := hfo.blocks.1;have h40 : f.blocks.length ≤ 40 := hfo.blocks.2;have hn1 : n ≤ 100 := by have := hfo.regs.2; omega
 obtain ⟨hku, hfk⟩ := List.getElem?_eq_some_iff.1 hkf;have h10 := qak hok;obtain ⟨bf, offf, vb, hfA, hbf, hsb, qf0, qf1, qf2, qf3⟩ := hf.fun_at hku;subst hfA;rw [hfk] at qf0 qf1 qf2 hsb;obtain ⟨A, c, rfl, hmx, hcap, hsb⟩ := hsb.cases_;obtain ⟨HR, Hg, Hf, HW, Hk, Hkf, Hnp, Hto, Hn, HL, HJ, H0⟩ := lh12 hR hg hf hW hok hkf hnp hto hn hL hJ h0;obtain ⟨Hdo, Hs, Hfo⟩ := lh3 hdo hsb hfo;clear hR hg hf hW hok hkf hnp hto hn hL hJ h0 hdo hsb hfo hfk;obtain ⟨W1, hW1, hbw1, hU1, hD1⟩ := box2 w (.cells #[.slice gA gn gc, .slice (some ⟨bf, offf, none⟩) u.funcs.length fc] 25) (.cells #[.func (.func fi) #[] #[cv]] 119) rfl;obtain ⟨Hb1, HU1, HD1⟩ := lh3 hbw1 hU1 hD1;have HW1 := lh hW1.symm;have hz1 := hbw1.size;obtain ⟨u0, u1, lU⟩ := cbl hU1;have k0 := nnn k;have k1 : (k : Int) < (u.funcs.length : Int) := by omega
 clear hbw1 hW1 hU1 hD1;refine (callsIn_wide (n := 7)).1 ?_;refine callsIn_of_wp_marks Tryz.func73 rfl trivial ?_ rfl;simp only [Tryz.ntmps73, List.size_toArray, List.length_cons, List.length_nil, Nat.reduceAdd, Nat.reduceSub, Array.replicate_succ, Array.replicate_zero, List.push_toArray, List.append_toArray, List.nil_append, List.cons_append];refine wpIn_wide.2 (wp_mono (Q := postN Tryz.prog Tryz.f73 R) ?_ qax)
 go_upto_region 1 with fail
 rw [HW1.out]
 go_wp2_with fail
 refine qhp u hu Hk.out k f Hkf.out Hnp.out Hto.out n Hn.out _ _ _ _ _ _ _ (HW.out.up Hb1.out HW.out.1) ((Hg.out.up (Hb1.out.mono hb0) (Nat.le_refl _)).more (Nat.le_trans hb0 hz1)) ((Hf.out.up (Hb1.out.mono hb0) (Nat.le_refl _)).more (Nat.le_trans hb0 hz1)) _ (fun w2 O vo hb2 hsl hOl hOr hOL => ?_);obtain ⟨oA, oc, rfl, _, _, hsl⟩ := hsl.cases_;rw [List.length_map, hOl] at hsl ⊢;have Hsl2 := lh hsl.SL;obtain ⟨HOl, HOr, HOL⟩ := lh3 hOl hOr hOL;have Hb2 := btt Hb1 hb2 hz1;have HU2 := lh ((hb2.block _ lU).trans HU1.out);have HD2 := bkk hb2 HD1;have hz2 := Hb2.out.size;clear hb2 hsl hOl hOr hOL u0 u1 lU;obtain ⟨u0, u1, lU⟩ := cbl HU2.out;have q3 := (Hb2.out.cell (p := ⟨bf, offf + k * 4 + 3, none⟩) (by show bf < w.heap.size; omega)).trans qf3;have lbf : bf < w2.heap.size := by omega
 obtain ⟨W3, hW3⟩ : ∃ W3, W3 = w2.alloc (Obj.cells #[.int .i64 0, .int .i64 0] 30) := ⟨_, rfl⟩;have hb23 : Below w2.heap.size w2 W3 := by subst hW3; exact bl0
 have HJ3 : Hid (J σ0 W3) := lh (HJ.out _ _ _ H0.out (Hb2.out.trans (hb23.mono hz2)));have Hb3 := btt Hb2 hb23 hz2;have HD3 := bkk hb23 HD2;have Hsl3 := lh (Hsl2.out.up hb23 hb23.size);have hz3 := Hb3.out.size;have HW3 := lh hW3.symm;clear hb23 hW3;go_wp2;rw [HW3.out];clear u0 u1 lU q3 lbf
 refine q3q (fun u => #[u 0, u 1, u 2, u 3, u 4, .pointer (some ⟨w.heap.size + 1, 0, none⟩), .slice oA f.blocks.length oc, u 7, u 8, u 9, u 10, u 11, u 12, u 13, u 14, u 15, u 16, u 17, u 18, u 19, u 20, u 21, u 22, u 23, u 24, u 25, u 26, .slice A f.blocks.length c, .int .i64 (f.blocks.length : Int), u 29, u 30, u 31, u 32, u 33, u 34, u 35, u 36, u 37, u 38, u 39, u 40, u 41, u 42, u 43, u 44, u 45, u 46, u 47, u 48, u 49, u 50, u 51, u 52, u 53, u 54, u 55, u 56, u 57, u 58, u 59, u 60, u 61, u 62, u 63, u 64, u 65, u 66, u 67, u 68, u 69, u 70, u 71])
  (fun gh u ds wr => ∃ b : Nat, b ≤ f.blocks.length ∧ gh = f.blocks.length - b ∧ u 29 = .int .i64 (b : Int) ∧ Hid (J (runF upd f.blocks L b σ0) wr) ∧ Hid (Mid b0 w.heap.size W3 wr) ∧ Hid (CKeepA W3 wr) ∧ Hid (DMarks w.heap.size wr ds))
  f.blocks.length rfl ?_ ?_
 ·exact ⟨0, Nat.zero_le _, rfl, rfl, HJ3, lh (Grew.refl _ _), lh (CKeepA.refl _), lh .nil⟩
 intro gh us ds w4 hI K HK;obtain ⟨b, hbN, hgh, h29, HJr, HMd, HCk, HM⟩ := hI;dsimp only;rw [h29];have Hgh := lh hgh;clear h29 HJ3 hgh;have hzr : W3.heap.size ≤ w4.heap.size := HMd.out.size;have k2 := nnn b
 by_cases hlt : ¬ b < f.blocks.length
 ·have hbe : b = f.blocks.length := by omega
  subst hbe;have k3 : ¬ ((f.blocks.length : Int) < (f.blocks.length : Int)) := by omega
  clear hlt;go_wp2;refine q1v (n₀ := w.heap.size) (by omega) HM.out (fun w' hsh => ?_);refine ⟨_, results_none rfl _ _ _, HR.out w' (HJ.out _ _ _ HJr.out hsh.bel) ⟨?_, ?_, ?_, ?_, ?_⟩ ⟨?_, ?_⟩⟩
  ·exact hsh.bel.os.trans (HMd.out.os.trans Hb3.out.os)
  ·exact hsh.bel.tape.trans (HMd.out.tape.trans Hb3.out.tape)
  ·exact hsh.bel.output.trans (HMd.out.output.trans Hb3.out.output)
  ·have := hsh.size; omega
  ·intro j hj hx;exact (hsh.bel.block j hj).trans ((HMd.out.block j (by omega) hx).trans (Hb3.out.block j hj))
  ·have := hsh.size; omega
  ·intro j o hj hc;exact hsh.cells j o (HCk.out.2 j o ((Hb3.out.block j (qa hj)).trans hj) hc) (fun x e => by subst e; cases hc)
 have hlt := Decidable.of_not_not hlt;have k3 : (b : Int) < (f.blocks.length : Int) := by omega
 obtain ⟨b9, off9, vp, vl, vt, hA9, hb9, hp, hl, ht, q0, q1, q2, q3, q4, q5⟩ := Hs.out.blk_at hlt;subst hA9;obtain ⟨Ap, cp, rfl, _, _, hp⟩ := hp.cases_;obtain ⟨Al, cl, rfl, hlm, _, hl⟩ := hl.cases_;obtain ⟨At, ct, rfl, _, _, ht⟩ := ht.cases_;obtain ⟨F, hF⟩ := q6d hl;obtain ⟨bk, hbk⟩ : ∃ bk, bk = f.blocks[b] := ⟨_, rfl⟩;have hgb : f.blocks[b]? = some bk := by rw [hbk]; exact List.getElem?_eq_getElem hlt
 rw [<- hbk] at hF q0 q1 q2 q3 q4 q5 hl hlm;have Hin : Hid (∀ x ∈ bk.list, InsOk u n x) := lh (by rw [<- Hn.out]; exact Hfo.out.ins bk (List.mem_of_getElem? hgb));have Hon : Hid (ValOk n bk.end_.on) := lh (by rw [<- Hn.out]; exact Hfo.out.on bk (List.mem_of_getElem? hgb));obtain ⟨HF, Hlm, Hgb⟩ := lh3 hF hlm hgb;have hwr : Mid b0 w.heap.size w w4 := (Mid.of_below Hb3.out).to HMd.out;have Hwr := lh hwr
 have hq : ∀ {o : Nat} {v : Value}, w.cell? ⟨b9, o, none⟩ = some v -> w4.cell? ⟨b9, o, none⟩ = some v := fun {o v} h => by
  rw [<- h];exact World.cell?_of_block (hwr.block b9 (by omega) (by omega))
 have r0 := hq q0;have r1 := hq q1;have r2 := hq q2;have r3 := hq q3;have r4 := hq q4;have r5 := hq q5;have lb9 : b9 < w4.heap.size := by omega
 clear hF hlm hgb hp hl ht q0 q1 q2 q3 q4 q5 hq hwr hbk;have hmm := @run_makeMap Tryz.prog;obtain ⟨W5, hW5⟩ : ∃ W5, W5 = ((w4.alloc (Obj.cells #[.slice Ap bk.phis.length cp, .slice Al bk.list.length cl, .int .i64 bk.end_.kind, .bool bk.end_.on.reg, .int .i64 bk.end_.on.n, .slice At bk.end_.to.length ct] 68)).alloc (Obj.map #[] 0)).alloc (Obj.cells #[.map (some (w4.heap.size + 1))] 116) := ⟨_, rfl⟩;obtain ⟨mp, hmp⟩ := nmm (w4.heap.size + 1);have hb5 : Below w4.heap.size w4 W5 := by subst hW5; exact bl0
 have hX5 : W5.heap[w4.heap.size]? = some (.cells #[.slice Ap bk.phis.length cp, .slice Al bk.list.length cl, .int .i64 bk.end_.kind, .bool bk.end_.on.reg, .int .i64 bk.end_.on.n, .slice At bk.end_.to.length ct] 68 (0, 0)) := by subst hW5; exact qf (qf (heap_alloc_new _ _) _) _
 have hS5 : SetM W5 mp (fun _ => false) := by
  subst hW5 hmp;have := (SetM.made (w4.alloc (Obj.cells #[.slice Ap bk.phis.length cp, .slice Al bk.list.length cl, .int .i64 bk.end_.kind, .bool bk.end_.on.reg, .int .i64 bk.end_.on.n, .slice At bk.end_.to.length ct] 68))).kept (World.grownBy_alloc _ (Obj.cells #[.map (some (w4.heap.size + 1))] 116) none) (by simp);simpa using this
 have hN5 : W5.heap[mp + 1]? = some (.cells #[.map (some mp)] 116 (0, 0)) := by
  subst hW5 hmp;have := heap_alloc_new ((w4.alloc (Obj.cells #[.slice Ap bk.phis.length cp, .slice Al bk.list.length cl, .int .i64 bk.end_.kind, .bool bk.end_.on.reg, .int .i64 bk.end_.on.n, .slice At bk.end_.to.length ct] 68)).alloc (Obj.map #[] 0)) (Obj.cells #[.map (some (w4.heap.size + 1))] 116);simpa using this
 have hrow := Hsl3.out.mono (w' := w4) (fun p u _ hc => HCk.out.cell hc);obtain ⟨bi, oi, ui, hoA, hbi, i0, hui⟩ := hrow.row_at (k := b) (by rw [List.length_map, HOl.out]; exact hlt);subst hoA;obtain ⟨Si, hSi⟩ : ∃ Si, Si = setL (rowV O b) := ⟨_, rfl⟩;have hgi : (O.map setL)[b]'(by rw [List.length_map, HOl.out]; exact hlt) = Si := by rw [hSi, List.getElem_map, q7t]
 rw [hgi] at hui;obtain ⟨Au, cu, rfl, _, _, hui⟩ := hui.cases_;have Hui := lh ((hui.more hzr).up hb5 hb5.size);have lbi : bi < W5.heap.size := by have := hb5.size; have := World.block_lt_of_cell? w4 _ i0; omega
 have j0 := (hb5.cell (p := ⟨bi, oi + b, none⟩) (World.block_lt_of_cell? w4 _ i0)).trans i0;obtain ⟨HSi, Hmp, HX5, HS5, HN5⟩ := lh5 hSi hmp hX5 hS5 hN5;have HW5 := lh hW5.symm;have Hb5 := lh hb5;have HJ5 := lh (HJ.out _ _ _ HJr.out (hb5.mono (by omega)));have hz5 := hb5.size;clear hrow i0 hui hgi hbi hb5 hX5 hS5 hN5 hSi hW5 hmp
 go_upto_region 6 with fail
 rw [HW5.out, <- Hmp.out];go_wp2;have Hlb : Hid (mp + 1 < W5.heap.size) := lh (qa HN5.out);have Hmpw : Hid (w.heap.size ≤ mp ∧ mp < W5.heap.size ∧ w4.heap.size ≤ mp) := lh ⟨by have := Hmp.out; omega, HS5.out.lt, by have := Hmp.out; omega⟩
 have Hreg : Hid (∀ x ∈ Si, 0 ≤ x ∧ x < (n : Int)) := lh (fun x hx => by
  rw [HSi.out] at hx;obtain ⟨r, rfl, h1, h2⟩ := mem_setL.1 hx;have := HOr.out _ (qfn (by rw [HOl.out]; exact hlt));omega)
 clear r0 r1 r2 r3 r4 r5 lb9 j0 lbi
 go_loopg [40] Si.length (fun gh s40 wx => ∃ j : Nat, j ≤ Si.length ∧ gh = Si.length - j ∧ s40 = .int .i64 (j : Int) ∧ Hid (SetM wx mp (fun z => decide (z ∈ Si.take j))) ∧ Hid (W5.grownBy wx (some mp)))
 case atStart => exact ⟨0, Nat.zero_le _, rfl, rfl, lh (HS5.out.congr (fun x => by simp)), lh (q38 _ _)⟩
 case round =>
  obtain ⟨j, hj, rfl, rfl, HSx, Hgx⟩ := hrel;have hzx := Hgx.out.size;have hN := (Hgx.out.block _ Hlb.out (by intro e; have := Option.some.inj e; omega)).trans HN5.out;have c0 : wr.cell? ⟨mp + 1, 0, none⟩ = some (.map (some mp)) := cqq hN;have lN := qa hN
  by_cases hltj : j < Si.length
  ·obtain ⟨bj, oj, rfl, hbj, p0⟩ := Hui.out.int_at hltj;have hck := q1j HS5.out Hgx.out;have p1 := hck.cell p0;have lbj := World.block_lt_of_cell? wr _ p1;have hgd : Si.getD j 0 = Si[j] := by rw [List.getD_eq_getElem?_getD, List.getElem?_eq_getElem hltj]; rfl
   have hz : 0 ≤ Si.getD j 0 ∧ Si.getD j 0 < 100 := by
    have := Hreg.out _ (List.getElem_mem hltj);rw [hgd];omega
   have Hst : Hid (∀ x, q1g (fun z => decide (z ∈ Si.take j)) (Si.getD j 0) x = decide (x ∈ Si.take (j + 1))) := lh (fun x => by
    rw [List.take_succ_eq_append_getElem hltj, hgd];unfold q1g;simp only [List.mem_append, List.mem_singleton, Bool.decide_or])
   have j1 := nnn j;have j2 : (j : Int) < (Si.length : Int) := by omega
   generalize Si.getD j 0 = z at *;have Hz := lh hz;clear p0 hck hgd hN hz
   go_wp2_with (at_mapUpdate; refine q5x rfl _ _ _ rfl mp (fun z => decide (z ∈ Si.take j)) z rfl rfl rfl Hz.out HSx.out ?_)
   intro w6 hs6 ht6;have HS6 := lh (hs6.congr Hst.out);have Hg6 := lh (Hgx.out.trans ht6.grown);clear hs6 ht6;go_wp2
   go_roundg (Si.length - (j + 1))
   case measure => omega
   case rel => exact ⟨j + 1, hltj, rfl, by go_num, HS6, Hg6⟩
  ·obtain rfl : j = Si.length := by omega
   have j2 : ¬ ((Si.length : Int) < (Si.length : Int)) := by omega
   have hck := q1j HS5.out Hgx.out;have hX6 := hck.blk HX5.out;obtain ⟨x0, x1, x2, x3, x4, x5⟩ := q1d hX6;have lX := qa hX6;rw [List.take_length] at HSx;obtain ⟨HX6, HN6⟩ := lh2 hX6 hN;clear hX6 hN
   go_wp2_with fail
   refine qcq bk.end_.on mp _ _ HSx.out (fun hr => by have := Hon.out hr; omega) _ (fun w7 hs7 hg7 => ?_)
   have he7 : q1k (fun z => decide (z ∈ Si)) bk.end_.on = L b bk.list.length := qlb HL.out Hfo.out Hn.out Hgb.out (fun z => by
    rw [decide_eq_true_eq, HSi.out, mem_setL];have hlen := HOr.out _ (qfn (V := O) (k := b) (by rw [HOl.out]; exact hlt))
    constructor
    ·rintro ⟨r, rfl, h1, h2⟩;exact ⟨r, rfl, by omega, (HOL.out b hlt r (by omega)).1 h2⟩
    ·rintro ⟨r, rfl, h1, h2⟩;exact ⟨r, rfl, by omega, (HOL.out b hlt r h1).2 h2⟩)
   rw [he7] at hs7;have hg57 := Hgx.out.trans hg7;have hck7 := q1j HS5.out hg57;have H47 : Mid b0 w.heap.size w4 w7 := ⟨hg57.os.trans Hb5.out.os, hg57.tape.trans Hb5.out.tape, hg57.output.trans Hb5.out.output, Nat.le_trans hz5 hg57.size, fun k h1 hx => (hg57.block k (by omega) (fun e => by have := Option.some.inj e; have := Hmpw.out; omega)).trans (Hb5.out.block k h1)⟩;have Hw7 := lh (Hwr.out.to H47);have H47' := H47;have Hc7 := lh ((CKeepA.of_below Hb5.out).trans hck7);have HJ7 := lh (HJ.out _ _ _ HJ5.out ((Below.refl w.heap.size W5).grown hg57 (by omega) (fun k e => by have := Option.some.inj e; have := Hmpw.out; omega)));have HS7 := lh hs7
   have HM7 := lh ((HM.out.onto Hb5.out).grown hg57 (fun x h => by
    obtain ⟨es, clock, ho⟩ := HS5.out.obj;rw [ho] at h
    cases h))
   have HX7 := lh (hck7.blk HX5.out);have HN7 := lh (hck7.blk HN5.out);have hz7 : w4.heap.size ≤ w7.heap.size := H47.size;have h57 : W5.heap.size ≤ w7.heap.size := hg57.size;clear hs7 hg7 he7 hg57 hck7 H47 hck x0 x1 x2 x3 x4 x5 lX c0 lN hmm HX6 HN6 HSx Hgx Hui;obtain ⟨x0, x1, x2, x3, x4, x5⟩ := q1d HX7.out;have lX := qa HX7.out
   go_wp2_with fail
   refine q9g Al bk.list.length cl _ _ ?_;go_wp2;obtain ⟨W9, hW9, hb79, hbox9⟩ := box1 w7 (.cells #[.slice Al bk.list.length cl] 62) rfl;have h79 := hb79.size;have HR9 : Hid (RoundI J b0 w.heap.size mp n W9 (runF upd f.blocks L b σ0, L b bk.list.length) W9) := lh ⟨Kept.refl _ _ _ _, HS7.out.below hb79, HJ.out _ _ _ HJ7.out (hb79.mono (by omega)), fun z hz => by have h1 := LvI.lt Hfo.out ((HL.out _ _ _).1 hz); have := Hn.out; omega⟩;have Hw9 := lh (Hw7.out.to (Mid.of_below hb79));have Hc9 := lh (Hc7.out.trans (CKeepA.of_below hb79));have Hm39 : Hid (Mid b0 w.heap.size W3 W9) := lh (HMd.out.to (H47'.to (Mid.of_below hb79)));have HM9 := lh (HM7.out.onto hb79);have HN9 := lh ((CKeepA.of_below hb79).blk HN7.out);have lD := qa HD3.out
   have hBN9 : BackNeed bk.list F Al cl w7.heap.size b0 (w.heap.size + 1) W9 := ⟨hbox9, fun j hj => by
    obtain ⟨b', off', hA', hb', hv', g0, g1, g2, g3, g4, g5, g6, g7⟩ := HF.out j hj;have key : ∀ {o : Nat} {v : Value}, w.cell? ⟨b', o, none⟩ = some v -> W9.cell? ⟨b', o, none⟩ = some v := fun {o v} h => (World.cell?_of_block (Hw9.out.block b' (by omega) (by omega))).trans h;exact ⟨b', off', hA', hb', hv'.mono (fun p u hp hc => (World.cell?_of_block (Hw9.out.block p.block (by omega) (by omega))).trans hc), key g0, key g1, key g2, key g3, key g4, key g5, key g6, key g7⟩, by omega, by omega, by omega⟩
   have HBN9 := lh hBN9;have hmaxl : bk.list.length ≤ maxLen := by have := Hlm.out; unfold maxLen; omega
   have HD9 : Hid (W9.heap[w.heap.size + 1]? = some (.cells #[.func (.func fi) #[] #[cv]] 119 (0, 0))) := lh ((CKeepA.of_below hb79).blk (Hc7.out.blk (HCk.out.blk HD3.out)));have HW9 := lh hW9.symm;rw [HW9.out];clear hW9 hb79 hbox9 hBN9 x0 x1 x2 x3 x4 x5 lX;have Hlt9 : Hid (mp + 1 < W9.heap.size) := lh (qa HN9.out);refine (wpIn_wide (n := 7)).1 ?_
   refine wpIn_rangeFunc_ownH (F := Fence.wide) rfl (by decide) (gf := 129) (lb := #[.pointer (some ⟨w7.heap.size, 0, none⟩)]) rfl trivial (enters_of Tryz.func129 (by kernel_rfl) rfl)
    (q9h 6 (by decide) w7.heap.size b0 (w.heap.size + 1) bk.list F Al cl hmaxl W9 HBN9.out) (fun h k => h.trans k) (fun W l o o' _ h1 h2 _ => CKeep.putObj W l o o' h1 h2) (Below.refl _ _) (fun _ => rfl)
    (fun (pre : List (Fin bk.list.length)) (W : World) => RoundI J b0 w.heap.size mp n W9 (pre.foldl (fun p j => stepU upd p bk.list[j.1]) (runF upd f.blocks L b σ0, L b bk.list.length)) W)
    (fun _ _ _ => False)
    (qa2 (W0 := W9) (mp := mp) (b0 := b0) (n := n) (f := fun pre : List (Fin bk.list.length) => pre.foldl (fun p j => stepU upd p bk.list[j.1]) (runF upd f.blocks L b σ0, L b bk.list.length)) HJ.out (by omega) (Nat.le_refl _) (by have := Hlt9.out; omega)) (fun _ _ _ _ _ hs _ _ => hs) HR9.out
    (fun (j : Fin bk.list.length) (a' : Act) (W : World) => ∃ Bx, W9.heap.size ≤ Bx ∧ W.heap[Bx]? = some (Obj.cells (insC bk.list[j.1] (F j.1)) 71 ((0, 0) : Nat × Nat)) ∧ a' = { tmps := #[us 0, us 1, us 2, us 3, us 4, .pointer (some ⟨w.heap.size + 1, 0, none⟩), .slice (some ⟨bi, oi, none⟩) f.blocks.length oc, us 7, .int .i64 (b : Int), .pointer (some ⟨w4.heap.size, 0, none⟩), .pointer (some ⟨mp + 1, 0, none⟩), us 11, u12, us 13, .pointer (some ⟨Bx, 0, none⟩), us 15, us 16, us 17, us 18, us 19, us 20, us 21, us 22, us 23, us 24, us 25, us 26, .slice (some ⟨b9, off9, none⟩) f.blocks.length c, .int .i64 (f.blocks.length : Int), .int .i64 (b : Int), .bool true, .int .i64 (b : Int), .pointer (some ⟨b9, off9 + b * 6, none⟩), .agg #[.slice Ap bk.phis.length cp, .slice Al bk.list.length cl, .int .i64 bk.end_.kind, .bool bk.end_.on.reg, .int .i64 bk.end_.on.n, .slice At bk.end_.to.length ct], .map (some mp), .slice (some ⟨bi, oi, none⟩) f.blocks.length oc, .int .i64 (b : Int), .pointer (some ⟨bi, oi + b, none⟩), .slice Au Si.length cu, .int .i64 (Si.length : Int), .int .i64 (Si.length : Int), .bool false, u42, u43, u44, u45, u46, u47, .map (some mp), .pointer (some ⟨w4.heap.size, 2, none⟩), .pointer (some ⟨w4.heap.size, 3, none⟩), .agg #[.bool bk.end_.on.reg, .int .i64 bk.end_.on.n], .tuple #[], .pointer (some ⟨w4.heap.size, 1, none⟩), .slice Al bk.list.length cl, .func (.func 129) #[] #[.pointer (some ⟨w7.heap.size, 0, none⟩)], .int .i64 (j.1 : Int), .agg (insC bk.list[j.1] (F j.1)), us 58, us 59, us 60, us 61, us 62, us 63, us 64, us 65, us 66, us 67, us 68, us 69, us 70, us 71], defers := [] })
    (fun (j : Fin bk.list.length) a' s X Y row hs hg hr => by obtain ⟨Bx, h0, h1, h2⟩ := hs; exact ⟨Bx, h0, q2s Bx (insC bk.list[j.1] (F j.1)) 71 (0, 0) W9.heap.size () X Y row h1 hg hr, h2⟩) ?assign ?body ?done ?stop
   case assign =>
    rintro l pre j W K9 hI hK;obtain ⟨_, _, hA7, hb7, hvj, hj8⟩ := HF.out j.1 j.2;clear hA7 hb7 hj8;obtain ⟨Aj, cj, hFj, _, _, _⟩ := hvj.cases_;unfold encB insC;dsimp only at hK;unfold insC at hK;rw [hFj] at hK ⊢;clear hFj
    gi_wp2
    exact hK _ _ ((KeepsOthers.alloc _ _).from _) (CKeep.of_below ((Below.refl W.heap.size W).alloc (Nat.le_refl _) _)) (hI.below HJ.out (by omega) ((Below.refl W.heap.size W).alloc (Nat.le_refl _) _)) ⟨W.heap.size, hI.1.grew.size, heap_alloc_new _ _, rfl⟩
   case body =>
    rintro l pre j a' W hl ⟨r, hr⟩ hI ⟨Bx, hBx, hv, rfl⟩ hlen;obtain ⟨p, hp⟩ : ∃ p, p = pre.foldl (fun p j => stepU upd p bk.list[j.1]) (runF upd f.blocks L b σ0, L b bk.list.length) := ⟨_, rfl⟩;have hfold : (pre ++ [j]).foldl (fun p j => stepU upd p bk.list[j.1]) (runF upd f.blocks L b σ0, L b bk.list.length) = stepU upd p bk.list[j.1] := by rw [List.foldl_append, <- hp]; rfl
    rw [<- hp] at hI;have Hfold := lh hfold;clear hp hfold;obtain ⟨hK1, hS1, hJ1, hN1⟩ := hI;have HN1 := lh hN1;clear hN1;obtain ⟨b7, off7, hA7, hb7, hva, _⟩ := HF.out j.1 j.2;have hva9 : rpVal.SL W b0 bk.list[j.1].args (F j.1) := ((HBN9.out.row j.1 j.2).choose_spec.choose_spec.2.2.1).mono (fun p u hp hc => hK1.cells.cell hc);have hix := Hin.out bk.list[j.1] (List.getElem_mem j.2);have hdst := hix.dst;have hwf : (Lit.int .i64 bk.list[j.1].dst).wf = true := WalkArith.wf_i64 (by omega);have hcI : ∀ k v, (insC bk.list[j.1] (F j.1))[k]? = some v -> W.cell? ⟨Bx, k, none⟩ = some v := fun k v h => by rw [qb hv]; exact h
    have x0 : W.cell? ⟨Bx, 0, none⟩ = some (.int .i64 bk.list[j.1].op) := hcI 0 _ rfl;have x1 : W.cell? ⟨Bx, 1, none⟩ = some (.int .i64 bk.list[j.1].dst) := hcI 1 _ rfl;have x2 : W.cell? ⟨Bx, 2, none⟩ = some (.bool bk.list[j.1].a.reg) := hcI 2 _ rfl;have x3 : W.cell? ⟨Bx, 3, none⟩ = some (.int .i64 bk.list[j.1].a.n) := hcI 3 _ rfl;have x4 : W.cell? ⟨Bx, 4, none⟩ = some (.bool bk.list[j.1].b.reg) := hcI 4 _ rfl;have x5 : W.cell? ⟨Bx, 5, none⟩ = some (.int .i64 bk.list[j.1].b.n) := hcI 5 _ rfl;have x6 : W.cell? ⟨Bx, 6, none⟩ = some (.int .i64 bk.list[j.1].fn) := hcI 6 _ rfl;have x7 : W.cell? ⟨Bx, 7, none⟩ = some (F j.1) := hcI 7 _ rfl;have lx := qa hv;have hDo := hK1.cells.blk HD9.out;have hNo := hK1.cells.blk HN9.out;have d0 : W.cell? ⟨w.heap.size + 1, 0, none⟩ = some (.func (.func fi) #[] #[cv]) := cqq hDo;have n0 : W.cell? ⟨mp + 1, 0, none⟩ = some (.map (some mp)) := cqq hNo;have lD := qa hDo;have lN := qa hNo;obtain ⟨Aj, cj, hFj, _, _, hva9⟩ := hva9.cases_;obtain ⟨Hva9, HFj⟩ := lh2 hva9 hFj;rw [hFj] at x7;obtain ⟨Hix, HK1, HS1, HJ1, HNo, Hv, Hr, Hwf⟩ := lh8 hix hK1 hS1 hJ1 hNo hv hr hwf;clear hFj hA7 hb7 hva hva9 hix hcI hK1 hS1 hJ1 hDo hNo hdst hv hr hwf;generalize bk.list[j.1] = x at *;unfold insC;clear HX7 HN7 HX5 HN5 HW5 HW9 HD1 HD2 HD3 HU1 HU2 HW1 HW3 HSi HOL HOr
    gi_wp2_with fail
    refine ⟨trivial, CallsIn.inRound l (callsIn_wide.2 (Hdo.out p.1 x (.slice Aj x.args.length cj) W mp p.2 Hix.out HJ1.out Hmpw.out.1 HS1.out HN1.out _ (fun w2' hj2 hm2 hc2 => ?_)))⟩;have hNo2 := hc2.blk HNo.out;have hv2 := hc2.blk Hv.out;have hS2 : SetM w2' mp p.2 := HS1.out.block (hm2.block mp HS1.out.lt (by have := Hmpw.out; omega));have hr2 : w2'.heap[l]? = some (.loop r) := (hm2.block l (Array.getElem?_eq_some_iff.1 Hr.out).1 (by omega)).trans Hr.out;have HK2 : Hid (Kept b0 w.heap.size mp W9 w2') := lh (HK1.out.to (Kept.of_mid hm2 hc2));have n0' : w2'.cell? ⟨mp + 1, 0, none⟩ = some (.map (some mp)) := cqq hNo2;have y1 : w2'.cell? ⟨Bx, 1, none⟩ = some (.int .i64 x.dst) := cqq hv2;have lx2 := qa hv2;have lN2 := qa hNo2;obtain ⟨HNo2, Hv2, HS2, Hr2, HJ2⟩ := lh5 hNo2 hv2 hS2 hr2 hj2;have HKF2 := lh ((Kept.of_mid (mp := mp) hm2 hc2));clear hj2 hm2 hc2 hNo2 hv2 hS2 hr2 x0 x1 x2 x3 x4 x5 x6 x7 lx d0 n0 lD lN
    gi_wp2_with (gi_at_delete; refine qb3 rfl _ _ rfl mp p.2 x.dst rfl rfl Hwf.out HS2.out ?_)
    intro w3' hs3 ht3;have hg3 := ht3.grown;have hck3 := q1j HS2.out hg3;have hv3 := hck3.blk Hv2.out;have hNo3 := hck3.blk HNo2.out;have hKF3 : Kept b0 w.heap.size mp W w3' := HKF2.out.to (Kept.of_set HS2.out hg3);have hr3 : w3'.heap[l]? = some (.loop r) := (hg3.block l (Array.getElem?_eq_some_iff.1 Hr2.out).1 (fun e => by have := Option.some.inj e; have := Hlt9.out; omega)).trans Hr2.out;have HJ3' := lh (HJ.out _ _ _ HJ2.out ((Below.refl w.heap.size w2').grown hg3 (by have := HK2.out.grew.size; omega) (fun k e => by have := Option.some.inj e; have := Hmpw.out; omega)));rw [HFj.out] at hv3;have hcI : ∀ k v, (insC x (.slice Aj x.args.length cj))[k]? = some v -> w3'.cell? ⟨Bx, k, none⟩ = some v := fun k v h => by rw [qb hv3]; exact h
    have z0 : w3'.cell? ⟨Bx, 0, none⟩ = some (.int .i64 x.op) := hcI 0 _ rfl;have z1 : w3'.cell? ⟨Bx, 1, none⟩ = some (.int .i64 x.dst) := hcI 1 _ rfl;have z2 : w3'.cell? ⟨Bx, 2, none⟩ = some (.bool x.a.reg) := hcI 2 _ rfl;have z3 : w3'.cell? ⟨Bx, 3, none⟩ = some (.int .i64 x.a.n) := hcI 3 _ rfl;have z4 : w3'.cell? ⟨Bx, 4, none⟩ = some (.bool x.b.reg) := hcI 4 _ rfl;have z5 : w3'.cell? ⟨Bx, 5, none⟩ = some (.int .i64 x.b.n) := hcI 5 _ rfl;have z6 : w3'.cell? ⟨Bx, 6, none⟩ = some (.int .i64 x.fn) := hcI 6 _ rfl;have z7 : w3'.cell? ⟨Bx, 7, none⟩ = some (.slice Aj x.args.length cj) := hcI 7 _ rfl;have lx3 := qa hv3;have hW3s : W9.heap.size ≤ w3'.heap.size := Nat.le_trans HK2.out.grew.size hg3.size;obtain ⟨HS3, HNo3, HKF3, Hr3⟩ := lh4 hs3 hNo3 hKF3 hr3;have HK3 := lh (HK2.out.to (Kept.of_set HS2.out hg3));clear hs3 ht3 hg3 hck3 hv3 hNo3 hKF3 hr3 hcI y1 n0' lx2 lN2 HS2 HNo2 Hr2 Hv2 HJ2
    gi_wp2_with fail
    refine ⟨trivial, CallsIn.inRound l (callsIn_wide.2 (q52 x Aj x.args.length cj _ _ ?_))⟩;clear z0 z1 z2 z3 z4 z5 z6 z7
    gi_wp2_with fail
    obtain ⟨W11, hW11⟩ : ∃ W11, W11 = w3'.alloc (Obj.cells #[.int .i64 x.op, .int .i64 x.dst, .bool x.a.reg, .int .i64 x.a.n, .bool x.b.reg, .int .i64 x.b.n, .int .i64 x.fn, .slice Aj x.args.length cj] 71) := ⟨_, rfl⟩;have hb11 : Below w3'.heap.size w3' W11 := by subst hW11; exact bl0
    have hbx11 : W11.heap[w3'.heap.size]? = some (.cells #[.int .i64 x.op, .int .i64 x.dst, .bool x.a.reg, .int .i64 x.a.n, .bool x.b.reg, .int .i64 x.b.n, .int .i64 x.fn, .slice Aj x.args.length cj] 71 (0, 0)) := by subst hW11; exact heap_alloc_new _ _
    have hs11 := hb11.size;have HR11 : Hid (RoundI J b0 w.heap.size mp n W11 (upd p.1 x p.2, q3l p.2 x.dst) W11) := lh ⟨Kept.refl _ _ _ _, HS3.out.below hb11, HJ.out _ _ _ HJ3'.out (hb11.mono (by omega)), qo5 HN1.out⟩;have HKF11 := lh (HKF3.out.to (Kept.of_below hb11));have hr11 : W11.heap[l]? = some (.loop r) := (hb11.block l (Array.getElem?_eq_some_iff.1 Hr3.out).1).trans Hr3.out;have HNo11 := lh ((CKeepA.of_below hb11).blk HNo3.out);have hVN : ValsNeed x (.slice Aj x.args.length cj) w3'.heap.size b0 (w.heap.size + 1) W11 := ⟨hbx11, Hva9.out.mono (fun p u hp hc => HKF11.out.cells.cell hc), by omega, by omega, by omega⟩;have HVN := lh hVN;have HK11 := lh (HK3.out.to (Kept.of_below hb11));have h911 : W9.heap.size ≤ W11.heap.size := by omega
    rw [<- hW11];clear hW11 hb11 hbx11 hVN HKF3 HK3 HS3 HJ3'
    refine wpIn_rangeFunc_ownN (F := Fence.wide.inRound l) (l₀ := l) (r₀ := r) rfl hr11 (by decide) (gf := 100) (lb := #[.pointer (some ⟨w3'.heap.size, 0, none⟩)]) rfl trivial (enters_of Tryz.func100 (by kernel_rfl) rfl)
     ((q53 4 (by decide) w3'.heap.size b0 (w.heap.size + 1) x (.slice Aj x.args.length cj) W11 HVN.out).inRound l) (fun h k => h.trans k) (fun W l o o' _ h1 h2 _ => CKeep.putObj W l o o' h1 h2) (Below.refl _ _) (fun _ => rfl)
     (fun (pre : List (VX x)) (W : World) => RoundI J b0 w.heap.size mp n W11 (upd p.1 x p.2, pre.foldl (fun X v => q1k X v.1) (q3l p.2 x.dst)) W)
     (fun _ _ _ => False)
     (qa2 (W0 := W11) (mp := mp) (b0 := b0) (n := n) (f := fun pre : List (VX x) => (upd p.1 x p.2, pre.foldl (fun X v => q1k X v.1) (q3l p.2 x.dst))) HJ.out (by omega) (Nat.le_refl _) (by have := Hlt9.out; omega)) (fun _ _ _ _ _ hs _ _ => hs) HR11.out
     (fun (v : VX x) (a' : Act) (W : World) => ∃ Bv, W.heap[Bv]? = some (Obj.cells #[.bool v.1.reg, .int .i64 v.1.n] 64 ((0, 0) : Nat × Nat)) ∧ a' = { tmps := #[us 0, us 1, us 2, us 3, us 4, .pointer (some ⟨w.heap.size + 1, 0, none⟩), .slice (some ⟨bi, oi, none⟩) f.blocks.length oc, us 7, .int .i64 (b : Int), .pointer (some ⟨w4.heap.size, 0, none⟩), .pointer (some ⟨mp + 1, 0, none⟩), us 11, u12, us 13, .pointer (some ⟨Bx, 0, none⟩), .pointer (some ⟨Bv, 0, none⟩), us 16, us 17, us 18, us 19, us 20, us 21, us 22, us 23, us 24, us 25, us 26, .slice (some ⟨b9, off9, none⟩) f.blocks.length c, .int .i64 (f.blocks.length : Int), .int .i64 (b : Int), .bool true, .int .i64 (b : Int), .pointer (some ⟨b9, off9 + b * 6, none⟩), .agg #[.slice Ap bk.phis.length cp, .slice Al bk.list.length cl, .int .i64 bk.end_.kind, .bool bk.end_.on.reg, .int .i64 bk.end_.on.n, .slice At bk.end_.to.length ct], .map (some mp), .slice (some ⟨bi, oi, none⟩) f.blocks.length oc, .int .i64 (b : Int), .pointer (some ⟨bi, oi + b, none⟩), .slice Au Si.length cu, .int .i64 (Si.length : Int), .int .i64 (Si.length : Int), .bool false, u42, u43, u44, u45, u46, u47, .map (some mp), .pointer (some ⟨w4.heap.size, 2, none⟩), .pointer (some ⟨w4.heap.size, 3, none⟩), .agg #[.bool bk.end_.on.reg, .int .i64 bk.end_.on.n], .tuple #[], .pointer (some ⟨w4.heap.size, 1, none⟩), .slice Al bk.list.length cl, .func (.func 129) #[] #[.pointer (some ⟨w7.heap.size, 0, none⟩)], .int .i64 (j.1 : Int), .agg #[.int .i64 x.op, .int .i64 x.dst, .bool x.a.reg, .int .i64 x.a.n, .bool x.b.reg, .int .i64 x.b.n, .int .i64 x.fn, F j.1], .func (.func fi) #[] #[cv], .agg #[.int .i64 x.op, .int .i64 x.dst, .bool x.a.reg, .int .i64 x.a.n, .bool x.b.reg, .int .i64 x.b.n, .int .i64 x.fn, .slice Aj x.args.length cj], .map (some mp), .tuple #[], .map (some mp), .pointer (some ⟨Bx, 1, none⟩), .int .i64 x.dst, .agg #[.int .i64 x.op, .int .i64 x.dst, .bool x.a.reg, .int .i64 x.a.n, .bool x.b.reg, .int .i64 x.b.n, .int .i64 x.fn, .slice Aj x.args.length cj], .func (.func 100) #[] #[.pointer (some ⟨w3'.heap.size, 0, none⟩)], .agg #[.bool v.1.reg, .int .i64 v.1.n], us 68, us 69, us 70, us 71], defers := [] })
     (fun (v : VX x) a' s X Y row hs hg hr => by obtain ⟨Bv, h1, h2⟩ := hs; exact ⟨Bv, q2s Bv #[.bool v.1.reg, .int .i64 v.1.n] 64 (0, 0) W11.heap.size () X Y row h1 hg hr, h2⟩) ?assign2 ?body2 ?done2 ?stop2
    case assign2 =>
     rintro l2 pre2 v W12 K12 hI2 hK2;unfold encV
     gi_wp2
     exact hK2 _ _ ((KeepsOthers.alloc _ _).from _) (CKeep.of_below ((Below.refl W12.heap.size W12).alloc (Nat.le_refl _) _)) (hI2.below HJ.out (by omega) ((Below.refl W12.heap.size W12).alloc (Nat.le_refl _) _)) ⟨W12.heap.size, heap_alloc_new _ _, rfl⟩
    case body2 =>
     rintro l2 pre2 v a2 W12 hl2 ⟨r2, hr2⟩ hI2 ⟨Bv, hv2, rfl⟩ hlen2;obtain ⟨hK2, hS2, hJ2, hN2⟩ := hI2;have HN2 := lh hN2;clear hN2;obtain ⟨v0, v1, lv⟩ := cbl hv2;have hNo12 := hK2.cells.blk HNo11.out;have n0 : W12.cell? ⟨mp + 1, 0, none⟩ = some (.map (some mp)) := cqq hNo12;have lN := qa hNo12;have hvo := q49 Hix.out v.1 v.2;obtain ⟨Hvo, HK2, HS2, HJ2⟩ := lh4 hvo hK2 hS2 hJ2;clear hK2 hS2 hJ2 hv2 hNo12 hvo
     gi_wp2_with fail
     refine ⟨trivial, CallsIn.inRound l2 (CallsIn.inRound l (callsIn_wide.2 (qcq v.1 mp _ W12 HS2.out (fun h => by have := Hvo.out h; omega) _ (fun w13 hs13 hg13 => ?_))))⟩;have hkk := Kept.of_set (b0 := b0) (n0 := w.heap.size) HS2.out hg13;have hI13 : RoundI J b0 w.heap.size mp n W11 (upd p.1 x p.2, (pre2 ++ [v]).foldl (fun X v => q1k X v.1) (q3l p.2 x.dst)) w13 := ⟨HK2.out.to hkk, by rw [List.foldl_append]; exact hs13, HJ.out _ _ _ HJ2.out ((Below.refl w.heap.size W12).grown hg13 (by have := HK2.out.grew.size; omega) (fun k e => by have := Option.some.inj e; have := Hmpw.out; omega)), by rw [List.foldl_append]; exact qnc HN2.out Hvo.out⟩;have hKF13 : KeepsFrom W11.heap.size W12 w13 := hkk.from (by omega) (by have := Hlt9.out; omega);have hck13 : CKeep (w.heap.size + 1) W12 w13 := hkk.cells.keep
     gi_wp2
     exact ⟨hKF13, hck13, hI13⟩
    case done2 =>
     rintro ys W12 hys hI2
     have hf : ys.foldl (fun X (v : VX x) => q1k X v.1) (q3l p.2 x.dst) = insN p.2 x := by
      have e1 : ys.foldl (fun X (v : VX x) => q1k X v.1) (q3l p.2 x.dst) = (ys.map (·.1)).foldl q1k (q3l p.2 x.dst) := by rw [List.foldl_map]
      rw [e1, hys];rfl
     rw [hf] at hI2;obtain ⟨hK2, hS2, hJ2, hN2⟩ := hI2
     have hI3 : RoundI J b0 w.heap.size mp n W9 ((pre ++ [j]).foldl (fun p j => stepU upd p bk.list[j.1]) (runF upd f.blocks L b σ0, L b bk.list.length)) W12 := by
      rw [Hfold.out];exact ⟨HK11.out.to hK2, hS2, hJ2, hN2⟩
     have hall := HKF11.out.to hK2;have hkf := hall.from (B := W9.heap.size) (by omega) (by have := Hlt9.out; omega);have hck : CKeep (w.heap.size + 1) W W12 := hall.cells.keep;clear hf hK2 hS2 hJ2 hN2 hall hys
     gi_wp2
     exact ⟨hkf, hck, hI3⟩
    case stop2 =>
     rintro c pre2 W12 _ h;exact h.elim
   case done =>
    rintro D ys W hD hys hI hK
    have hfold : ys.foldl (fun p (j : Fin bk.list.length) => stepU upd p bk.list[j.1]) (runF upd f.blocks L b σ0, L b bk.list.length) = (runF upd f.blocks L (b + 1) σ0, L b 0) := by
     have e1 : ys.foldl (fun p (j : Fin bk.list.length) => stepU upd p bk.list[j.1]) (runF upd f.blocks L b σ0, L b bk.list.length) = (ys.map fun j : Fin bk.list.length => bk.list[j.1]).foldl (stepU upd) (runF upd f.blocks L b σ0, L b bk.list.length) := by rw [List.foldl_map]
     rw [e1, qez hys, qno upd (fun m x hx => qix HL.out Hgb.out hx (Hin.out x (List.mem_of_getElem? hx))), q8w upd Hgb.out]
    obtain ⟨hK1, hS1, hJ1, _⟩ := hI;rw [hfold] at hJ1;have hkk : Grew (fun k => (b0 ≤ k ∧ k < w.heap.size) ∨ k = mp) W9 W := hK1.grew;have HJ10 := lh hJ1;have hMd : Mid b0 w.heap.size W3 W := ⟨hkk.os.trans (Hm39.out.os), hkk.tape.trans Hm39.out.tape, hkk.output.trans Hm39.out.output, Nat.le_trans Hm39.out.size hkk.size, fun k h1 h2 => (hkk.block k (by have := Hm39.out.size; omega) (fun h => by have := Hmpw.out; omega)).trans (Hm39.out.block k h1 h2)⟩;have hCk : CKeepA W3 W := HCk.out.trans (Hc9.out.trans hK1.cells)
    have hMk : DMarks w.heap.size W ({ target := .collected D, args := #[] } :: ds) := DMarks.push HM9.out (HM9.out.keep (fun D' _ h2 _ => by
     have hne : D' ≠ mp := fun e => by
      obtain ⟨es, clock, ho⟩ := HR9.out.2.1.obj;rw [e, ho] at h2
      cases h2
     have hlo : w.heap.size ≤ D' := by assumption
     exact (hkk.block D' (Array.getElem?_eq_some_iff.1 h2).1 (by omega)).trans h2)) (by omega) hD hK
    obtain ⟨HMd2, HCk2, HMk2⟩ := lh3 hMd hCk hMk;clear hfold hK1 hS1 hJ1 hkk hMd hCk hMk hK hys;go_wp2;refine HK.out (f.blocks.length - (b + 1)) _ _ _ (by have := Hgh.out; omega) ?_ ?_
    ·rfl
    ·exact ⟨b + 1, hlt, rfl, by go_num, HJ10, HMd2, HCk2, HMk2⟩
   case stop =>
    rintro D c pre W _ _ h _;exact h.elim
end Go.Proofs.YtdanebboiekieaaGreatDoor
