/- The walks, part 29. -/
import Derived.Test.YtdanebboiekieaaGreatDoorP28
set_option linter.unusedSimpArgs false
set_option linter.unusedVariables false
set_option maxRecDepth 100000
set_option maxHeartbeats 16000000
namespace Go.Proofs.YtdanebboiekieaaGreatDoor
open Go.RowKit
theorem qfw {b : UBlk} : ∀ {bs : List UBlk}, b ∈ bs -> b.list.length ≤ totL bs
 | [], h => by cases h
 | c :: bs, h => by
   have e : totL (c :: bs) = c.list.length + totL bs := by simp [totL]
   rcases List.mem_cons.1 h with h | h
   ·rw [e, h]; omega
   ·have := qfw h;omega
theorem q9l {w : World} {b : Nat} {v0 v1 v2 v3 v4 v5 : Value} {T : TypeId} (h : w.heap[b]? = some (.cells #[v0, v1, v2, v3, v4, v5] T (0, 0))) :
 w.cell? ⟨b, 0, none⟩ = some v0 ∧ w.cell? ⟨b, 1, none⟩ = some v1 ∧ w.cell? ⟨b, 2, none⟩ = some v2 ∧ w.cell? ⟨b, 3, none⟩ = some v3 ∧ w.cell? ⟨b, 4, none⟩ = some v4 ∧ w.cell? ⟨b, 5, none⟩ = some v5 := by
 refine ⟨?_, ?_, ?_, ?_, ?_, ?_⟩ <;> (rw [qb h]; rfl)
theorem qdf {u : Unt} (hu : UntI u) {j n : Nat} {f : UFun} {many : Int} {C : Int -> Int -> Bool} {A : Int -> Bool} {L : Nat -> Nat -> Int -> Bool} (hc : ColOk u j f n many C A L) (ht : totL f.blocks ≤ 300) {pl : List Int} (hpl : pl = qy f n many C A (L 0 0)) (gA fA : Option Addr) (gn gc fn fc : Nat) (w : World) (hW : Ways w) (hg : rpGlobal.SL w w.heap.size u.globals (.slice gA gn gc)) (hf : rpFun.SL w w.heap.size u.funcs (.slice fA fn fc)) (R : Ending -> World -> Prop)
 (hR : ∀ w' v, Below w.heap.size w w' -> w'.ownsRow w.heap.size 45 5 v (pickL pl (q0o pl) (q3k pl) f.params (rowX (L 0 0) n) f.blocks).length ((pickL pl (q0o pl) (q3k pl) f.params (rowX (L 0 0) n) f.blocks).flatMap Mac.cells) -> R (.returned (.tuple #[v, (.agg #[.int .i64 (((0 : Int), (0 : Int))).1, .int .i64 (((0 : Int), (0 : Int))).2])])) w') :
 Calls Tryz.prog 13 #[.agg #[.slice gA gn gc, .slice fA fn fc], .int .i64 (j : Int), .int .i64 many] w R := by
 obtain ⟨i9, hi9, hy0, hy1, hy2⟩ := info_parts q44;have e2 := hf.len;subst e2;have hci : ColIs u (j : Int) many pl (0, 0) := .inr (.inr ⟨j, f, n, C, A, L, rfl, hc, hpl, rfl⟩);have hsm := q65 hci;have hft := fits hci;have hfn := funOk hc.ok hc.fn;have hln : pl.length = n := by rw [hpl]; exact q3c
 have hliv := (hc.lives (p := f.params)).1;rw [<- hpl] at hliv;obtain ⟨hju, hjf⟩ := List.getElem?_eq_some_iff.1 hc.fn;obtain ⟨S, hS⟩ := nmm (q3k pl);obtain ⟨s, hs⟩ := nmm (q0o pl);obtain ⟨lv, hlv⟩ : ∃ l, l = rowX (L 0 0) n := ⟨_, rfl⟩;rw [<- hS, <- hs] at hft;rw [<- hlv] at hliv;rw [<- hS, <- hs, <- hlv] at hR;obtain ⟨HR, Hg, Hf, HW, HC, Hci, Hsm, Hft, Hfn, Hln, Hliv, HS⟩ := lh12 hR hg hf hW hc hci hsm hft hfn hln hliv hS;obtain ⟨Hs, Hlv, Ht, Hjf⟩ := lh4 hs hlv ht hjf;clear hR hg hf hW hc hpl hci hsm hft hfn hln hliv hS hs hlv ht hjf
 go_enter Tryz.func13, Tryz.ntmps13
 go_upto_region 1 with fail
 obtain ⟨W2, hW2, hb2, hU2, hF2⟩ := box2 w (.cells #[.slice gA gn gc, .slice fA u.funcs.length fc] 25) (.cells #[.int .i64 0, .int .i64 0] 30) rfl;rw [<- hW2];obtain ⟨Hb2, HU2, HF2⟩ := lh3 hb2 hU2 hF2;have hz2 := hb2.size;obtain ⟨u0, u1, lU⟩ := cbl hU2;clear hW2 hb2 hU2 hF2
 go_wp2_with fail
 refine q7y hu Hci.out _ _ _ _ _ _ _ (HW.out.up Hb2.out HW.out.1) (Hg.out.up Hb2.out hz2) (Hf.out.up Hb2.out hz2) _ (fun w3 v3 hb3 hsl3 => ?_);obtain ⟨pA, pc, rfl, _, _, hsl3⟩ := hsl3.cases_;have Hsl3 := lh hsl3.SL;have Hb3 := btt Hb2 hb3 hz2;have HU3 := bkk hb3 HU2;have HF3 := bkk hb3 HF2;have hz3 := Hb3.out.size;clear hb3 u0 u1 lU hsl3;obtain ⟨E, hE⟩ := nmm (w3.heap.size);obtain ⟨W4, hW4, hb34, hE4⟩ := box1 w3 (.cells #[.int .i64 0, .int .i64 0] 30) hE;have Hb4 := btt Hb3 hb34 hz3;have HU4 := bkk hb34 HU3;have HF4 := bkk hb34 HF3;have Hsl4 := lh (Hsl3.out.up hb34 hb34.size);have HW4 := lh hW4.symm;obtain ⟨HEe, HE4⟩ := lh2 hE hE4;clear hW4 hb34 hE4 hE;obtain ⟨e0, e1, lE⟩ := cbl HE4.out;obtain ⟨u0, u1, lU⟩ := cbl HU4.out
 go_upto_region 2 with fail
 rw [<- HEe.out, HW4.out];have hj1 : (j : Int) < (u.funcs.length : Int) := by omega
 have j0 := nnn j;obtain ⟨b, off, vb, rfl, hb, hbk, g0, g1, g2, g3⟩ := (Hf.out.up Hb4.out Hb4.out.size).fun_at hju;rw [Hjf.out] at hbk g0 g1 g2;obtain ⟨bA, bc, rfl, _, _, hbk⟩ := hbk.cases_;have Hbk := lh hbk;clear hbk
 go_upto_region 4 with fail
 have hS0 : (fun W : World => W.cell? ⟨w.heap.size, 1, none⟩ = some (.slice (some ⟨b, off, none⟩) u.funcs.length fc) ∧ W.cell? ⟨b, off + j * 4, none⟩ = some (.string f.name) ∧ W.cell? ⟨b, off + j * 4 + 1, none⟩ = some (.int .i64 f.params) ∧ W.cell? ⟨b, off + j * 4 + 2, none⟩ = some (.int .i64 f.regs) ∧ W.cell? ⟨b, off + j * 4 + 3, none⟩ = some (.slice bA f.blocks.length bc)) W4 := ⟨u1, g0, g1, g2, g3⟩;have HSS : Hid (∀ W, Below W4.heap.size W4 W -> (fun W : World => W.cell? ⟨w.heap.size, 1, none⟩ = some (.slice (some ⟨b, off, none⟩) u.funcs.length fc) ∧ W.cell? ⟨b, off + j * 4, none⟩ = some (.string f.name) ∧ W.cell? ⟨b, off + j * 4 + 1, none⟩ = some (.int .i64 f.params) ∧ W.cell? ⟨b, off + j * 4 + 2, none⟩ = some (.int .i64 f.regs) ∧ W.cell? ⟨b, off + j * 4 + 3, none⟩ = some (.slice bA f.blocks.length bc)) W) := lh fun W hW => ⟨(hW.cell lU).trans u1, (hW.cell hb).trans g0, (hW.cell hb).trans g1, (hW.cell hb).trans g2, (hW.cell hb).trans g3⟩;clear u1 g0 g1 g2 g3 u0 e0 e1
 go_region_held3 (fun W : World => W.cell? ⟨w.heap.size, 1, none⟩ = some (.slice (some ⟨b, off, none⟩) u.funcs.length fc) ∧ W.cell? ⟨b, off + j * 4, none⟩ = some (.string f.name) ∧ W.cell? ⟨b, off + j * 4 + 1, none⟩ = some (.int .i64 f.params) ∧ W.cell? ⟨b, off + j * 4 + 2, none⟩ = some (.int .i64 f.regs) ∧ W.cell? ⟨b, off + j * 4 + 3, none⟩ = some (.slice bA f.blocks.length bc)) (first | with_reducible exact hS0 | with_reducible exact hSy | go_keep) ((go_at_call 21; refine qkp pl _ _ (Hsl4.out.up (by exact bl0 : Below W4.heap.size W4 W4.drew) (Nat.le_refl _)) (fun p hp => by have := Hsm.out p hp; omega) _ ?_; intro wy vs hby hoy; have hb4y : Below W4.heap.size W4 wy := (by exact bl0 : Below W4.heap.size W4 W4.drew).trans hby; obtain ⟨sA, sc, hvs⟩ := qj hoy; subst hvs; have hSy := HSS.out wy hb4y))
 rw [<- HS.out] at hoy;rw [<- Hs.out, <- HS.out];obtain ⟨W5, hW5, hby5, hP5⟩ := box1 wy (.cells #[.string f.name, .int .i64 f.params, .int .i64 f.regs, .slice bA f.blocks.length bc, .slice pA pl.length pc, .int .i64 s, .slice sA S.length sc, .slice none 0 0, .slice none 0 0] 58) rfl;have hz5 : W5.heap.size = wy.heap.size + 1 := by subst hW5; simp
 rw [<- hW5];have hzy := hb4y.size;have HFlt := lh (Nat.lt_of_lt_of_le (qa HF4.out) hzy);have Hb5 := lh (Hb4.out.trans ((hb4y.trans (hby5.mono hzy)).mono Hb4.out.size));have HU5 := lh ((hby5.block _ (by omega)).trans ((hb4y.block _ (qa HU4.out)).trans HU4.out));have HF5 := lh ((hby5.block _ (by have := qa HF4.out; omega)).trans ((hb4y.block _ (qa HF4.out)).trans HF4.out));obtain ⟨HP5, Hz5⟩ := lh2 hP5 hz5;have Hpl5 : Hid (rpInt.SL W5 wy.heap.size pl (.slice pA pl.length pc)) := lh ((Hsl4.out.up hb4y hzy).mono fun p u hp hc => (hby5.cell hp).trans hc);have HS5 : Hid (rpInt.SL W5 wy.heap.size S (.slice sA S.length sc)) := lh ((q4n hoy (Nat.le_refl _)).mono fun p u hp hc => (hby5.cell hp).trans hc);have Hbk5 : Hid (rpBlk.SL W5 wy.heap.size f.blocks (.slice bA f.blocks.length bc)) := lh ((Hbk.out.up hb4y hzy).mono fun p u hp hc => (hby5.cell hp).trans hc);clear hSy hS0 hoy hby hb4y hby5 hP5 hz5 hW5 hzy HSS lE lU hb;obtain ⟨u0, u1, lU⟩ := cbl HU5.out;have hz05 := Hb5.out.size
 go_wp2_with fail
 refine q5k u hu HC.out.ok j f HC.out.fn HC.out.np HC.out.tos n HC.out.regs _ _ _ _ _ _ _ (HW.out.up Hb5.out HW.out.1) (Hg.out.up Hb5.out hz05) (Hf.out.up Hb5.out hz05) _ (fun w6 S6 v6 hb6 hsl6 hl6 hL6 => ?_)
 have elv : setL S6 = lv := by
  rw [Hlv.out];refine qm9 hl6 fun r hr => (hL6 r hr).trans ?_;rw [HC.out.hL];exact ⟨fun h => ⟨r, rfl, h⟩, fun ⟨r', e, h⟩ => by rw [show r = r' by omega]; exact h⟩
 rw [elv] at hsl6;have hz6 := hb6.size
 obtain ⟨K, hPB, hbs, ha1, ha3, ha4, ha5, ha6, ha8, hblk⟩ : ∃ K : PiK, K.PB = wy.heap.size ∧ K.base = w6.heap.size ∧ K.a1 = .int .i64 f.params ∧ K.a3 = .slice bA f.blocks.length bc ∧ K.a4 = .slice pA pl.length pc ∧ K.a5 = .int .i64 s ∧ K.a6 = .slice sA S.length sc ∧ K.a8 = .slice none 0 0 ∧ w6.heap[K.PB]? = some (.cells #[K.a0, K.a1, K.a2, K.a3, K.a4, K.a5, K.a6, .slice none 0 0, K.a8] 58 (0, 0)) :=
  ⟨⟨wy.heap.size, w6.heap.size, .string f.name, .int .i64 f.params, .int .i64 f.regs, .slice bA f.blocks.length bc, .slice pA pl.length pc, .int .i64 s, .slice sA S.length sc, .slice none 0 0, by have := Hz5.out; omega⟩, rfl, rfl, rfl, rfl, rfl, rfl, rfl, rfl, (hb6.block _ (by have := Hz5.out; show wy.heap.size < _; omega)).trans HP5.out⟩
 have hPS : PiS K [] (.slice none 0 0) w6 := ⟨hblk, World.ownsRow_nil _ _ _ _, by rw [hbs]; exact Nat.le_refl _⟩;have hb56 : Below wy.heap.size W5 w6 := hb6.mono (by have := Hz5.out; omega);have hPP : PiP K pl w6 := ⟨by rw [hPB, ha4]; exact Hpl5.out.mono fun p u hp hc => (hb56.cell hp).trans hc, fun p hp => by have := Hsm.out p hp; omega⟩;have hPF : PiF K s S w6 := ⟨ha5, by rw [hPB, ha6]; exact HS5.out.mono fun p u hp hc => (hb56.cell hp).trans hc, Hft.out.spills.1, by have := Hft.out.spills.2; omega, Hft.out.len⟩
 have hlvl : rpInt.SLF w6 (K.PB + 1) K.base lv v6 := by
  rw [hPB, hbs, <- Hz5.out];exact hsl6
 have hlvi : ∀ r ∈ lv, 0 ≤ r ∧ r < (pl.length : Int) := fun r hr => by
  rw [Hlv.out] at hr;rw [Hln.out];exact (mem_rowX.1 hr).1
 have hlvn : lv.length ≤ 100 ∧ pl.length ≤ 100 := by
  have h1 := Hfn.out.regs.2;have h2 := HC.out.regs;have h3 := q5c (L 0 0) n;rw [<- Hlv.out] at h3;have h4 := Hln.out;omega
 obtain ⟨HPS, HPP, HPF, Hlvl, Hlvi, HPB, Hbs, Ha1, Ha3, Ha8⟩ := lh10 hPS hPP hPF hlvl hlvi hPB hbs ha1 ha3 ha8;have Hb6 := btt Hb5 hb6 hz05;have HU6 := bkk hb6 HU5;have HF6 := bkk hb6 HF5;have HPlt : Hid (w.heap.size + 1 < K.PB) := lh (by rw [hPB]; exact HFlt.out);have Hbk6 : Hid (rpBlk.SL w6 K.PB f.blocks (.slice bA f.blocks.length bc)) := lh (by rw [hPB]; exact Hbk5.out.mono fun p u hp hc => (hb56.cell hp).trans hc);rw [<- hPB];clear hPS hPP hPF hlvl hlvi hPB hbs ha1 ha3 ha4 ha5 ha6 ha8 hblk hb56 hsl6 hb6 hl6 hL6 elv u0 u1 lU hz6
 go_wp2_with fail
 refine qdl K pl s S f.params lv v6 _ HPS.out HPP.out HPF.out Ha1.out Hlvl.out Hlvi.out hlvn Hliv.out _ (fun w7 v7 hs7 hg7 => ?_);obtain ⟨pre, hpre⟩ : ∃ l, l = preL pl s S f.params lv := ⟨_, rfl⟩;rw [<- hpre] at hs7
 have hpl2 : pre.length ≤ 2000 := by
  rw [hpre];unfold preL;rw [List.length_append, List.length_append, q1e];have h1 := Hft.out.len;have h2 := qbj pl f.params lv;have h3 := q88 pl f.params lv;have h4 := q8u (begMv pl f.params lv);have h5 := q4t (begMv pl f.params lv);omega
 have h6a : ∀ b ∈ f.blocks, ∀ x ∈ b.list, InsP pl x ∧ x.args.length ≤ 6 := fun b hb x hx => insP HC.out.ok Hln.out (by have := Hfn.out.ins b hb x hx; rwa [HC.out.regs] at this);have Hip := lh h6a
 have Hlen : Hid (∀ i, i ≤ f.blocks.length -> (pre ++ blksL pl s S f.blocks i).length ≤ 8000) := lh fun i hi => by
  have h1 := q89 (pl := pl) (s := s) (S := S) Hft.out.len (fun b hb x hx => (h6a b hb x hx).2) i hi;have h2 := qnr (bs := f.blocks) i;have h3 := Ht.out;have h4 := Hfn.out.blocks.2;rw [List.length_append];omega
 have HPre := lh hpre
 have hPL : PiL K pre [] w6 w7 v7 (.slice none 0 0) := ⟨by
  have : K.w8 (.slice none 0 0) = K := by
   have h8 := Ha8.out
   cases K
   subst h8;rfl
  rw [this];exact hs7, World.ownsRow_nil _ _ _ _, (fun k e => by cases e), hg7.below HPS.out (Nat.le_refl _)⟩
 have HPL := lh hPL;have Hpp := lh HPP.out;obtain ⟨k0, k1, k2, k3, k4, k5, k6, k7, k8⟩ := q0x hs7.blk;rw [Ha3.out] at k3;have lP7 := qa hs7.blk;clear hs7 hg7 hpre hPL h6a hpl2 k0 k1 k2 k4 k5 k6 k7 k8;have hnb := Hfn.out.blocks
 have HpS : Hid (∀ W v, Below K.PB w6 W -> PiP (K.w8 v) pl W ∧ PiF (K.w8 v) s S W) := lh fun W v hW => by
  have h1 := HPP.out.below hW;have h2 := HPF.out.below hW;exact ⟨⟨h1.at_, h1.small⟩, ⟨h2.a5, h2.at_, h2.s0, h2.s1, h2.few⟩⟩
 go_wp2
 go_loopg [50] f.blocks.length (fun gh s50 wr => ∃ (i : Nat) (vc v8 : Value), i ≤ f.blocks.length ∧ gh = f.blocks.length - i ∧ s50 = .int .i64 (i : Int) ∧ Hid (PiL K (pre ++ blksL pl s S f.blocks i) (begsL pre pl s S f.blocks i) w6 wr vc v8))
 case atStart => exact ⟨0, v7, .slice none 0 0, Nat.zero_le _, rfl, rfl, lh (by rw [show blksL pl s S f.blocks 0 = [] from rfl, List.append_nil]; exact HPL.out)⟩
 case round =>
  clear HPL k3 lP7;obtain ⟨i, vc, v8, hi, rfl, rfl, HL⟩ := hrel;have i0' : (0 : Int) ≤ (i : Int) := Int.natCast_nonneg _;have hcl := Hlen.out i hi
  by_cases hlt' : i < f.blocks.length
  ·have i1 : (i : Int) < (f.blocks.length : Int) := Int.ofNat_lt.2 hlt';obtain ⟨bb, ob, vp, vl, vt, hbA, hbb, hph, hls, hto, c0, c1, c2, c3, c4, c5⟩ := Hbk6.out.blk_at hlt';subst hbA;have hbe := HL.out.be;have c0 := (hbe.cell (p := ⟨bb, ob + i * 6, none⟩) hbb).trans c0;have c1 := (hbe.cell (p := ⟨bb, ob + i * 6 + 1, none⟩) hbb).trans c1;have c2 := (hbe.cell (p := ⟨bb, ob + i * 6 + 2, none⟩) hbb).trans c2;have c3 := (hbe.cell (p := ⟨bb, ob + i * 6 + 3, none⟩) hbb).trans c3;have c4 := (hbe.cell (p := ⟨bb, ob + i * 6 + 4, none⟩) hbb).trans c4;have c5 := (hbe.cell (p := ⟨bb, ob + i * 6 + 5, none⟩) hbb).trans c5;clear hbe;have hbm := List.getElem_mem hlt';obtain ⟨B, hB⟩ : ∃ B, B = f.blocks[i] := ⟨_, rfl⟩;rw [<- hB] at hph hls hto c2 c3 c4 hbm;obtain ⟨pA1, pc1, rfl, _, _, hph⟩ := hph.cases_;obtain ⟨lA1, lc1, rfl, _, _, hls⟩ := hls.cases_;obtain ⟨tA1, tc1, rfl, _, _, hto⟩ := hto.cases_;have Hst : Hid (blksL pl s S f.blocks (i + 1) = blksL pl s S f.blocks i ++ blkL pl s S B i) := lh (by rw [hB]; exact q37 hlt');obtain ⟨code, hcode⟩ : ∃ l, l = pre ++ blksL pl s S f.blocks i := ⟨_, rfl⟩;have Hbg : Hid (begsL pre pl s S f.blocks (i + 1) = begsL pre pl s S f.blocks i ++ [(code.length : Int)]) := lh (by rw [hcode]; exact qga _ _ _ _ _ _);obtain ⟨bg, hbg⟩ : ∃ l, l = begsL pre pl s S f.blocks i := ⟨_, rfl⟩;have hbl : bg.length ≤ 40 := by rw [hbg, qbk]; omega
   rw [<- hcode, <- hbg] at HL;rw [<- hcode] at hcl;rw [<- hbg] at Hbg;have Hcode := lh hcode;have lPr : K.PB < wr.heap.size := qa HL.out.st.blk;have lbb : bb < wr.heap.size := by omega
   obtain ⟨W8, hW8, hb8, hX8⟩ := box1 wr (.cells #[.slice pA1 B.phis.length pc1, .slice lA1 B.list.length lc1, .int .i64 B.end_.kind, .bool B.end_.on.reg, .int .i64 B.end_.on.n, .slice tA1 B.end_.to.length tc1] 68) rfl;have HW8 := lh hW8.symm;have HL8 := lh (HL.out.below hb8);have HX8 := lh hX8;have HXa : Hid (wr.heap.size ≠ K.PB ∧ vc.ownBlock ≠ some wr.heap.size ∧ v8.ownBlock ≠ some wr.heap.size) := lh ⟨by omega, HL.out.st.apart (Nat.le_refl _), fun e => by have := (HL.out.bo.lt _ e).2; omega⟩;obtain ⟨cA, cc, rfl⟩ := qj HL.out.st.own;obtain ⟨gA8, gc8, rfl⟩ := qj HL.out.bo;have Hls : Hid (∀ W, Below K.PB w6 W -> rpIns.SL W K.PB B.list (.slice lA1 B.list.length lc1)) := lh fun W hW => hls.mono fun p u hp hc => (hW.cell hp).trans hc;have Hto : Hid (∀ W, Below K.PB w6 W -> rpInt.SL W K.PB B.end_.to (.slice tA1 B.end_.to.length tc1)) := lh fun W hW => hto.mono fun p u hp hc => (hW.cell hp).trans hc;have Hbm := lh hbm;clear hW8 hb8 hX8 hB hcode hph hls hto hbm hbg
   go_upto_region 9 with fail
   rw [HW8.out];obtain ⟨k0, k1, k2, k3, k4, k5, k6, k7, k8⟩ := q0x HL8.out.st.blk;have k8 : W8.cell? ⟨K.PB, 8, none⟩ = some (.slice gA8 bg.length gc8) := k8;have k7 : W8.cell? ⟨K.PB, 7, none⟩ = some (.slice cA code.length cc) := k7;have lP8 : K.PB < W8.heap.size := qa HL8.out.st.blk;have hbs8 : K.base ≤ W8.heap.size := HL8.out.st.base;have hKlt := K.hlt;clear k0 k1 k2 k3 k4 k5 k6 c0 c1 c2 c3 c4 c5;obtain ⟨X, hX⟩ := nmm (wr.heap.size);have HXe := lh hX;rw [<- hX] at HX8 HXa;have lX8 : X < W8.heap.size := qa HX8.out;clear hX
   go_cut [] (fun wx => ∃ v9 : Value, Hid (PiL K code (bg ++ [(code.length : Int)]) w6 wx (.slice cA code.length cc) v9) ∧ Hid (wx.heap[X]? = some (.cells #[.slice pA1 B.phis.length pc1, .slice lA1 B.list.length lc1, .int .i64 B.end_.kind, .bool B.end_.on.reg, .int .i64 B.end_.on.n, .slice tA1 B.end_.to.length tc1] 68 (0, 0))))
   case first =>
    go_region_law ((refine step_append_lies _ rfl (.tmp 59) (.tmp 65) 26 rfl K.base 3 i9 _ 1 8 Tryz.underlying26 hi9 hy0 hy1 hy2 rfl (by decide) (.slice gA8 bg.length gc8) bg.length (bg.flatMap qh) (by simp [Act.eval, Act.put]) (q0d HL8.out.bo (by exact bl0)) ⟨W8.heap.size, 0, none⟩ 1 1 [.int .i64 (code.length : Int)] (by simp [Act.eval, Act.put]) rfl (World.news_of_block (cs := #[.int .i64 (code.length : Int)]) (t := 3) (fr := (0, 0)) (by exact heap_alloc_new W8 _)) (by simp [Value.oneCell']) (by decide) (by unfold maxLen; omega) (by omega) (by simp; omega) _ rfl ?_; intro g1 cap1 w1 hown1 hgrow1 hat1 hlt1; have hL9 := (HL8.out.below (by exact bl0)).put8 (bg' := bg ++ [(code.length : Int)]) hgrow1 (by rw [List.length_append, List.flatMap_append]; exact hown1) (fun k e => by
     have e1 : g1 = k := by injection e
     rcases hat1 with h9 | h9
     ·exact .inl (by rw [h9, e1])
     ·refine .inr ?_;rw [<- e1, h9]
      first | exact Nat.le_refl _ | (simp; done) | (simp; omega)); have hP1 := (hgrow1.block K.PB (by simp; omega) (fun e => by have h9 : K.base ≤ K.PB := (HL8.out.bo.lt _ e.symm).1; omega)).trans ((Below.block (by exact bl0 : Below W8.heap.size W8 _) _ lP8).trans HL8.out.st.blk); have f8 : w1.frozen? ⟨K.PB, 8, none⟩ = false := (by simp [World.frozen?, hP1]); have c8 : w1.cell? ⟨K.PB, 8, none⟩ = some (.slice gA8 bg.length gc8) := (by rw [qb hP1]; rfl); have l8 := qa hP1))
    all_goals
     have hX9 := (Below.heap_setCell w1 ⟨K.PB, 8, none⟩ (.slice (some ⟨g1, 0, none⟩) (bg.length + 1) cap1) X (fun e => HXa.out.1 e)).trans ((hgrow1.block X (by simp; omega) (fun e => HXa.out.2.2 e.symm)).trans ((Below.block (by exact bl0 : Below W8.heap.size W8 _) _ lX8).trans HX8.out));obtain ⟨HL9, HX9⟩ := lh2 hL9 hX9;clear hL9 hX9 hP1 hown1 hgrow1 hat1;go_wp2;go_meet;exact ⟨_, HL9, HX9⟩
   case rest =>
   obtain ⟨v9, HL9, HX9⟩ := hcut;rename World => W9;rw [<- HXe.out];have HvX : Hid ((Value.slice cA code.length cc).ownBlock ≠ some X) := lh HXa.out.2.1;have hXP := HXa.out.1;obtain ⟨xp, hxp⟩ : ∃ v, v = Value.slice cA code.length cc := ⟨_, rfl⟩;rw [<- hxp] at HL9 HvX;obtain ⟨c0, c1, c2, c3, c4, c5⟩ := q9l HX9.out;have lX9 := qa HX9.out;clear HXe HXa HX8 lX8 HL8 HL HW8 hxp k7 k8 lP8 hbs8 lPr lbb;go_wp2;clear c0 c1 c2 c3 c4 c5 lX9
   go_loopg [72] B.list.length (fun gh s72 wq => ∃ (k : Nat) (vq : Value), k ≤ B.list.length ∧ gh = B.list.length - k ∧ s72 = .int .i64 (k : Int) ∧ Hid (PiL K (code ++ (B.list.take k).flatMap (insL pl)) (bg ++ [(code.length : Int)]) w6 wq vq v9) ∧ Hid (wq.heap[X]? = some (.cells #[.slice pA1 B.phis.length pc1, .slice lA1 B.list.length lc1, .int .i64 B.end_.kind, .bool B.end_.on.reg, .int .i64 B.end_.on.n, .slice tA1 B.end_.to.length tc1] 68 (0, 0))) ∧ Hid (vq.ownBlock ≠ some X))
   case atStart => exact ⟨0, xp, Nat.zero_le _, rfl, rfl, lh (by simpa using HL9.out), HX9, HvX⟩
   case round =>
    clear HL9 HX9 HvX;obtain ⟨k, vq, hk, rfl, rfl, HLq, HXq, HvX⟩ := hrel;have k0' : (0 : Int) ≤ (k : Int) := Int.natCast_nonneg _
    have hfl : (code ++ (B.list.take k).flatMap (insL pl)).length ≤ 20000 := by
     have h1 := q8h (f := insL pl) (c := 15) (l := B.list.take k) (fun x hx => qfj pl x (Hip.out B Hbm.out x (List.mem_of_mem_take hx)).2)
     have h2 : B.list.length ≤ 300 := by
      have h3 := Ht.out;have h4 := qfw Hbm.out;omega
     rw [List.length_take] at h1;rw [List.length_append];omega
    have lPq : K.PB < wr.heap.size := qa HLq.out.st.blk
    by_cases hlt2 : k < B.list.length
    ·have k1' : (k : Int) < (B.list.length : Int) := Int.ofNat_lt.2 hlt2;obtain ⟨bi, oi, va, hlA, hbi, hva, d0, d1, d2, d3, d4, d5, d6, d7⟩ := (Hls.out wr HLq.out.be).ins_at hlt2;subst hlA;have hxm := List.getElem_mem hlt2;obtain ⟨x, hx⟩ : ∃ x, x = B.list[k] := ⟨_, rfl⟩;rw [<- hx] at hva d0 d1 d2 d3 d4 d5 d6 hxm;obtain ⟨aA1, ac1, rfl, _, _, hva⟩ := hva.cases_;have Hsk : Hid ((B.list.take (k + 1)).flatMap (insL pl) = (B.list.take k).flatMap (insL pl) ++ insL pl x) := lh (by rw [List.take_succ_eq_append_getElem hlt2, List.flatMap_append, hx]; simp);have HI := lh (Hip.out B Hbm.out x hxm).1;obtain ⟨W2, hW2, hb2, hX2⟩ := box1 wr (.cells #[.int .i64 x.op, .int .i64 x.dst, .bool x.a.reg, .int .i64 x.a.n, .bool x.b.reg, .int .i64 x.b.n, .int .i64 x.fn, .slice aA1 x.args.length ac1] 71) rfl;have HW2 := lh hW2.symm;have HL2 := lh (HLq.out.below hb2);have HX2 := bkk hb2 HXq;have hbi2 : bi < wr.heap.size := by omega
     have HLr : Hid (∀ w' v', PiS (K.w8 v9) (code ++ (B.list.take k).flatMap (insL pl) ++ insL pl x) v' w' -> PiG (K.w8 v9) W2 vq w' v' -> PiL K (code ++ (B.list.take (k + 1)).flatMap (insL pl)) (bg ++ [(code.length : Int)]) w6 w' v' v9 ∧ w'.heap[X]? = W2.heap[X]? ∧ v'.ownBlock ≠ some X) := lh fun w' v' hs hg => by
      have lX := qa HX2.out;refine ⟨HL2.out.step ?_ hg, hg.keep lX hXP HvX.out, hg.apart lX HvX.out⟩;rw [Hsk.out, <- List.append_assoc];exact hs
     have Hin : Hid (∀ R : Ending -> World -> Prop, (∀ w' v', PiS (K.w8 v9) (code ++ (B.list.take k).flatMap (insL pl) ++ insL pl x) v' w' -> PiG (K.w8 v9) W2 vq w' v' -> R (.returned (.tuple #[])) w') -> Calls Tryz.prog 28 #[.pointer (some ⟨K.PB, 0, none⟩), .agg #[.int .i64 x.op, .int .i64 x.dst, .bool x.a.reg, .int .i64 x.a.n, .bool x.b.reg, .int .i64 x.b.n, .int .i64 x.fn, .slice aA1 x.args.length ac1]] W2 R) := lh fun R hR =>
      qg3 (K.w8 v9) _ vq pl x _ W2 HL2.out.st (HpS.out W2 v9 HL2.out.be).1 HI.out (hva.mono fun p u hp hc => (hb2.cell (Nat.lt_trans hp lPq)).trans hc) (by omega) R hR
     clear hW2 hb2 hva hxm hx
     go_upto_region 13 with fail
     rw [HW2.out];obtain ⟨x0, x1, x2, x3, x4, x5, x6, x7⟩ := qe hX2;have lY := qa hX2;clear d0 d1 d2 d3 d4 d5 d6 d7 hX2
     go_wp2_with fail
     refine Hin.out _ (fun w5 v5 hs5 hg5 => ?_);obtain ⟨hl5, hx5, hv5⟩ := HLr.out w5 v5 hs5 hg5;have HL5 := lh hl5;have HX5 := lh (hx5.trans HX2.out);have Hv5 := lh hv5;clear hl5 hx5 hv5 hs5 hg5 x0 x1 x2 x3 x4 x5 x6 x7 lY Hin HLr;go_wp2
     go_roundg (B.list.length - (k + 1))
     case measure => omega
     case rel => exact ⟨k + 1, v5, hlt2, rfl, by go_num, HL5, HX5, Hv5⟩
    ·obtain rfl : k = B.list.length := by omega
     have k1' : ¬ (B.list.length : Int) < (B.list.length : Int) := by omega
     rw [List.take_length] at HLq hfl;obtain ⟨c0, c1, c2, c3, c4, c5⟩ := q9l HXq.out;have lXq := qa HXq.out
     have he : EndOk (pl.length : Int) f.blocks.length B.end_ := by
      have := endOk HC.out.ok HC.out.fn B Hbm.out;rw [HC.out.regs] at this;rw [Hln.out];exact this
     have ew : IntKind.i64.wrap ((i : Int) + 1) = (i : Int) + 1 := IntWalk.i64_in _ (by omega)
     have HLr : Hid (∀ w' v', PiS (K.w8 v9) (code ++ B.list.flatMap (insL pl) ++ endL pl s S B.end_ ((i : Int) + 1)) v' w' -> PiG (K.w8 v9) wr vq w' v' -> PiL K (pre ++ blksL pl s S f.blocks (i + 1)) (begsL pre pl s S f.blocks (i + 1)) w6 w' v' v9) := lh fun w' v' hs hg => by
      have := HLq.out.step hs hg;rw [Hst.out, Hbg.out];unfold blkL;rw [<- List.append_assoc, <- Hcode.out, <- List.append_assoc];exact this
     have Hin : Hid (∀ R : Ending -> World -> Prop, (∀ w' v', PiS (K.w8 v9) (code ++ B.list.flatMap (insL pl) ++ endL pl s S B.end_ ((i : Int) + 1)) v' w' -> PiG (K.w8 v9) wr vq w' v' -> R (.returned (.tuple #[])) w') -> Calls Tryz.prog 29 #[.pointer (some ⟨K.PB, 0, none⟩), .agg #[.int .i64 B.end_.kind, .bool B.end_.on.reg, .int .i64 B.end_.on.n, .slice tA1 B.end_.to.length tc1], .int .i64 ((i : Int) + 1)] wr R) := lh fun R hR =>
      qg1 (K.w8 v9) _ vq pl s S B.end_ _ _ wr HLq.out.st (HpS.out wr v9 HLq.out.be).1 (HpS.out wr v9 HLq.out.be).2 (Hto.out wr HLq.out.be) he (by omega) R hR
     go_wp2_with fail
     refine Hin.out _ (fun w5 v5 hs5 hg5 => ?_);have HL5 := lh (HLr.out w5 v5 hs5 hg5);clear hs5 hg5 c0 c1 c2 c3 c4 c5 lXq Hin HLr;go_wp2
     go_roundg (f.blocks.length - (i + 1))
     case measure => omega
     case rel => exact ⟨i + 1, v5, v9, hlt', rfl, by go_num, HL5⟩
  ·obtain rfl : i = f.blocks.length := by omega
   have i1 : ¬ (f.blocks.length : Int) < (f.blocks.length : Int) := by omega
   obtain ⟨C0, hC0⟩ : ∃ l, l = pre ++ blksL pl s S f.blocks f.blocks.length := ⟨_, rfl⟩;obtain ⟨bg, hbg⟩ : ∃ l, l = begsL pre pl s S f.blocks f.blocks.length := ⟨_, rfl⟩;have hbl : bg.length = f.blocks.length := by rw [hbg, qbk]
   rw [<- hC0, <- hbg] at HL;rw [<- hC0] at hcl
   have hj : ∀ m ∈ C0, isJ m = true -> 0 ≤ m.n ∧ m.n < (bg.length : Int) := fun m hm hj => by
    rw [hbl];rw [hC0] at hm
    rcases List.mem_append.1 hm with h1 | h1
    ·rw [HPre.out] at h1;rw [qm2 _ _ _ _ _ m h1] at hj
     cases hj
    ·exact qet (u := u) (endOk HC.out.ok HC.out.fn) Hfn.out.ins _ (Nat.le_refl _) m h1 hj
   have hxs : pickL pl s S f.params lv f.blocks = C0.map (fixM bg) := by
    unfold pickL;rw [<- HPre.out, hC0, hbg]
   rw [hxs] at HR
   have hC1 : 0 < C0.length := by
    rw [hC0, List.length_append];have h0 : 0 < f.blocks.length := by omega
    obtain ⟨q, hq⟩ : ∃ q, f.blocks.length = q + 1 := ⟨f.blocks.length - 1, by omega⟩;have hqb : q < f.blocks.length := by omega
    have he := endOk HC.out.ok HC.out.fn _ (List.getElem_mem hqb);rw [hq, q37 hqb, List.length_append];unfold blkL;rw [List.length_append, show ((q : Int) + 1) = (f.blocks.length : Int) from by omega];obtain ⟨el, z, hel, _⟩ := qbs (pl := pl) (s := s) (S := S) he;rw [hel, List.length_append, List.length_singleton];omega
   have Hj := lh hj;obtain ⟨g, cap, rfl, hg1, hg2, hg3, hg4⟩ := q3v HL.out.st.own hC1;obtain ⟨N, hN⟩ := nmm (C0.length);rw [<- hN] at HL hcl hC1 hg3;have HE : Hid (PiE K (fixTo bg C0 0) bg w6 wr g N cap v8) := lh ⟨by rw [qgi]; exact HL.out, by rw [q8f]; exact hN.symm⟩;have HN := lh hN;obtain ⟨g8, cap8, rfl, hh1, hh2, hh3, hh4⟩ := q3v HL.out.bo (by omega);have Hbl := lh hbl;clear hC0 hbg hxs hj hN HL hbl hh1 hh3 hh4 hg4 Hbk6 HpS Hip Hlen;obtain ⟨WJ, hWJ, hbJ, hJ⟩ := box1 wr (.cells #[.int .i64 37, .int .i64 38, .int .i64 39] 3) rfl;have HWJ := lh hWJ.symm;have HEJ := lh (HE.out.below hbJ);clear hWJ hbJ HE;obtain ⟨J, hJe⟩ := nmm (wr.heap.size);have HJe := lh hJe;rw [<- hJe] at hJ;have HJ := lh hJ;have HJg : Hid (J ≠ g ∧ J ≠ K.PB) := lh ⟨by omega, by have := K.hlt; have h1 : K.base ≤ g := hg1; omega⟩;clear hJ hJe hg1 hg2 hh2
   go_upto_region 18 with fail
   rw [HWJ.out, <- HJe.out];clear HWJ HJe;obtain ⟨k0, k1, k2, k3, k4, k5, k6, k7, k8⟩ := q0x HEJ.out.pl.st.blk;have k7 : WJ.cell? ⟨K.PB, 7, none⟩ = some (.slice (some ⟨g, 0, none⟩) N cap) := k7;have lPJ : K.PB < WJ.heap.size := qa HEJ.out.pl.st.blk;clear k0 k1 k2 k3 k4 k5 k6 k8;go_wp2;clear k7 lPJ
   go_loopg [93] N (fun gh s93 wq => ∃ i : Nat, i ≤ N ∧ gh = N - i ∧ s93 = .int .i64 (i : Int) ∧ Hid (PiE K (fixTo bg C0 i) bg w6 wq g N cap (.slice (some ⟨g8, 0, none⟩) bg.length cap8)) ∧ Hid (wq.heap[J]? = some (.cells #[.int .i64 37, .int .i64 38, .int .i64 39] 3 (0, 0))))
   case atStart => exact ⟨0, Nat.zero_le _, rfl, rfl, HEJ, HJ⟩
   case round =>
    clear HEJ HJ;obtain ⟨i, hi, rfl, rfl, HE, HJ⟩ := hrel;have i0' : (0 : Int) ≤ (i : Int) := Int.natCast_nonneg _;obtain ⟨k0, k1, k2, k3, k4, k5, k6, k7, k8⟩ := q0x HE.out.pl.st.blk;have k7 : wr.cell? ⟨K.PB, 7, none⟩ = some (.slice (some ⟨g, 0, none⟩) N cap) := k7;have k8 : wr.cell? ⟨K.PB, 8, none⟩ = some (.slice (some ⟨g8, 0, none⟩) bg.length cap8) := k8;have lP : K.PB < wr.heap.size := qa HE.out.pl.st.blk;clear k0 k1 k2 k3 k4 k5 k6
    by_cases hlt' : i < N
    ·have i1 : (i : Int) < (N : Int) := Int.ofNat_lt.2 hlt';have hlc : i < C0.length := by have := HN.out; omega
     have hlf : i < (fixTo bg C0 i).length := by rw [q8f]; exact hlc
     obtain ⟨m0, m4, mf, lg⟩ := HE.out.at_ hlf
     have eat : (fixTo bg C0 i)[i] = C0[i] := by
      have := qai (B := bg) hlc;rw [List.getElem?_eq_getElem hlf] at this;exact Option.some.inj this
     rw [eat] at m0 m4;have hjm := Hj.out _ (List.getElem_mem hlc);obtain ⟨m, hm⟩ : ∃ m, m = C0[i] := ⟨_, rfl⟩;rw [<- hm] at m0 m4 hjm;have Hno : Hid (isJ m = false -> fixTo bg C0 (i + 1) = fixTo bg C0 i) := lh fun h => qle hlc (by rw [<- hm]; exact h);have Hyes : Hid (isJ m = true -> fixTo bg C0 (i + 1) = putN (fixTo bg C0 i) i (bg.getD m.n.toNat 0)) := lh fun h => by rw [hm]; exact qif hlc (by rw [<- hm]; exact h)
     have hJl := qa HJ.out
     have Hcon := fun R hR => q97 (.slice (some ⟨J, 0, none⟩) 3 3) [37, 38, 39] m.op wr ((show IntAt J [37, 38, 39] wr from ⟨_, HJ.out, fun k hk => by
      have hk' : k < 3 := hk
      rcases (show k = 0 ∨ k = 1 ∨ k = 2 by omega) with rfl | rfl | rfl <;> rfl⟩).SLn ⟨by decide, by decide⟩) R hR
     rw [qj0 m.op m rfl] at Hcon;have Hcon := lh Hcon;clear eat hm hlc hlf hJl
     cases hjj : isJ m with
     | false =>
       rw [hjj] at Hcon
       go_wp2_with fail
       refine Hcon.out _ ?_;go_wp2
       go_roundg (N - (i + 1))
       case measure => omega
       case rel => exact ⟨i + 1, hlt', rfl, by go_num, by rw [Hno.out hjj]; exact HE, HJ⟩
     | true =>
       rw [hjj] at Hcon;obtain ⟨n0, n1⟩ := hjm hjj;obtain ⟨t, ht⟩ : ∃ t : Nat, m.n = (t : Int) := ⟨m.n.toNat, by omega⟩;have htl : t < bg.length := by omega
       have hb8 := (q4u HE.out.pl.bo).1.cell htl;have lg8 := (q4u HE.out.pl.bo).1.lt;have eb : bg.getD m.n.toNat 0 = iAt bg t := by rw [ht, Int.toNat_natCast]; rfl
       obtain ⟨q, hq⟩ := nmm (iAt bg t);rw [<- hq] at hb8 eb;rw [ht] at m4 n0 n1
       have HE2 : Hid (PiE K (fixTo bg C0 (i + 1)) bg w6 (wr.setCell ⟨g, i * 5 + 4, none⟩ (.int .i64 q)) g N cap (.slice (some ⟨g8, 0, none⟩) bg.length cap8)) := lh (by
        rw [Hyes.out hjj, eb];exact HE.out.put hlt' q)
       have HJ2 : Hid ((wr.setCell ⟨g, i * 5 + 4, none⟩ (.int .i64 q)).heap[J]? = some (.cells #[.int .i64 37, .int .i64 38, .int .i64 39] 3 (0, 0))) := lh ((Below.heap_setCell wr ⟨g, i * 5 + 4, none⟩ (.int .i64 q) J HJg.out.1).trans HJ.out);clear ht eb hq hjj hjm Hno Hyes
       go_wp2_with fail
       refine Hcon.out _ ?_
       go_upto_region 23 with fail
       go_region
       go_wp2
       go_roundg (N - (i + 1))
       case measure => omega
       case rel => exact ⟨i + 1, hlt', rfl, by go_num, lh (HE2.out.below (by exact bl0)), lh ((Below.block (by exact bl0) _ (qa HJ2.out)).trans HJ2.out)⟩
    ·obtain rfl : i = N := by omega
     have i2 : ¬ (i : Int) < (i : Int) := by omega
     have hF : wr.heap[w.heap.size + 1]? = some (.cells #[.int .i64 0, .int .i64 0] 30 (0, 0)) := (HE.out.pl.be.block _ HPlt.out).trans HF6.out;obtain ⟨f0, f1, lF⟩ := cbl hF;have y0 := fzz hF 0;have y1 := fzz hF 1;have hbe : Below w.heap.size w wr := Hb6.out.trans (HE.out.pl.be.mono (by have := HPlt.out; omega));have hbz := q02 hbe [(⟨w.heap.size + 1, 0, none⟩, .int .i64 0), (⟨w.heap.size + 1, 1, none⟩, .int .i64 0)] (by simp);have ho := HE.out.pl.st.own;rw [HE.out.len] at ho;have efx : fixTo bg C0 i = C0.map (fixM bg) := by rw [HN.out]; exact qie _ _
     rw [efx] at ho;have hgw : K.base ≤ g := (ho.lt g rfl).1;have hbw : w.heap.size ≤ K.base := by have := K.hlt; have := HPlt.out; omega
     have hng : (Value.slice (some ⟨g, 0, none⟩) i cap).ownBlock ≠ some (w.heap.size + 1) := fun e => by
      have e1 : g = w.heap.size + 1 := by injection e
      have := K.hlt;have := HPlt.out;omega
     have ho2 := q1y (ql (ql ho (p := ⟨w.heap.size + 1, 0, none⟩) hng (.int .i64 0)) (p := ⟨w.heap.size + 1, 1, none⟩) hng (.int .i64 0)) hbw;have hlen2 : (C0.map (fixM bg)).length = i := by rw [List.length_map]; exact HN.out.symm
     have HF := lh (HR.out _ _ hbz (by rw [hlen2]; exact ho2));clear hbe hbz ho ho2 efx hgw hbw hng hF hlen2 HE HJ;go_wp2;refine bodyPost_ret (v := .tuple #[.slice (some ⟨g, 0, none⟩) i cap, (.agg #[.int .i64 (((0 : Int), (0 : Int))).1, .int .i64 (((0 : Int), (0 : Int))).2])]) (by simp [results, Tryz.results13, go_sem, f0, f1, lF]) rfl ?_;exact HF.out
theorem qg2 {u : Unt} (hu : UntI u) {k many c a : Int} (h : ColIs u k many [] (c, a)) (hc : ¬ c = 0) (gA fA : Option Addr) (gn gc fn fc : Nat) (w : World) (hW : Ways w) (hg : rpGlobal.SL w w.heap.size u.globals (.slice gA gn gc)) (hf : rpFun.SL w w.heap.size u.funcs (.slice fA fn fc)) (R : Ending -> World -> Prop)
 (hR : ∀ w', Below w.heap.size w w' -> R (.returned (.tuple #[.slice none 0 0, (.agg #[.int .i64 ((c, a)).1, .int .i64 ((c, a)).2])])) w') :
 Calls Tryz.prog 13 #[.agg #[.slice gA gn gc, .slice fA fn fc], .int .i64 k, .int .i64 many] w R := by
 obtain ⟨HR, Hg, Hf, HW, HC⟩ := lh5 hR hg hf hW h;clear hR hg hf hW h
 go_enter Tryz.func13, Tryz.ntmps13
 go_upto_region 1 with fail
 obtain ⟨W2, hW2, hb2, hU2, hF2⟩ := box2 w (.cells #[.slice gA gn gc, .slice fA fn fc] 25) (.cells #[.int .i64 0, .int .i64 0] 30) rfl;rw [<- hW2];obtain ⟨Hb2, HF2⟩ := lh2 hb2 hF2;have hz2 := hb2.size;obtain ⟨u0, u1, lU⟩ := cbl hU2;clear hW2 hb2 hU2 hF2
 go_wp2_with fail
 refine q7y hu HC.out _ _ _ _ _ _ _ (HW.out.up Hb2.out HW.out.1) (Hg.out.up Hb2.out hz2) (Hf.out.up Hb2.out hz2) _ (fun w3 v3 hb3 hsl3 => ?_);obtain ⟨pA, pc, rfl, _, _, hsl3⟩ := hsl3.cases_;have Hb3 := btt Hb2 hb3 hz2;have HF3 := bkk hb3 HF2;have hz3 := Hb3.out.size;clear hb3 u0 u1 lU hsl3;obtain ⟨E, hE⟩ := nmm (w3.heap.size);obtain ⟨W4, hW4, hb34, hE4⟩ := box1 w3 (.cells #[.int .i64 c, .int .i64 a] 30) hE;have Hb4 := btt Hb3 hb34 hz3;have HF4 := bkk hb34 HF3;have HW4 := lh hW4.symm;have HEe := lh hE;have n3 : w.heap.size + 1 ≠ E := by have := qa HF3.out; omega
 have n4 : E ≠ w.heap.size + 1 := by omega
 obtain ⟨e0, e1, lE⟩ := cbl hE4;clear hW4 hb34 hE4 hE;obtain ⟨f0, f1, lF⟩ := cbl HF4.out;have y0 := fzz HF4.out 0;have y1 := fzz HF4.out 1
 go_upto_region 2 with fail
 rw [<- HEe.out, HW4.out];have Hbl := lh (q02 Hb4.out [(⟨w.heap.size + 1, 0, none⟩, .int .i64 c), (⟨w.heap.size + 1, 1, none⟩, .int .i64 a)] (by simp));go_wp2
 go_region
 go_wp2;refine bodyPost_ret (v := .tuple #[.slice none 0 0, (.agg #[.int .i64 ((c, a)).1, .int .i64 ((c, a)).2])]) (by simp [results, Tryz.results13, go_sem, f0, f1, lF]) rfl ?_;exact HR.out _ Hbl.out.drew
def qbg (u : Unt) : Prop := qo u = (0, 0) -> ∀ f ∈ u.funcs, totL f.blocks ≤ 300
theorem q77 {u : Unt} (hu : UntI u) (hT : qbg u) {k many : Int} {xs : List Mac} {fl : Int × Int} (h : PickIs u k many xs fl) (gA fA : Option Addr) (gn gc fn fc : Nat) (w : World) (hW : Ways w) (hg : rpGlobal.SL w w.heap.size u.globals (.slice gA gn gc)) (hf : rpFun.SL w w.heap.size u.funcs (.slice fA fn fc)) (R : Ending -> World -> Prop)
 (hR : ∀ w' v, Below w.heap.size w w' -> w'.ownsRow w.heap.size 45 5 v xs.length (xs.flatMap Mac.cells) -> R (.returned (.tuple #[v, (.agg #[.int .i64 (fl).1, .int .i64 (fl).2])])) w') :
 Calls Tryz.prog 13 #[.agg #[.slice gA gn gc, .slice fA fn fc], .int .i64 k, .int .i64 many] w R := by
 rcases h with ⟨h1, h2, rfl⟩ | ⟨j, f, n, C, A, L, rfl, h2, rfl, rfl⟩
 ·exact qg2 hu h1 h2 _ _ _ _ _ _ w hW hg hf R fun w' hb => hR w' _ hb (World.ownsRow_nil _ _ _ _)
 ·exact qdf hu h2 (hT h2.ok f (List.mem_of_getElem? h2.fn)) rfl _ _ _ _ _ _ w hW hg hf R fun w' v hb ho => hR w' v hb ho
def sureF : UFun := ⟨mainU, 0, 0, [⟨[], [], ⟨1, ⟨false, 7⟩, []⟩⟩]⟩
def sureU : Unt := ⟨[], [sureF]⟩
theorem qhf : q1l sureU 0 = (0, 0) := by decide +kernel
theorem qnp {xs : List Mac} {fl : Int × Int} (h : PickIs sureU 0 2 xs fl) : xs = [⟨1, 0, 0, 0, 7⟩, q1n] ∧ fl = (0, 0) := by
 rcases h with ⟨h1, h2, h3⟩ | ⟨j, f, n, C, A, L, h1, h2, h3, h4⟩
 ·exfalso
  rcases h1 with ⟨h4, _⟩ | ⟨_, h4, _⟩ | ⟨_, _, _, _, _, _, _, _, _, h4⟩
  ·exact h4 qhf
  ·exact h4 (by decide)
  ·rw [h4] at h2;exact h2 rfl
 ·have ej : j = 0 := by omega
  subst ej;have ef : sureF = f := Option.some.inj h2.fn;subst ef
  have en : n = 0 := by
   have := h2.regs;have e : sureF.regs = 0 := rfl;omega
  subst en;have ec : qy sureF 0 2 C A (L 0 0) = [] := List.eq_nil_of_length_eq_zero q3c;rw [ec] at h4;exact ⟨h4.trans (by rfl), h3⟩
theorem qmg : UntI sureU := ⟨fun g hg => (by cases hg), fun f hf => by
 obtain rfl : f = sureF := by simpa [sureU] using hf
 refine ⟨?_, by unfold I64; decide, by unfold I64; decide, fun b hb => ?_⟩
 ·show sureF.name.size ≤ maxLen
  decide
 ·obtain rfl : b = ⟨[], [], ⟨1, ⟨false, 7⟩, []⟩⟩ := by simpa [sureF] using hb
  exact ⟨fun p hp => (by cases hp), fun x hx => (by cases hx), by unfold I64; decide, by unfold ValI I64; decide, fun t ht => by cases ht⟩⟩
theorem qhg : qbg sureU := fun _ f hf => by
 obtain rfl : f = sureF := by simpa [sureU] using hf
 decide
theorem qkj {w : World} {p q : Nat} (hp : w.heap[p]? = some (.cells #[.slice none 0 0, .slice none 0 0, .int .i64 1, .bool false, .int .i64 7, .slice none 0 0] 68 (0, 0)))
 (hq : w.heap[q]? = some (.cells #[.string mainU, .int .i64 0, .int .i64 0, .slice (some ⟨p, 0, none⟩) 1 1] 56 (0, 0))) : rpFun.SL w w.heap.size sureU.funcs (.slice (some ⟨q, 0, none⟩) 1 1) := by
 refine ⟨_, _, rfl, by decide, Nat.le_refl _, fun _ => ⟨q, 0, rfl, qa hq, fun k x hk => ?_⟩⟩;have hk0 : k = 0 := by have := (List.getElem?_eq_some_iff.1 hk).1; simp [sureU] at this; exact this
 subst hk0;obtain rfl : sureF = x := Option.some.inj hk;refine ⟨[.string mainU, .int .i64 0, .int .i64 0, .slice (some ⟨p, 0, none⟩) 1 1], ⟨_, _, rfl, rfl, _, _, rfl, rfl, _, _, rfl, rfl, _, rfl, ?_⟩, fun j u hj => ?_⟩
 ·refine ⟨_, _, rfl, by decide, Nat.le_refl _, fun _ => ⟨p, 0, rfl, qa hp, fun k x hk => ?_⟩⟩;have hk0 : k = 0 := by have := (List.getElem?_eq_some_iff.1 hk).1; simp [sureF] at this; exact this
  subst hk0;obtain rfl : (⟨[], [], ⟨1, ⟨false, 7⟩, []⟩⟩ : UBlk) = x := Option.some.inj hk;refine ⟨[.slice none 0 0, .slice none 0 0, .int .i64 1, .bool false, .int .i64 7, .slice none 0 0], ⟨_, _, rfl, ⟨_, rfl, Rp.SL.nil _ _ _⟩, _, _, rfl, ⟨_, rfl, Rp.SL.nil _ _ _⟩, _, _, rfl, rfl, _, _, rfl, ⟨_, _, rfl, rfl, rfl⟩, _, rfl, Rp.SL.nil _ _ _⟩, fun j u hj => ?_⟩;rw [qb hp, <- hj];simp
 ·rw [qb hq, <- hj];simp
theorem q9c (w : World) (hW : Ways w) (R : Ending -> World -> Prop) (hR : ∀ w', Below w.heap.size w w' -> R (.returned (.bool true)) w') :
 Calls Tryz.prog 16 #[] w R := by
 obtain ⟨xs, fl, hpk⟩ := qcn sureU 0 2;obtain ⟨hxs, hfl⟩ := qnp hpk;subst hxs hfl;obtain ⟨HPk, HR, HW⟩ := lh3 hpk hR hW;clear hpk hR hW
 go_enter Tryz.func16, Tryz.ntmps16
 go_wp2_with fail
 obtain ⟨W2, hW2, hb2, hp2, hq2⟩ := box2 w (.cells #[.slice none 0 0, .slice none 0 0, .int .i64 1, .bool false, .int .i64 7, .slice none 0 0] 68) (.cells #[.string ⟨#[109, 97, 105, 110]⟩, .int .i64 0, .int .i64 0, .slice (some ⟨w.heap.size, 0, none⟩) 1 1] 56) rfl;rw [<- hW2];refine q77 qmg qhg HPk.out none (some ⟨w.heap.size + 1, 0, none⟩) 0 0 1 1 W2 (HW.out.up hb2 HW.out.1) (Rp.SL.nil _ _ _) (qkj hp2 (by exact hq2)) _ (fun w3 v3 hb3 ho3 => ?_);obtain ⟨g, cap, rfl, hg1, hg2, hg3, hg4⟩ := q3v ho3 (by decide);have hb23 := hb2.trans (hb3.mono hb2.size);have hsl := q61 ho3 (Nat.le_refl w3.heap.size);obtain ⟨b, off, m, hA, hb, hm, m0, m1, m2, m3, m4⟩ := hsl.mac_at (k := 0) (by decide);injection hA with hA
 injection hA with e1 e2
 subst e1 e2;obtain rfl : (⟨1, 0, 0, 0, 7⟩ : Mac) = m := Option.some.inj hm;have m4 : w3.cell? ⟨g, 4, none⟩ = some (.int .i64 7) := m4;have hlen : ([⟨1, 0, 0, 0, 7⟩, q1n] : List Mac).length = 2 := rfl;rw [hlen] at hg3;have HX : Hid (∀ X, Below w3.heap.size w3 X -> R (.returned (.bool true)) X) := lh fun X hX => HR.out _ (hb23.trans (hX.mono hb23.size));clear hsl ho3 hb3 hm hb hb2 hp2 hq2 hW2 m0 m1 m2 m3;rw [hlen];go_wp2;exact HX.out _ (by exact bl0)
end Go.Proofs.YtdanebboiekieaaGreatDoor
namespace Go.Proofs.YtdanebboiekieaaGreatDoor
open Go.RowKit
theorem q3g : ∀ (xs ys : List Int), xs.Nodup -> (∀ x ∈ xs, x ∈ ys) -> xs.length ≤ ys.length
 | [], ys, _, _ => Nat.zero_le _
 | x :: xs, ys, hn, hs => by
   rw [List.nodup_cons] at hn;have hx : x ∈ ys := hs x (by simp);have := q3g xs (ys.erase x) hn.2 (fun y hy => (List.mem_erase_of_ne (fun e => hn.1 (by rw [<- e]; exact hy))).2 (hs y (by simp [hy])));rw [List.length_erase_of_mem hx] at this;have := List.length_pos_of_mem hx;rw [List.length_cons];omega
def RegH (many r : Int) : Prop := 0 ≤ r ∧ r ≤ 15 ∧ (6 ≤ r -> r < 14 -> q2e many r = true)
def PlH (many p : Int) : Prop := (RegH many p ∧ p < 16) ∨ (16 ≤ p ∧ p ≤ 135)
structure HomeM (many nb : Int) (m : Mac) : Prop where
 kn : known m.op = true
 d : if (qu m.op).d = true then RegH many m.dst else m.dst = 0
 a : if (qu m.op).a = true then RegH many m.a else m.a = 0
 b : if (qu m.op).b = true then RegH many m.b else m.b = 0
 n : ((qu m.op).n = 0 ∧ m.n = 0) ∨ (qu m.op).n = 1 ∨ ((qu m.op).n = 2 ∧ isJ m = true ∧ 0 ≤ m.n ∧ m.n < nb) ∨ ((qu m.op).n = 3 ∧ 0 ≤ m.n ∧ m.n < 120) ∨ ((qu m.op).n = 4 ∧ 0 ≤ m.n)
section
variable {many nb : Int}
theorem q1f {m : Mac} (S : Shape) (hs : qu m.op = S) (hk : known m.op = true) (hd : if S.d = true then RegH many m.dst else m.dst = 0) (ha : if S.a = true then RegH many m.a else m.a = 0) (hb : if S.b = true then RegH many m.b else m.b = 0)
 (hn : (S.n = 0 ∧ m.n = 0) ∨ S.n = 1 ∨ (S.n = 2 ∧ isJ m = true ∧ 0 ≤ m.n ∧ m.n < nb) ∨ (S.n = 3 ∧ 0 ≤ m.n ∧ m.n < 120) ∨ (S.n = 4 ∧ 0 ≤ m.n)) : HomeM many nb m :=
 ⟨hk, by rw [hs]; exact hd, by rw [hs]; exact ha, by rw [hs]; exact hb, by rw [hs]; exact hn⟩
theorem q5s {r : Int} (h0 : 0 ≤ r) (h1 : r < 6) : RegH many r := ⟨h0, by omega, fun h => by omega⟩
theorem q5b {r : Int} (h0 : 14 ≤ r) (h1 : r ≤ 15) : RegH many r := ⟨by omega, h1, fun _ h => by omega⟩
theorem q6c {r n : Int} (h : RegH many r) : HomeM many nb ⟨1, r, 0, 0, n⟩ := q1f ⟨true, false, false, 1⟩ rfl rfl h rfl rfl (.inr (.inl rfl))
theorem q7m {r w : Int} (h : RegH many r) (h0 : 0 ≤ w ∧ w < 120) : HomeM many nb ⟨35, r, 0, 0, w⟩ := q1f ⟨true, false, false, 3⟩ rfl rfl h rfl rfl (.inr (.inr (.inr (.inl ⟨rfl, h0⟩))))
theorem q7n {r w : Int} (h : RegH many r) (h0 : 0 ≤ w ∧ w < 120) : HomeM many nb ⟨36, 0, r, 0, w⟩ := q1f ⟨false, true, false, 3⟩ rfl rfl rfl h rfl (.inr (.inr (.inr (.inl ⟨rfl, h0⟩))))
theorem qiq {t : Int} (h0 : 0 ≤ t ∧ t < nb) : HomeM many nb ⟨37, 0, 0, 0, t⟩ := q1f ⟨false, false, false, 2⟩ rfl rfl rfl rfl rfl (.inr (.inr (.inl ⟨rfl, rfl, h0⟩)))
theorem qip {o r t : Int} (ho : o = 38 ∨ o = 39) (h : RegH many r) (h0 : 0 ≤ t ∧ t < nb) : HomeM many nb ⟨o, 0, r, 0, t⟩ := by
 rcases ho with rfl | rfl
 ·exact q1f ⟨false, true, false, 2⟩ rfl rfl rfl h rfl (.inr (.inr (.inl ⟨rfl, rfl, h0⟩)))
 ·exact q1f ⟨false, true, false, 2⟩ rfl rfl rfl h rfl (.inr (.inr (.inl ⟨rfl, rfl, h0⟩)))
theorem q4f {t f : Int} (ht : PlH many t) (hf : PlH many f) : ∀ m ∈ q0k t f, HomeM many nb m := by
 intro m hm;unfold PlH at ht hf;unfold q0k at hm
 split at hm
 ·cases hm
 split at hm
 ·rw [List.mem_singleton] at hm;rw [hm];have h1 : RegH many t := by rcases ht with h | h; exact h.1; omega
  have h2 : RegH many f := by rcases hf with h | h; exact h.1; omega
  exact q1f ⟨true, true, false, 0⟩ rfl rfl h1 h2 rfl (.inl ⟨rfl, rfl⟩)
 split at hm
 ·rw [List.mem_singleton] at hm;rw [hm];have h1 : RegH many t := by rcases ht with h | h; exact h.1; omega
  exact q7m h1 (by omega)
 split at hm
 ·rw [List.mem_singleton] at hm;rw [hm];have h2 : RegH many f := by rcases hf with h | h; exact h.1; omega
  exact q7n h2 (by omega)
 ·rcases List.mem_cons.1 hm with h | h
  ·rw [h]; exact q7m (q5b (by decide) (by decide)) (by omega)
  ·rw [List.mem_singleton] at h;rw [h]; exact q7n (q5b (by decide) (by decide)) (by omega)
theorem q6g {l : List Move} (h : ∀ m ∈ l, PlH many m.to ∧ PlH many m.src) : ∀ m ∈ q0c l, HomeM many nb m := by
 intro m hm;obtain ⟨x, hx, hm⟩ := List.mem_flatMap.1 hm;have h15 : PlH many 15 := .inl ⟨q5b (by decide) (by decide), by decide⟩;have h0 : PlH many 0 := .inl ⟨q5s (by decide) (by decide), by decide⟩;have := qea h15 h15 h0 h0 h x hx;exact q4f this.1 this.2 m hm
theorem q70 {pl : List Int} {v : UVal} {h : Int} (hv : v.reg = true -> PlH many (plAt pl v.n)) (hh : 14 ≤ h ∧ h ≤ 15) : (∀ m ∈ (heldL pl v h).1, HomeM many nb m) ∧ RegH many (heldL pl v h).2 := by
 have hr : RegH many h := q5b hh.1 hh.2;unfold heldL
 split
 ·refine ⟨fun m hm => ?_, hr⟩;rw [List.mem_singleton] at hm;rw [hm]; exact q6c hr
 ·rename_i h0;have hp := hv (by simpa using h0);unfold PlH at hp
  split
  ·refine ⟨fun m hm => (by cases hm), ?_⟩
   rcases hp with h | h
   ·exact h.1
   ·omega
  ·refine ⟨fun m hm => ?_, hr⟩;rw [List.mem_singleton] at hm;rw [hm]; exact q7m hr (by omega)
theorem q2l {pl : List Int} {m : Mac} {r : Int} (hr : PlH many (plAt pl r)) (hm : ∀ d, RegH many d -> HomeM many nb ⟨m.op, d, m.a, m.b, m.n⟩) : ∀ x ∈ toldL pl m r, HomeM many nb x := by
 intro x hx;unfold PlH at hr;unfold toldL at hx
 split at hx
 ·rw [List.mem_singleton] at hx;rw [hx];refine hm _ ?_
  rcases hr with h | h
  ·exact h.1
  ·omega
 ·rcases List.mem_cons.1 hx with h | h
  ·rw [h]; exact hm _ (q5b (by decide) (by decide))
  ·rw [List.mem_singleton] at h;rw [h]; exact q7n (q5b (by decide) (by decide)) (by omega)
theorem qk3 {op : Int} (h : 5 ≤ op ∧ op ≤ 18) : qu op = ⟨true, true, true, 0⟩ ∧ known op = true := by
 obtain ⟨k, rfl⟩ : ∃ k : Nat, op = (k : Int) := ⟨op.toNat, by omega⟩
 have : ∀ k : Nat, k < 19 -> 5 ≤ k -> shapeTab.getD k ⟨false, false, false, 0⟩ = ⟨true, true, true, 0⟩ := by
  intro k h1 h2;have : k = 5 ∨ k = 6 ∨ k = 7 ∨ k = 8 ∨ k = 9 ∨ k = 10 ∨ k = 11 ∨ k = 12 ∨ k = 13 ∨ k = 14 ∨ k = 15 ∨ k = 16 ∨ k = 17 ∨ k = 18 := by omega
  rcases this with rfl | rfl | rfl | rfl | rfl | rfl | rfl | rfl | rfl | rfl | rfl | rfl | rfl | rfl <;> rfl
 refine ⟨?_, by unfold known; rw [decide_eq_true_eq]; omega⟩;unfold qu;rw [if_pos (by omega)];exact this k (by omega) (by omega)
theorem qk4 {op : Int} (h : 19 ≤ op ∧ op ≤ 32) : qu op = ⟨true, true, false, 1⟩ ∧ known op = true := by
 obtain ⟨k, rfl⟩ : ∃ k : Nat, op = (k : Int) := ⟨op.toNat, by omega⟩
 have : ∀ k : Nat, k < 33 -> 19 ≤ k -> shapeTab.getD k ⟨false, false, false, 0⟩ = ⟨true, true, false, 1⟩ := by
  intro k h1 h2;have : k = 19 ∨ k = 20 ∨ k = 21 ∨ k = 22 ∨ k = 23 ∨ k = 24 ∨ k = 25 ∨ k = 26 ∨ k = 27 ∨ k = 28 ∨ k = 29 ∨ k = 30 ∨ k = 31 ∨ k = 32 := by omega
  rcases this with rfl | rfl | rfl | rfl | rfl | rfl | rfl | rfl | rfl | rfl | rfl | rfl | rfl | rfl <;> rfl
 refine ⟨?_, by unfold known; rw [decide_eq_true_eq]; omega⟩;unfold qu;rw [if_pos (by omega)];exact this k (by omega) (by omega)
theorem q0f {l k : List Mac} (h1 : ∀ m ∈ l, HomeM many nb m) (h2 : ∀ m ∈ k, HomeM many nb m) : ∀ m ∈ l ++ k, HomeM many nb m := fun m hm => (List.mem_append.1 hm).elim (h1 m) (h2 m)
theorem q2w {x : Mac} (h : HomeM many nb x) : ∀ m ∈ [x], HomeM many nb m := fun m hm => by
 rw [List.mem_singleton] at hm;rw [hm]; exact h
theorem q6b : ∀ m ∈ ([] : List Mac), HomeM many nb m := fun m hm => by cases hm
theorem qiu {u : Unt} {regs : Int} {pl : List Int} {x : UIns} (hx : InsOk u regs x) (h6 : x.args.length ≤ 6) (hp : ∀ r ∈ regsX x, PlH many (plAt pl r)) : ∀ m ∈ insL pl x, HomeM many nb m := by
 have ho := hx.op
 have hpa : x.a.reg = true -> PlH many (plAt pl x.a.n) := fun h => hp _ (by
  have hA : opA x.op = true := by
   cases hA : opA x.op
   ·have := hx.noA hA; unfold isZ at this; rw [h] at this; cases this
   ·rfl
  unfold regsX qn;rw [if_pos hA, q1z];simp [regsV, h])
 have hpb : x.b.reg = true -> PlH many (plAt pl x.b.n) := fun h => hp _ (by
  have hA : opB x.op = true := by
   cases hA : opB x.op
   ·have := hx.noB hA; unfold isZ at this; rw [h] at this; cases this
   ·rfl
  unfold regsX qn;rw [if_pos hA, q1z, q1z];simp [regsV, h])
 have hpd : 0 ≤ x.dst -> PlH many (plAt pl x.dst) := fun h => hp _ (by unfold regsX; rw [if_pos h]; simp)
 have hpg : ∀ v ∈ x.args, v.reg = true -> PlH many (plAt pl v.n) := fun v hv h => hp _ (by
  unfold regsX qn;rw [q1z, q1z];simp only [List.mem_append];exact .inr (.inr (.inr (List.mem_map.2 ⟨v, List.mem_filter.2 ⟨hv, h⟩, rfl⟩))))
 have hd0 : ∀ {o : Int}, x.op = o -> opDst o = true -> o ≠ 20 -> 0 ≤ x.dst := fun h1 h2 h3 => hx.opDst (by rw [h1]; exact h2) (by rw [h1]; exact h3);have ha := q70 (many := many) (nb := nb) (h := 14) hpa (by decide);have hb := q70 (many := many) (nb := nb) (h := 15) hpb (by decide);unfold insL
 split
 ·rename_i h;have hd := hpd (hd0 h rfl (by decide))
  split
  ·rename_i hr;exact q4f hd (hpa hr)
  ·exact q2l hd fun d h => q6c h
 split
 ·rename_i h;exact q0f ha.1 (q2l (hpd (hd0 h rfl (by decide))) fun d h => q1f ⟨true, true, false, 0⟩ rfl rfl h ha.2 rfl (.inl ⟨rfl, rfl⟩))
 split
 ·rename_i h;exact q0f ha.1 (q2l (hpd (hd0 h rfl (by decide))) fun d h => q1f ⟨true, true, false, 0⟩ rfl rfl h ha.2 rfl (.inl ⟨rfl, rfl⟩))
 split
 ·rename_i h;exact q0f ha.1 (q2l (hpd (hd0 h rfl (by decide))) fun d h => q1f ⟨true, true, false, 1⟩ rfl rfl h ha.2 rfl (.inr (.inl rfl)))
 split
 ·exact q0f ha.1 (q0f hb.1 (q2w (q1f ⟨false, true, true, 1⟩ rfl rfl rfl ha.2 hb.2 (.inr (.inl rfl)))))
 split
 ·rename_i h;obtain ⟨g, hg, hfn, _⟩ := hx.call h;unfold callL;refine q0f (q0f (q0f (q6g fun m hm => ?_) ?_) (q2w (q1f ⟨false, false, false, 4⟩ rfl rfl rfl rfl rfl (.inr (.inr (.inr (.inr ⟨rfl, hfn⟩))))))) ?_
  ·have : ∀ k, k ≤ x.args.length -> ∀ m ∈ argMv pl x.args k, PlH many m.to ∧ PlH many m.src := fun k => by
    induction k with
    | zero => intro _ m hm; cases hm
    | succ k ih =>
      intro hk m hm;rw [argMv, List.getElem?_eq_getElem hk] at hm
      rcases List.mem_append.1 hm with h1 | h1
      ·exact ih (by omega) m h1
      ·dsimp only at h1
       split at h1
       ·rename_i hr;rw [List.mem_singleton] at h1;rw [h1];exact ⟨.inl ⟨q5s (by dsimp only; omega) (by dsimp only; omega), by dsimp only; omega⟩, hpg _ (List.getElem_mem hk) hr⟩
       ·cases h1
   exact this _ (Nat.le_refl _) m hm
  ·have : ∀ k, k ≤ x.args.length -> ∀ m ∈ argSt x.args k, HomeM many nb m := fun k => by
    induction k with
    | zero => intro _; exact q6b
    | succ k ih =>
      intro hk;rw [argSt, List.getElem?_eq_getElem hk];refine q0f (ih (by omega)) ?_;dsimp only
      split
      ·exact q6b
      ·exact q2w (q6c (q5s (by omega) (by omega)))
   exact this _ (Nat.le_refl _)
  ·split
   ·rename_i h0;exact q4f (hpd h0) (.inl ⟨q5s (by decide) (by decide), by decide⟩)
   ·exact q6b
 split
 ·rename_i h;exact q2l (hpd (hd0 h rfl (by decide))) fun d h => q1f ⟨true, false, false, 0⟩ rfl rfl h rfl rfl (.inl ⟨rfl, rfl⟩)
 split
 ·exact q0f ha.1 (q2w (q1f ⟨false, true, false, 0⟩ rfl rfl rfl ha.2 rfl (.inl ⟨rfl, rfl⟩)))
 ·have hd := hpd (hx.opDst (by unfold opDst; simp; omega) (by omega));unfold twoL;refine q0f ha.1 ?_
  split
  ·obtain ⟨h1, h2⟩ := qk4 (op := x.op + 17) (by omega);exact q2l hd fun d h => q1f _ h1 h2 h ha.2 rfl (.inr (.inl rfl))
  ·obtain ⟨h1, h2⟩ := qk3 (op := x.op + 3) (by omega);exact q0f hb.1 (q2l hd fun d h => q1f _ h1 h2 h ha.2 hb.2 (.inl ⟨rfl, rfl⟩))
end
end Go.Proofs.YtdanebboiekieaaGreatDoor
