/- The walks, part 30. -/
import Derived.Test.YtdanebboiekieaaGreatDoorP29
set_option linter.unusedSimpArgs false
set_option linter.unusedVariables false
set_option maxRecDepth 100000
set_option maxHeartbeats 16000000
namespace Go.Proofs.YtdanebboiekieaaGreatDoor
open Go.RowKit
theorem q6k (u : Unt) (hu : UntI u) (k many : Int) (c a : Int) (hF : q0q u k = (c, a)) (hne : c ≠ 0) (gA fA : Option Addr) (gn gc fn fc : Nat) (w : World) (hW : Ways w) (hg : rpGlobal.SL w w.heap.size u.globals (.slice gA gn gc)) (hf : rpFun.SL w w.heap.size u.funcs (.slice fA fn fc)) (R : Ending -> World -> Prop)
 (hR : ∀ w', Below w.heap.size w w' -> R (.returned (.tuple #[.slice none 0 0, .agg #[.int .i64 c, .int .i64 a]])) w') :
 Calls Tryz.prog 22 #[.agg #[.slice gA gn gc, .slice fA fn fc], .int .i64 k, .int .i64 many] w R := by
 obtain ⟨HR, Hg, Hf, HW, HF⟩ := lh5 hR hg hf hW hF
 clear hR hg hf hW hF
 go_enter Tryz.func22, Tryz.ntmps22
 go_upto_region 1 with fail
 obtain ⟨W2, hW2, hb2, hU2, hF2⟩ := box2 w (.cells #[.slice gA gn gc, .slice fA fn fc] 25) (.cells #[.int .i64 0, .int .i64 0] 30) rfl
 rw [<- hW2]
 obtain ⟨Hb2, HU2, HF2⟩ := lh3 hb2 hU2 hF2
 have hz2 := hb2.size
 obtain ⟨u0, u1, lU⟩ := cbl hU2
 clear hW2 hb2 hU2 hF2
 go_wp2_with fail
 refine q6i u hu k c a HF.out hne _ _ _ _ _ _ _ (HW.out.up Hb2.out HW.out.1) (Hg.out.up Hb2.out hz2) (Hf.out.up Hb2.out hz2) _ (fun w3 hb3 => ?_)
 have Hb3 := btt Hb2 hb3 hz2
 have HF3 := bkk hb3 HF2
 have hz3 := Hb3.out.size
 clear hb3 u0 u1 lU
 obtain ⟨W4, hW4, hb34, hE4⟩ := box1 w3 (.cells #[.int .i64 c, .int .i64 a] 30) rfl
 have Hb4 := btt Hb3 hb34 hz3
 have HF4 := bkk hb34 HF3
 have HW4 := lh hW4.symm
 have Hbl := lh (qr Hb4.out.drew [(⟨w.heap.size + 1, 0, none⟩, .int .i64 c), (⟨w.heap.size + 1, 1, none⟩, .int .i64 a)] (by simp))
 have HE4 := lh hE4
 clear hW4 hb34 hE4
 obtain ⟨e0, e1, lE⟩ := cbl HE4.out
 obtain ⟨f0, f1, lF⟩ := cbl HF4.out
 have y0 := fzz HF4.out 0
 have y1 := fzz HF4.out 1
 go_upto_region 2 with fail
 rw [HW4.out]
 have hc : ¬ c = 0 := hne
 clear hne
 go_wp2
 go_region
 go_wp2
 refine bodyPost_ret (v := .tuple #[.slice none 0 0, .agg #[.int .i64 c, .int .i64 a]]) (by simp [results, Tryz.results22, go_sem, f0, f1, lF]) rfl ?_
 exact HR.out _ Hbl.out
theorem q62 (C : Int -> Int -> Bool) (L : Nat -> Nat -> Int -> Bool) (u : Unt) (hu : UntI u) (hok : qp u = (0, 0)) (k : Nat) (f : UFun) (hkf : u.funcs[k]? = some f) (hnp : ∀ b ∈ f.blocks, b.phis = []) (n : Nat) (hn : f.regs = (n : Int)) (hlen : ∀ b ∈ f.blocks, b.list.length ≤ 300) (hL : ∀ i k r, L i k r = true ↔ LvI f r i k) (hC : ∀ a b, C a b = true ↔ Clash f a b) (many : Int) (hm : ¬ (2 ≤ many ∧ many ≤ 14)) (gA fA : Option Addr) (gn gc fc : Nat) (w : World) (hW : Ways w) (hg : rpGlobal.SL w w.heap.size u.globals (.slice gA gn gc)) (hf : rpFun.SL w w.heap.size u.funcs (.slice fA u.funcs.length fc)) (R : Ending -> World -> Prop)
 (hR : ∀ w', Below w.heap.size w w' -> R (.returned (.tuple #[.slice none 0 0, .agg #[.int .i64 3, .int .i64 (-1)]])) w') :
 Calls Tryz.prog 22 #[.agg #[.slice gA gn gc, .slice fA u.funcs.length fc], .int .i64 (k : Int), .int .i64 many] w R := by
 obtain ⟨HR, Hg, Hf, HW, Hk, Hkf, Hnp, Hlen, Hn, HL, HC, Hm⟩ := lh12 hR hg hf hW hok hkf hnp hlen hn hL hC hm
 clear hR hg hf hW hok hkf hnp hlen hn hL hC hm
 go_enter Tryz.func22, Tryz.ntmps22
 go_upto_region 1 with fail
 obtain ⟨W2, hW2, hb2, hU2, hF2⟩ := box2 w (.cells #[.slice gA gn gc, .slice fA u.funcs.length fc] 25) (.cells #[.int .i64 0, .int .i64 0] 30) rfl
 rw [<- hW2]
 obtain ⟨Hb2, HU2, HF2⟩ := lh3 hb2 hU2 hF2
 have hz2 := hb2.size
 obtain ⟨u0, u1, lU⟩ := cbl hU2
 clear hW2 hb2 hU2 hF2
 go_wp2_with fail
 refine q4r C L u hu k f Hk.out Hkf.out Hnp.out n Hn.out Hlen.out HL.out _ _ _ _ _ _ (HW.out.up Hb2.out HW.out.1) (Hg.out.up Hb2.out hz2) (Hf.out.up Hb2.out hz2) _ HC.out (fun w3 v3 hb3 hsl3 => ?_)
 obtain ⟨cA, cc, rfl, _, _, _⟩ := hsl3.cases_
 have Hb3 := btt Hb2 hb3 hz2
 have HF3 := bkk hb3 HF2
 have hz3 := Hb3.out.size
 clear hb3 u0 u1 lU
 obtain ⟨W4, hW4, hb34, hE4⟩ := box1 w3 (.cells #[.int .i64 0, .int .i64 0] 30) rfl
 have Hb4 := btt Hb3 hb34 hz3
 have HF4 := bkk hb34 HF3
 have HW4 := lh hW4.symm
 have HE4 := lh hE4
 clear hW4 hb34 hE4
 obtain ⟨e0, e1, lE⟩ := cbl HE4.out
 obtain ⟨f0, f1, lF⟩ := cbl HF4.out
 have y0 := fzz HF4.out 0
 have y1 := fzz HF4.out 1
 go_upto_region 2 with fail
 rw [HW4.out]
 have Hbl := lh (qr Hb4.out [(⟨w.heap.size + 1, 0, none⟩, .int .i64 (3)), (⟨w.heap.size + 1, 1, none⟩, .int .i64 (-1))] (by simp))
 by_cases h2 : many < 2
 ·go_wp2
  refine bodyPost_ret (v := .tuple #[.slice none 0 0, .agg #[.int .i64 3, .int .i64 (-1)]]) (by simp [results, Tryz.results22, go_sem, f0, f1, lF]) rfl ?_
  exact HR.out _ Hbl.out
 ·have h14 : many > 14 := by have := Hm.out; omega
  go_wp2
  refine bodyPost_ret (v := .tuple #[.slice none 0 0, .agg #[.int .i64 3, .int .i64 (-1)]]) (by simp [results, Tryz.results22, go_sem, f0, f1, lF]) rfl ?_
  exact HR.out _ Hbl.out
theorem q97 {u : Unt} (hu : UntI u) (hlen : qp u = (0, 0) -> ∀ f ∈ u.funcs, ∀ b ∈ f.blocks, b.list.length ≤ 300) {k many : Int} {pl : List Int} {fl : Int × Int} (h : ColIs u k many pl fl) (gA fA : Option Addr) (gn gc fn fc : Nat) (w : World) (hW : Ways w) (hg : rpGlobal.SL w w.heap.size u.globals (.slice gA gn gc)) (hf : rpFun.SL w w.heap.size u.funcs (.slice fA fn fc)) (R : Ending -> World -> Prop)
 (hR : ∀ w' v, Below w.heap.size w w' -> rpInt.SLF w' w.heap.size w'.heap.size pl v -> R (.returned (.tuple #[v, (.agg #[.int .i64 (fl).1, .int .i64 (fl).2])])) w') :
 Calls Tryz.prog 22 #[.agg #[.slice gA gn gc, .slice fA fn fc], .int .i64 k, .int .i64 many] w R := by
 have e2 := hf.len
 subst e2
 rcases h with ⟨h1, rfl, rfl⟩ | ⟨h1, h2, rfl, rfl⟩ | ⟨j, f, n, C, A, L, rfl, hc, rfl, rfl⟩
 ·have hcd := q78 h1
  obtain ⟨⟨c, a⟩, hca⟩ : ∃ p, p = q0q u k := ⟨_, rfl⟩
  rw [<- hca] at hR hcd
  exact q6k u hu k many c a hca.symm hcd _ _ _ _ _ _ w hW hg hf R (fun w' hb => hR w' _ hb (Rp.SLF.nil _ _ _ _))
 ·obtain ⟨hok, j, f, rfl, hfj, hnp⟩ := q53 h1
  obtain ⟨L, hL⟩ := q52 (fun p : Nat × Nat × Int => LvI f p.2.2 p.1 p.2.1)
  obtain ⟨C, hC⟩ := q52 (fun p : Int × Int => Clash f p.1 p.2)
  have hfo := funOk hok hfj
  obtain ⟨n, hn⟩ : ∃ n : Nat, f.regs = (n : Int) := ⟨f.regs.toNat, by have := hfo.regs; have := hfo.params; omega⟩
  exact q62 (fun a b => C (a, b)) (fun i k r => L (i, k, r)) u hu hok j f hfj hnp n hn (hlen hok f (List.mem_of_getElem? hfj)) (fun i k r => hL (i, k, r)) (fun a b => hC (a, b)) many h2 _ _ _ _ _ w hW hg hf R (fun w' hb => hR w' _ hb (Rp.SLF.nil _ _ _ _))
 ·exact q8l C L A u hu hc.ok j f hc.fn hc.np n hc.regs (hlen hc.ok f (List.mem_of_getElem? hc.fn)) hc.hL hc.hC hc.hA many hc.many _ _ _ _ _ w hW hg hf R hR
theorem q7v {u : Unt} (hu : UntI u) (hlen : qp u = (0, 0) -> ∀ f ∈ u.funcs, ∀ b ∈ f.blocks, b.list.length ≤ 300) {k many : Int} {pl : List Int} {fl : Int × Int} (h : ColIs u k many pl fl) (gA fA : Option Addr) (gn gc fn fc : Nat) (w : World) (hW : Ways w) (hg : rpGlobal.SL w w.heap.size u.globals (.slice gA gn gc)) (hf : rpFun.SL w w.heap.size u.funcs (.slice fA fn fc)) (R : Ending -> World -> Prop)
 (hR : ∀ w' vs, Below w.heap.size w w' -> w'.ownsRow w.heap.size 3 1 vs (q1c pl).length ((q1c pl).flatMap qf) -> R (.returned (.tuple #[.agg #[.int .i64 (q03 pl), vs], (.agg #[.int .i64 (fl).1, .int .i64 (fl).2])])) w') :
 Calls Tryz.prog 8 #[.agg #[.slice gA gn gc, .slice fA fn fc], .int .i64 k, .int .i64 many] w R := by
 obtain ⟨HR, Hlen, Hg, Hf, HW, HC⟩ := lh6 hR hlen hg hf hW h
 have Hsm := lh (q5d h)
 clear hR hg hf hW h hlen
 go_enter Tryz.func8, Tryz.ntmps8
 go_upto_region 1 with fail
 obtain ⟨W2, hW2⟩ : ∃ W2, W2 = ((w.alloc (Obj.cells #[.slice gA gn gc, .slice fA fn fc] 25)).alloc (Obj.cells #[.int .i64 0, .slice none 0 0] 28)).alloc (Obj.cells #[.int .i64 0, .int .i64 0] 30) := ⟨_, rfl⟩
 have hb2 : Below w.heap.size w W2 := by subst hW2; exact bl0
 have hU2 : W2.heap[w.heap.size]? = some (.cells #[.slice gA gn gc, .slice fA fn fc] 25 (0, 0)) := by subst hW2; exact qh (qh (heap_alloc_new _ _) _) _
 have hA2 : W2.heap[w.heap.size + 1]? = some (.cells #[.int .i64 0, .slice none 0 0] 28 (0, 0)) := by
  subst hW2
  refine qh ?_ _
  have := heap_alloc_new (w.alloc (Obj.cells #[.slice gA gn gc, .slice fA fn fc] 25)) (Obj.cells #[.int .i64 0, .slice none 0 0] 28)
  simpa using this
 have hF2 : W2.heap[w.heap.size + 2]? = some (.cells #[.int .i64 0, .int .i64 0] 30 (0, 0)) := by
  subst hW2
  have := heap_alloc_new ((w.alloc (Obj.cells #[.slice gA gn gc, .slice fA fn fc] 25)).alloc (Obj.cells #[.int .i64 0, .slice none 0 0] 28)) (Obj.cells #[.int .i64 0, .int .i64 0] 30)
  simpa using this
 rw [<- hW2]
 obtain ⟨Hb2, HU2, HA2, HF2⟩ := lh4 hb2 hU2 hA2 hF2
 have hz2 := hb2.size
 obtain ⟨u0, u1, lU⟩ := cbl hU2
 clear hW2 hb2 hU2 hA2 hF2
 go_wp2_with fail
 refine q97 hu Hlen.out HC.out _ _ _ _ _ _ _ (HW.out.up Hb2.out HW.out.1) (Hg.out.up Hb2.out hz2) (Hf.out.up Hb2.out hz2) _ (fun w3 v3 hb3 hsl3 => ?_)
 obtain ⟨pA, pc, rfl, _, _, hsl3⟩ := hsl3.cases_
 have Hsl3 := lh hsl3.SL
 have Hb3 := btt Hb2 hb3 hz2
 have HA3 := bkk hb3 HA2
 have HF3 := bkk hb3 HF2
 have hz3 := Hb3.out.size
 clear hb3 u0 u1 lU hsl3
 obtain ⟨⟨c, a⟩, hca⟩ : ∃ p, p = fl := ⟨_, rfl⟩
 rw [<- hca]
 dsimp only
 have Hca := lh hca
 clear hca
 obtain ⟨E, hE⟩ := nmm (w3.heap.size)
 obtain ⟨W4, hW4, hb34, hE4⟩ := box1 w3 (.cells #[.int .i64 c, .int .i64 a] 30) hE
 have Hb4 := btt Hb3 hb34 hz3
 have HA4 := bkk hb34 HA3
 have HF4 := bkk hb34 HF3
 have Hsl4 := lh (Hsl3.out.up hb34 hb34.size)
 have HW4 := lh hW4.symm
 have HEs : Hid (w.heap.size + 2 < E) := lh (by rw [hE]; exact qc HF3.out)
 obtain ⟨HEe, HE4⟩ := lh2 hE hE4
 clear hW4 hb34 hE4 hE
 obtain ⟨e0, e1, lE⟩ := cbl HE4.out
 obtain ⟨f0, f1, lF⟩ := cbl HF4.out
 obtain ⟨a0, a1, lA⟩ := cbl HA4.out
 have y0 := fzz HF4.out 0
 have y1 := fzz HF4.out 1
 have j0 := fzz HA4.out 0
 have j1 := fzz HA4.out 1
 have n1 : w.heap.size + 1 ≠ E := by have := HEs.out; omega
 have n2 : E ≠ w.heap.size + 1 := by omega
 have n3 : w.heap.size + 2 ≠ E := by have := HEs.out; omega
 have n4 : E ≠ w.heap.size + 2 := by omega
 go_upto_region 2 with fail
 rw [<- HEe.out, HW4.out, show w.heap.size + 1 + 1 = w.heap.size + 2 from rfl]
 rcases HC.out.code with h0 | ⟨h0, hpl⟩
 ·have e3 : (c, a) = ((0 : Int), (0 : Int)) := by rw [Hca.out]; exact h0
  injection e3 with e4 e5
  subst e4 e5
  clear h0
  rw [<- Hca.out] at HR
  go_upto_region 4 with fail
  clear e0 e1 lE
  go_wp2_with fail
  refine qec pl _ _ (Hsl4.out) (fun p hp => by have := Hsm.out p hp; omega) _ (fun wy vs hby hoy => ?_)
  have hb4y : Below W4.heap.size W4 wy := hby
  obtain ⟨sA, sc, hvs⟩ := qn hoy
  subst hvs
  have hAy := (hb4y.block _ lA).trans HA4.out
  have hFy := (hb4y.block _ lF).trans HF4.out
  obtain ⟨b0, b1⟩ := qk hAy
  obtain ⟨d0, d1⟩ := qk hFy
  have lAy := qc hAy
  have lFy := qc hFy
  have z0 := fzz hFy 0
  have z1 := fzz hFy 1
  have z2 := fzz hAy 0
  have z3 := fzz hAy 1
  have hl0 : w.heap.size ≤ W4.heap.size := Hb4.out.size
  have hbz := qr ((Hb4.out.trans (hb4y.mono hl0))) [(⟨w.heap.size + 1, 0, none⟩, .int .i64 (q03 pl)), (⟨w.heap.size + 1, 1, none⟩, .slice sA (q1c pl).length sc), (⟨w.heap.size + 2, 0, none⟩, .int .i64 0), (⟨w.heap.size + 2, 1, none⟩, .int .i64 0)] (by simp)
  have hnb : ∀ j, j < W4.heap.size -> (Value.slice sA (q1c pl).length sc).ownBlock ≠ some j := fun j hj e => by
   have h1 : W4.heap.size ≤ j := (hoy.lt j e).1
   omega
  have hoz := qj (qj (qj (qj hoy (p := ⟨w.heap.size + 1, 0, none⟩) (hnb _ lA) (.int .i64 (q03 pl))) (p := ⟨w.heap.size + 1, 1, none⟩) (hnb _ lA) (.slice sA (q1c pl).length sc)) (p := ⟨w.heap.size + 2, 0, none⟩) (hnb _ lF) (.int .i64 0)) (p := ⟨w.heap.size + 2, 1, none⟩) (hnb _ lF) (.int .i64 0)
  have Hbz := lh hbz
  have HOz := lh (q0u (B' := w.heap.size) hoz hl0)
  clear hbz hoz hnb hoy hby hb4y hAy hFy a0 a1 f0 f1 y0 y1 j0 j1 lA lF
  go_wp2
  refine bodyPost_ret (v := .tuple #[.agg #[.int .i64 (q03 pl), .slice sA (q1c pl).length sc], (.agg #[.int .i64 (((0 : Int), (0 : Int))).1, .int .i64 (((0 : Int), (0 : Int))).2])]) (by simp [results, Tryz.results8, go_sem, b0, b1, d0, d1, lAy, lFy]) rfl ?_
  exact HR.out _ _ Hbz.out HOz.out
 ·subst hpl
  have hc : ¬ c = 0 := by rw [<- Hca.out] at h0; exact h0
  rw [<- Hca.out] at HR
  clear h0
  have Hbl := lh (qr Hb4.out [(⟨w.heap.size + 1, 0, none⟩, .int .i64 0), (⟨w.heap.size + 1, 1, none⟩, .slice none 0 0), (⟨w.heap.size + 2, 0, none⟩, .int .i64 c), (⟨w.heap.size + 2, 1, none⟩, .int .i64 a)] (by simp))
  have hOz : W4.ownsRow w.heap.size 3 1 (.slice none 0 0) (q1c []).length ((q1c []).flatMap qf) := World.ownsRow_nil _ _ _ _
  have HOz := lh (qj (qj (qj (qj hOz (p := ⟨w.heap.size + 1, 0, none⟩) (fun e => by cases e) (.int .i64 0)) (p := ⟨w.heap.size + 1, 1, none⟩) (fun e => by cases e) (.slice none 0 0)) (p := ⟨w.heap.size + 2, 0, none⟩) (fun e => by cases e) (.int .i64 c)) (p := ⟨w.heap.size + 2, 1, none⟩) (fun e => by cases e) (.int .i64 a))
  clear hOz
  go_wp2
  go_region
  go_wp2
  refine bodyPost_ret (v := .tuple #[.agg #[.int .i64 0, .slice none 0 0], (.agg #[.int .i64 ((c, a)).1, .int .i64 ((c, a)).2])]) (by simp [results, Tryz.results8, go_sem, a0, a1, f0, f1, lA, lF]) rfl ?_
  exact HR.out _ _ (Hbl.out.drew) (q0e HOz.out (by exact bl0))
theorem q6u (s : Int) (S : List Int) (A1 A2 : Option Addr) (c1 c2 : Nat) (w : World) (h1 : rpInt.SL w w.heap.size S (.slice A1 S.length c1)) (h2 : rpInt.SL w w.heap.size S (.slice A2 S.length c2)) (R : Ending -> World -> Prop)
 (hR : ∀ w', Below w.heap.size w w' -> R (.returned (.bool true)) w') :
 Calls Tryz.prog 9 #[.agg #[.int .i64 s, .slice A1 S.length c1], .agg #[.int .i64 s, .slice A2 S.length c2]] w R := by
 obtain ⟨_, _, _, hmx, _, _⟩ := h1.cases_
 obtain ⟨HR, H1, H2⟩ := lh3 hR h1 h2
 clear hR h1 h2
 go_enter Tryz.func9, Tryz.ntmps9
 go_upto_region 1 with fail
 obtain ⟨W2, hW2, hb2, hU2, hF2⟩ := box2 w (.cells #[.int .i64 s, .slice A1 S.length c1] 28) (.cells #[.int .i64 s, .slice A2 S.length c2] 28) rfl
 rw [<- hW2]
 obtain ⟨Hb2, HU2, HF2⟩ := lh3 hb2 hU2 hF2
 have hz2 := hb2.size
 obtain ⟨u0, u1, lU⟩ := cbl hU2
 obtain ⟨f0, f1, lF⟩ := cbl hF2
 clear hW2 hb2 hU2 hF2
 go_wp2
 go_loopg [5] S.length (fun gh s5 wr => ∃ i : Nat, i ≤ S.length ∧ gh = S.length - i ∧ s5 = .int .i64 (i : Int) ∧ Hid (Below w.heap.size w wr) ∧ Hid (wr.heap[w.heap.size]? = some (.cells #[.int .i64 s, .slice A1 S.length c1] 28 (0, 0))) ∧ Hid (wr.heap[w.heap.size + 1]? = some (.cells #[.int .i64 s, .slice A2 S.length c2] 28 (0, 0))))
 case atStart => exact ⟨0, Nat.zero_le _, rfl, rfl, Hb2, HU2, HF2⟩
 case round =>
  clear u0 u1 lU f0 f1 lF Hb2 HU2 HF2
  obtain ⟨i, hi, rfl, rfl, Hb, HU, HF⟩ := hrel
  have i1 := nnn i
  obtain ⟨u0, u1, lU⟩ := cbl HU.out
  obtain ⟨f0, f1, lF⟩ := cbl HF.out
  have hzr := Hb.out.size
  by_cases hlt : i < S.length
  ·have i2 : (i : Int) < (S.length : Int) := Int.ofNat_lt.2 hlt
   obtain ⟨b1, o1, rfl, hb1, p1⟩ := H1.out.int_at hlt
   obtain ⟨b2, o2, rfl, hb2, p2⟩ := H2.out.int_at hlt
   have q1 := (Hb.out.cell (p := ⟨b1, o1 + i, none⟩) hb1).trans p1
   have q2 := (Hb.out.cell (p := ⟨b2, o2 + i, none⟩) hb2).trans p2
   have lb1 : b1 < wr.heap.size := Nat.lt_of_lt_of_le hb1 hzr
   have lb2 : b2 < wr.heap.size := Nat.lt_of_lt_of_le hb2 hzr
   clear p1 p2 hb1 hb2
   generalize S.getD i 0 = x at *
   go_upto_region 6 with fail
   go_big_quiet (fail)
   have Hbq : Hid (Below w.heap.size w (wr.drewN nq)) := lh (qq Hb.out nq)
   have HUq : Hid ((wr.drewN nq).heap[w.heap.size]? = some (.cells #[.int .i64 s, .slice (some ⟨b1, o1, none⟩) S.length c1] 28 (0, 0))) := HU
   have HFq : Hid ((wr.drewN nq).heap[w.heap.size + 1]? = some (.cells #[.int .i64 s, .slice (some ⟨b2, o2, none⟩) S.length c2] 28 (0, 0))) := HF
   generalize wr.drewN nq = wq at *
   clear u0 u1 lU f0 f1 lF q1 q2 lb1 lb2 Hb HU HF
   go_wp2
   go_roundg (S.length - (i + 1))
   case measure => omega
   case rel => exact ⟨i + 1, hlt, rfl, by go_num, Hbq, HUq, HFq⟩
  ·obtain rfl : i = S.length := by omega
   have i2 : ¬ (S.length : Int) < (S.length : Int) := by omega
   go_wp2
   exact HR.out _ Hb.out
theorem q63 {u : Unt} (hu : UntI u) (hlen : qp u = (0, 0) -> ∀ f ∈ u.funcs, ∀ b ∈ f.blocks, b.list.length ≤ 300) (k many : Int) (gA fA : Option Addr) (gn gc fn fc : Nat) (w : World) (hW : Ways w) (hg : rpGlobal.SL w w.heap.size u.globals (.slice gA gn gc)) (hf : rpFun.SL w w.heap.size u.funcs (.slice fA fn fc)) (R : Ending -> World -> Prop)
 (hR : ∀ w', Below w.heap.size w w' -> R (.returned (.bool true)) w') :
 Calls Tryz.prog 3 #[.agg #[.slice gA gn gc, .slice fA fn fc], .int .i64 k, .int .i64 many] w R := by
 obtain ⟨pl, fl, hc⟩ := qhc u k many
 obtain ⟨HC, HR, Hg, Hf, HW, Hlen⟩ := lh6 hc hR hg hf hW hlen
 clear hR hg hf hW hc hlen
 go_enter Tryz.func3, Tryz.ntmps3
 go_upto_region 1 with fail
 obtain ⟨W1, hW1, hb1, hU1⟩ := box1 w (.cells #[.slice gA gn gc, .slice fA fn fc] 25) rfl
 rw [<- hW1]
 obtain ⟨Hb1, HU1⟩ := lh2 hb1 hU1
 have hz1 := hb1.size
 obtain ⟨u0, u1, lU⟩ := cbl hU1
 clear hW1 hb1 hU1
 go_wp2_with fail
 refine q8p hu HC.out _ _ _ _ _ _ _ (HW.out.up Hb1.out HW.out.1) (Hg.out.up Hb1.out hz1) (Hf.out.up Hb1.out hz1) _ (fun w2 vs hb2 ho2 => ?_)
 obtain ⟨sA, sc, hvs⟩ := qn ho2
 subst hvs
 have hsl2 := Rp.SL.of_own (r := rpInt) (f := qf) (fun _ _ _ => rfl) (fun _ => rfl) ho2 (Nat.le_refl _)
 obtain ⟨⟨c, a⟩, hca⟩ : ∃ p, p = fl := ⟨_, rfl⟩
 rw [<- hca]
 have HC2 : Hid (ColIs u k many pl (c, a)) := lh (by rw [hca]; exact HC.out)
 clear hca HC
 dsimp only
 obtain ⟨G, hG⟩ := nmm (w2.heap.size)
 obtain ⟨W3, hW3, hb23, hF3, hE3⟩ := box2 w2 (.cells #[.int .i64 (q03 pl), .slice sA (q1c pl).length sc] 28) (.cells #[.int .i64 c, .int .i64 a] 30) hG
 have Hb3 := lh (Hb1.out.trans ((hb2.trans (hb23.mono hb2.size)).mono hz1))
 have HU3 := lh (((hb2.trans (hb23.mono hb2.size)).block _ (qc HU1.out)).trans HU1.out)
 have HS3 := lh (hsl2.up hb23 hb23.size)
 obtain ⟨HF3, HE3⟩ := lh2 hF3 hE3
 have HW3 := lh hW3.symm
 have HGe := lh hG
 have hz3 := Hb3.out.size
 clear hb2 ho2 hsl2 hb23 hF3 hE3 hW3 hG u0 u1 lU HU1 Hb1
 obtain ⟨u0, u1, lU⟩ := cbl HU3.out
 go_upto_region 2 with fail
 rw [<- HGe.out, HW3.out]
 go_wp2_with fail
 refine q7v hu Hlen.out HC2.out _ _ _ _ _ _ _ (HW.out.up Hb3.out HW.out.1) (Hg.out.up Hb3.out hz3) (Hf.out.up Hb3.out hz3) _ (fun w4 vs hb4 ho4 => ?_)
 obtain ⟨tA, tc, hvs⟩ := qn ho4
 subst hvs
 have hsl4 := Rp.SL.of_own (r := rpInt) (f := qf) (fun _ _ _ => rfl) (fun _ => rfl) ho4 (Nat.le_refl _)
 have hS4 := HS3.out.up hb4 hb4.size
 have hF4 := (hb4.block _ (qc HF3.out)).trans HF3.out
 have hE4 := (hb4.block _ (qc HE3.out)).trans HE3.out
 generalize q03 pl = s at *
 generalize q1c pl = S at *
 dsimp only
 obtain ⟨H, hH⟩ := nmm (w4.heap.size)
 obtain ⟨W5, hW5, hb45, hF5, hE5⟩ := box2 w4 (.cells #[.int .i64 s, .slice tA S.length tc] 28) (.cells #[.int .i64 c, .int .i64 a] 30) hH
 have Hb5 := lh (Hb3.out.trans ((hb4.trans (hb45.mono hb4.size)).mono hz3))
 have HA5 := lh ((hb45.block _ (qc hF4)).trans hF4)
 have HB5 := lh ((hb45.block _ (qc hE4)).trans hE4)
 have HS5 := lh (hS4.up hb45 hb45.size)
 have HT5 := lh (hsl4.up hb45 hb45.size)
 have HE5 := lh hE5
 have HW5 := lh hW5.symm
 have HHe := lh hH
 have hz5 := Hb5.out.size
 obtain ⟨f0, f1, lF⟩ := cbl HA5.out
 obtain ⟨h0, h1, lH⟩ := cbl hF5
 clear hb4 ho4 hsl4 hS4 hF4 hE4 hb45 hF5 hE5 hW5 hH u0 u1 lU HU3 HS3 HF3 HE3 HW3 HGe
 go_upto_region 3 with fail
 rw [<- HHe.out, HW5.out]
 go_wp2_with fail
 refine q6u s S _ _ _ _ _ HS5.out HT5.out _ (fun w6 hb6 => ?_)
 obtain ⟨e0, e1⟩ := qk ((hb6.block _ (qc HB5.out)).trans HB5.out)
 obtain ⟨g0, g1⟩ := qk ((hb6.block _ (qc HE5.out)).trans HE5.out)
 have lE := qc ((hb6.block _ (qc HB5.out)).trans HB5.out)
 have lG := qc ((hb6.block _ (qc HE5.out)).trans HE5.out)
 have Hb6 := btt Hb5 hb6 hz5
 have heq := qgb c a c a
 rw [decide_eq_true ⟨rfl, rfl⟩] at heq
 have hms : Tryz.prog.eqGuardType Tryz.prog.depth 30 = false := by kernel_rfl
 clear hb6 f0 f1 lF h0 h1 lH HA5 HB5 HS5 HT5 HE5
 go_wp2
 exact HR.out _ Hb6.out
end Go.Proofs.YtdanebboiekieaaGreatDoor
