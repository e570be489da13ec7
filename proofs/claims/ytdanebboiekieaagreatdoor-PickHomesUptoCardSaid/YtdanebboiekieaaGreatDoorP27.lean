/- The walks, part 27. -/
import Derived.Test.YtdanebboiekieaaGreatDoorP26
set_option linter.unusedSimpArgs false
set_option linter.unusedVariables false
set_option maxRecDepth 100000
set_option maxHeartbeats 16000000
namespace Go.Proofs.YtdanebboiekieaaGreatDoor
open Go.RowKit
def jumpL (t nx : Int) : List Mac := if t = nx then [] else [⟨37, 0, 0, 0, t⟩]
theorem q0t {w : World} {b : Nat} {v0 v1 v2 v3 : Value} {T : TypeId} (h : w.heap[b]? = some (.cells #[v0, v1, v2, v3] T (0, 0))) :
 w.cell? ⟨b, 0, none⟩ = some v0 ∧ w.cell? ⟨b, 1, none⟩ = some v1 ∧ w.cell? ⟨b, 2, none⟩ = some v2 ∧ w.cell? ⟨b, 3, none⟩ = some v3 := by
 refine ⟨?_, ?_, ?_, ?_⟩ <;> (rw [qb h]; rfl)
theorem qn3 (K : PiK) (code : List Mac) (vc : Value) (e : UEnd) (nx : Int) (vt : Value) (w : World) (h : PiS K code vc w) (hT : rpInt.SL w K.PB e.to vt) (hk : e.kind = 2) (hl : 0 < e.to.length) (hc : code.length ≤ 80000) (R : Ending -> World -> Prop)
 (hR : ∀ w' vc', PiS K (code ++ jumpL (e.to.getD 0 0) nx) vc' w' -> PiG K w vc w' vc' -> R (.returned (.tuple #[])) w') :
 Calls Tryz.prog 29 #[.pointer (some ⟨K.PB, 0, none⟩), .agg #[.int .i64 e.kind, .bool e.on.reg, .int .i64 e.on.n, vt], .int .i64 nx] w R := by
 obtain ⟨HR, HS⟩ := lh2 hR h;have lP : K.PB < w.heap.size := qa h.blk;obtain ⟨A, c, rfl, _, _, hT⟩ := hT.cases_;obtain ⟨b, off, rfl, hb, hcell⟩ := hT.int_at hl;obtain ⟨t, ht⟩ := nmm (e.to.getD 0 0);rw [<- ht] at hcell HR;have lb : b < w.heap.size := Nat.lt_trans hb lP;have l0 : (0 : Int) < (e.to.length : Int) := by omega
 clear hR h hT ht;rw [hk];clear hk
 go_enter Tryz.func29, Tryz.ntmps29
 go_upto_region 3 with fail
 obtain ⟨W0, hW0, hb0, hX0⟩ := box1 w (.cells #[.int .i64 2, .bool e.on.reg, .int .i64 e.on.n, .slice (some ⟨b, off, none⟩) e.to.length c] 66) rfl;rw [<- hW0];have HS0 := lh (HS.out.below hb0);have HG0 := lh (PiG.of_below (K := K) (vc := vc) hb0);obtain ⟨x0, x1, x2, x3⟩ := q0t hX0;have lX := qa hX0;have hc0 := (hb0.cell (p := ⟨b, off + 0, none⟩) lb).trans hcell;rw [Nat.add_zero] at hc0;have lb0 : b < W0.heap.size := by have := hb0.size; omega
 clear hW0 hb0 hX0 hcell
 go_wp2_with fail
 refine q58 K code vc t nx _ HS0.out (by omega) _ (fun w1 v1 hs1 hg1 => ?_);have HF := lh (HR.out w1 v1 hs1 (HG0.out.trans hg1));clear hs1 hg1;go_wp2;refine bodyPost_ret (results_none rfl _ _ _) rfl ?_;exact HF.out
theorem qn1 (K : PiK) (code : List Mac) (vc : Value) (e : UEnd) (nx : Int) (vt : Value) (w : World) (h : PiS K code vc w) (hT : rpInt.SL w K.PB e.to vt) (hk : e.kind = 3) (hr : e.on.reg = false) (hz : ¬ e.on.n = 0) (hl : 0 < e.to.length) (hc : code.length ≤ 80000) (R : Ending -> World -> Prop)
 (hR : ∀ w' vc', PiS K (code ++ jumpL (e.to.getD 0 0) nx) vc' w' -> PiG K w vc w' vc' -> R (.returned (.tuple #[])) w') :
 Calls Tryz.prog 29 #[.pointer (some ⟨K.PB, 0, none⟩), .agg #[.int .i64 e.kind, .bool e.on.reg, .int .i64 e.on.n, vt], .int .i64 nx] w R := by
 obtain ⟨HR, HS⟩ := lh2 hR h;have lP : K.PB < w.heap.size := qa h.blk;obtain ⟨A, c, rfl, _, _, hT⟩ := hT.cases_;obtain ⟨b, off, rfl, hb, hcell⟩ := hT.int_at hl;obtain ⟨t, ht⟩ := nmm (e.to.getD 0 0);rw [<- ht] at hcell HR;have lb : b < w.heap.size := Nat.lt_trans hb lP;have l0 : (0 : Int) < (e.to.length : Int) := by omega
 clear hR h hT ht;obtain ⟨n, hn⟩ := nmm (e.on.n);rw [<- hn] at hz ⊢;rw [hk, hr];clear hk hr hn
 go_enter Tryz.func29, Tryz.ntmps29
 go_upto_region 3 with fail
 obtain ⟨W0, hW0, hb0, hX0⟩ := box1 w (.cells #[.int .i64 3, .bool false, .int .i64 n, .slice (some ⟨b, off, none⟩) e.to.length c] 66) rfl;rw [<- hW0];have HS0 := lh (HS.out.below hb0);have HG0 := lh (PiG.of_below (K := K) (vc := vc) hb0);obtain ⟨x0, x1, x2, x3⟩ := q0t hX0;have lX := qa hX0;have hc0 := (hb0.cell (p := ⟨b, off + 0, none⟩) lb).trans hcell;rw [Nat.add_zero] at hc0;have lb0 : b < W0.heap.size := by have := hb0.size; omega
 clear hW0 hb0 hX0 hcell
 go_wp2_with fail
 refine q58 K code vc t nx _ HS0.out (by omega) _ (fun w1 v1 hs1 hg1 => ?_);have HF := lh (HR.out w1 v1 hs1 (HG0.out.trans hg1));clear hs1 hg1;go_wp2;refine bodyPost_ret (results_none rfl _ _ _) rfl ?_;exact HF.out
theorem qn0 (K : PiK) (code : List Mac) (vc : Value) (e : UEnd) (nx : Int) (vt : Value) (w : World) (h : PiS K code vc w) (hT : rpInt.SL w K.PB e.to vt) (hk : e.kind = 3) (hr : e.on.reg = false) (hz : e.on.n = 0) (hl : 1 < e.to.length) (hc : code.length ≤ 80000) (R : Ending -> World -> Prop)
 (hR : ∀ w' vc', PiS K (code ++ jumpL (e.to.getD 1 0) nx) vc' w' -> PiG K w vc w' vc' -> R (.returned (.tuple #[])) w') :
 Calls Tryz.prog 29 #[.pointer (some ⟨K.PB, 0, none⟩), .agg #[.int .i64 e.kind, .bool e.on.reg, .int .i64 e.on.n, vt], .int .i64 nx] w R := by
 obtain ⟨HR, HS⟩ := lh2 hR h;have lP : K.PB < w.heap.size := qa h.blk;obtain ⟨A, c, rfl, _, _, hT⟩ := hT.cases_;obtain ⟨b, off, rfl, hb, hcell⟩ := hT.int_at hl;obtain ⟨t, ht⟩ := nmm (e.to.getD 1 0);rw [<- ht] at hcell HR;have lb : b < w.heap.size := Nat.lt_trans hb lP;have l0 : (1 : Int) < (e.to.length : Int) := by omega
 clear hR h hT ht;obtain ⟨n, hn⟩ := nmm (e.on.n);rw [<- hn] at hz ⊢;rw [hk, hr];clear hk hr hn;subst hz
 go_enter Tryz.func29, Tryz.ntmps29
 go_upto_region 3 with fail
 obtain ⟨W0, hW0, hb0, hX0⟩ := box1 w (.cells #[.int .i64 3, .bool false, .int .i64 0, .slice (some ⟨b, off, none⟩) e.to.length c] 66) rfl;rw [<- hW0];have HS0 := lh (HS.out.below hb0);have HG0 := lh (PiG.of_below (K := K) (vc := vc) hb0);obtain ⟨x0, x1, x2, x3⟩ := q0t hX0;have lX := qa hX0;have hc0 := (hb0.cell (p := ⟨b, off + 1, none⟩) lb).trans hcell;have lb0 : b < W0.heap.size := by have := hb0.size; omega
 clear hW0 hb0 hX0 hcell
 go_wp2_with fail
 refine q58 K code vc t nx _ HS0.out (by omega) _ (fun w1 v1 hs1 hg1 => ?_);have HF := lh (HR.out w1 v1 hs1 (HG0.out.trans hg1));clear hs1 hg1;go_wp2;refine bodyPost_ret (results_none rfl _ _ _) rfl ?_;exact HF.out
theorem qmz (K : PiK) (code : List Mac) (vc : Value) (pl : List Int) (e : UEnd) (nx : Int) (vt : Value) (w : World) (h : PiS K code vc w) (hP : PiP K pl w) (hT : rpInt.SL w K.PB e.to vt) (hk : e.kind = 3) (hr : e.on.reg = true) (hv : 0 ≤ e.on.n ∧ e.on.n < (pl.length : Int)) (hl : 1 < e.to.length) (hq : e.to.getD 0 0 = nx) (hc : code.length ≤ 80000) (R : Ending -> World -> Prop)
 (hR : ∀ w' vc', PiS K (code ++ ((heldL pl e.on 14).1 ++ [⟨39, 0, (heldL pl e.on 14).2, 0, e.to.getD 1 0⟩])) vc' w' -> PiG K w vc w' vc' -> R (.returned (.tuple #[])) w') :
 Calls Tryz.prog 29 #[.pointer (some ⟨K.PB, 0, none⟩), .agg #[.int .i64 e.kind, .bool e.on.reg, .int .i64 e.on.n, vt], .int .i64 nx] w R := by
 obtain ⟨HR, HS, HP⟩ := lh3 hR h hP;have lP : K.PB < w.heap.size := qa h.blk;have hbase := h.base;have hlt := K.hlt;have hv' : e.on.reg = true -> 0 ≤ e.on.n ∧ e.on.n < (pl.length : Int) := fun _ => hv;have Hv := lh hv';obtain ⟨A, c, rfl, _, _, hT⟩ := hT.cases_;obtain ⟨b, off, rfl, hb, hcell0⟩ := hT.int_at (show 0 < e.to.length by omega);obtain ⟨b', off', hA', hb', hcell1⟩ := hT.int_at hl;injection hA' with hA'
 injection hA' with e1 e2
 subst e1 e2;obtain ⟨t0, ht0⟩ : ∃ t, t = e.to.getD 0 0 := ⟨_, rfl⟩;obtain ⟨t1, ht1⟩ : ∃ t, t = e.to.getD 1 0 := ⟨_, rfl⟩;rw [<- ht0] at hcell0;rw [<- ht1] at hcell1;simp only [<- ht0, <- ht1] at HR hq;rw [Nat.add_zero] at hcell0;have lb : b < w.heap.size := Nat.lt_trans hb lP;have l0 : (0 : Int) < (e.to.length : Int) := by omega
 have l1 : (1 : Int) < (e.to.length : Int) := by omega
 have l0n : 0 < e.to.length := by omega
 have hl1 := q0y pl e.on 14;obtain ⟨ca, hca⟩ : ∃ ca, ca = (heldL pl e.on 14).1 := ⟨_, rfl⟩;obtain ⟨a, haa⟩ : ∃ a, a = (heldL pl e.on 14).2 := ⟨_, rfl⟩
 have Hic : Hid (∀ W vW, PiS K code vW W -> PiP K pl W -> ∀ R : Ending -> World -> Prop, (∀ w' vc', PiS K (code ++ ca) vc' w' -> PiG K W vW w' vc' -> R (.returned (.int .i64 a)) w') -> Calls Tryz.prog 59 #[.pointer (some ⟨K.PB, 0, none⟩), .agg #[.bool true, .int .i64 e.on.n], .int .i64 14] W R) := lh fun W vW hs hp R hR => by
  have h1 := q2o K code vW pl e.on 14 W hs hp Hv.out (by omega) R (fun w1 v1 hs1 hg1 => by rw [<- haa]; exact hR w1 v1 (by rw [hca]; exact hs1) hg1)
  rwa [hr] at h1
 rw [<- hca, <- haa] at HR;rw [<- hca] at hl1;rw [hk, hr];clear hR h hP hT ht0 ht1 hv hv' hk hr hca haa hb' Hv
 go_enter Tryz.func29, Tryz.ntmps29
 go_upto_region 3 with fail
 obtain ⟨W0, hW0, hb0, hX0⟩ := box1 w (.cells #[.int .i64 3, .bool true, .int .i64 e.on.n, .slice (some ⟨b, off, none⟩) e.to.length c] 66) rfl;rw [<- hW0];have HS0 := lh (HS.out.below hb0);have HP0 := lh (HP.out.below (hb0.mono (Nat.le_of_lt lP)));have hap0 := HS.out.apart (Nat.le_refl w.heap.size);have HG0 := lh (PiG.of_below (K := K) (vc := vc) hb0);have HX0 := lh hX0;have hne : w.heap.size ≠ K.PB := by omega
 obtain ⟨x0, x1, x2, x3⟩ := q0t hX0;have lX := qa hX0;have c0 := (hb0.cell (p := ⟨b, off, none⟩) lb).trans hcell0;have c1 := (hb0.cell (p := ⟨b, off + 1, none⟩) lb).trans hcell1;have lb0 : b < W0.heap.size := by have := hb0.size; omega
 have hSF : ∀ W, W.heap[w.heap.size]? = some (.cells #[.int .i64 3, .bool true, .int .i64 e.on.n, .slice (some ⟨b, off, none⟩) e.to.length c] 66 (0, 0)) -> Below K.PB W0 W -> W.cell? ⟨w.heap.size, 1, none⟩ = some (.bool true) ∧ W.cell? ⟨w.heap.size, 2, none⟩ = some (.int .i64 e.on.n) ∧ W.cell? ⟨w.heap.size, 3, none⟩ = some (.slice (some ⟨b, off, none⟩) e.to.length c) ∧ W.cell? ⟨b, off, none⟩ = some (.int .i64 t0) ∧ W.cell? ⟨b, off + 1, none⟩ = some (.int .i64 t1) := fun W hx hbW => ⟨(q0t hx).2.1, (q0t hx).2.2.1, (q0t hx).2.2.2, (hbW.cell hb).trans c0, (hbW.cell hb).trans c1⟩;have HSF := lh hSF;have hS0 := hSF W0 HX0.out (Below.refl _ _);clear hW0 hb0 hX0 hcell0 hcell1 hSF
 go_upto_region 13 with fail
 clear x0 x1 x2 x3 c0 c1
 go_region_held3 (fun W : World => W.cell? ⟨w.heap.size, 1, none⟩ = some (.bool true) ∧ W.cell? ⟨w.heap.size, 2, none⟩ = some (.int .i64 e.on.n) ∧ W.cell? ⟨w.heap.size, 3, none⟩ = some (.slice (some ⟨b, off, none⟩) e.to.length c) ∧ W.cell? ⟨b, off, none⟩ = some (.int .i64 t0) ∧ W.cell? ⟨b, off + 1, none⟩ = some (.int .i64 t1)) (first | with_reducible exact hS0 | with_reducible exact hS1 | with_reducible exact hS2 | go_keep) (first
  | (go_at_call 59; with_reducible refine Hic.out _ vc (HS0.out.below (by exact bl0)) (HP0.out.below (Below.mono (by exact bl0 : Below W0.heap.size W0 _) (by omega))) _ ?_; intro w1 v1 hs1 hg1; have hg1' : PiG K W0 vc w1 v1 := (PiG.of_below (by exact bl0)).trans hg1; have hx1 := (hg1'.keep lX hne hap0).trans HX0.out; have hS1 := HSF.out w1 hx1 (hg1'.below HS0.out (Nat.le_refl _)); have lX1 := qa hx1; have lb1 : b < w1.heap.size := Nat.lt_of_lt_of_le lb0 hg1'.grew.size; have hap1 := hg1'.apart lX hap0)
  | (go_at_call 55; refine q00 K _ v1 ⟨39, 0, a, 0, t1⟩ _ (hs1.below (by exact bl0)) (by rw [List.length_append]; omega) _ ?_; intro w2 v2 hs2 hg2; have hg2' : PiG K w1 v1 w2 v2 := (PiG.of_below (by exact bl0)).trans hg2; have hx2 := (hg2'.keep lX1 hne hap1).trans hx1; have hS2 := HSF.out w2 hx2 ((hg1'.trans hg2').below HS0.out (Nat.le_refl _)); have lX2 := qa hx2; have lb2 : b < w2.heap.size := Nat.lt_of_lt_of_le lb1 hg2'.grew.size))
 all_goals
  have HF := lh (HR.out w2 v2 (by have h1 := hs2; rw [List.append_assoc] at h1; exact h1) (HG0.out.trans (hg1'.trans hg2')));clear hs2 hg2 hg2' hs1 hg1 hg1' hx1 hx2 hS0 hS1 hS2;go_wp2;refine bodyPost_ret (results_none rfl _ _ _) rfl ?_;exact HF.out
theorem qnu (K : PiK) (code : List Mac) (vc : Value) (pl : List Int) (e : UEnd) (nx : Int) (vt : Value) (w : World) (h : PiS K code vc w) (hP : PiP K pl w) (hT : rpInt.SL w K.PB e.to vt) (hk : e.kind = 3) (hr : e.on.reg = true) (hv : 0 ≤ e.on.n ∧ e.on.n < (pl.length : Int)) (hl : 1 < e.to.length) (hq : ¬ e.to.getD 0 0 = nx) (hc : code.length ≤ 80000) (R : Ending -> World -> Prop)
 (hR : ∀ w' vc', PiS K (code ++ ((heldL pl e.on 14).1 ++ [⟨38, 0, (heldL pl e.on 14).2, 0, e.to.getD 0 0⟩] ++ jumpL (e.to.getD 1 0) nx)) vc' w' -> PiG K w vc w' vc' -> R (.returned (.tuple #[])) w') :
 Calls Tryz.prog 29 #[.pointer (some ⟨K.PB, 0, none⟩), .agg #[.int .i64 e.kind, .bool e.on.reg, .int .i64 e.on.n, vt], .int .i64 nx] w R := by
 obtain ⟨HR, HS, HP⟩ := lh3 hR h hP;have lP : K.PB < w.heap.size := qa h.blk;have hbase := h.base;have hlt := K.hlt;have hv' : e.on.reg = true -> 0 ≤ e.on.n ∧ e.on.n < (pl.length : Int) := fun _ => hv;have Hv := lh hv';obtain ⟨A, c, rfl, _, _, hT⟩ := hT.cases_;obtain ⟨b, off, rfl, hb, hcell0⟩ := hT.int_at (show 0 < e.to.length by omega);obtain ⟨b', off', hA', hb', hcell1⟩ := hT.int_at hl;injection hA' with hA'
 injection hA' with e1 e2
 subst e1 e2;obtain ⟨t0, ht0⟩ : ∃ t, t = e.to.getD 0 0 := ⟨_, rfl⟩;obtain ⟨t1, ht1⟩ : ∃ t, t = e.to.getD 1 0 := ⟨_, rfl⟩;rw [<- ht0] at hcell0;rw [<- ht1] at hcell1;simp only [<- ht0, <- ht1] at HR hq;rw [Nat.add_zero] at hcell0;have lb : b < w.heap.size := Nat.lt_trans hb lP;have l0 : (0 : Int) < (e.to.length : Int) := by omega
 have l1 : (1 : Int) < (e.to.length : Int) := by omega
 have l0n : 0 < e.to.length := by omega
 have hl1 := q0y pl e.on 14;obtain ⟨ca, hca⟩ : ∃ ca, ca = (heldL pl e.on 14).1 := ⟨_, rfl⟩;obtain ⟨a, haa⟩ : ∃ a, a = (heldL pl e.on 14).2 := ⟨_, rfl⟩
 have Hic : Hid (∀ W vW, PiS K code vW W -> PiP K pl W -> ∀ R : Ending -> World -> Prop, (∀ w' vc', PiS K (code ++ ca) vc' w' -> PiG K W vW w' vc' -> R (.returned (.int .i64 a)) w') -> Calls Tryz.prog 59 #[.pointer (some ⟨K.PB, 0, none⟩), .agg #[.bool true, .int .i64 e.on.n], .int .i64 14] W R) := lh fun W vW hs hp R hR => by
  have h1 := q2o K code vW pl e.on 14 W hs hp Hv.out (by omega) R (fun w1 v1 hs1 hg1 => by rw [<- haa]; exact hR w1 v1 (by rw [hca]; exact hs1) hg1)
  rwa [hr] at h1
 rw [<- hca, <- haa] at HR;rw [<- hca] at hl1;rw [hk, hr];clear hR h hP hT ht0 ht1 hv hv' hk hr hca haa hb' Hv
 go_enter Tryz.func29, Tryz.ntmps29
 go_upto_region 3 with fail
 obtain ⟨W0, hW0, hb0, hX0⟩ := box1 w (.cells #[.int .i64 3, .bool true, .int .i64 e.on.n, .slice (some ⟨b, off, none⟩) e.to.length c] 66) rfl;rw [<- hW0];have HS0 := lh (HS.out.below hb0);have HP0 := lh (HP.out.below (hb0.mono (Nat.le_of_lt lP)));have hap0 := HS.out.apart (Nat.le_refl w.heap.size);have HG0 := lh (PiG.of_below (K := K) (vc := vc) hb0);have HX0 := lh hX0;have hne : w.heap.size ≠ K.PB := by omega
 obtain ⟨x0, x1, x2, x3⟩ := q0t hX0;have lX := qa hX0;have c0 := (hb0.cell (p := ⟨b, off, none⟩) lb).trans hcell0;have c1 := (hb0.cell (p := ⟨b, off + 1, none⟩) lb).trans hcell1;have lb0 : b < W0.heap.size := by have := hb0.size; omega
 have hSF : ∀ W, W.heap[w.heap.size]? = some (.cells #[.int .i64 3, .bool true, .int .i64 e.on.n, .slice (some ⟨b, off, none⟩) e.to.length c] 66 (0, 0)) -> Below K.PB W0 W -> W.cell? ⟨w.heap.size, 1, none⟩ = some (.bool true) ∧ W.cell? ⟨w.heap.size, 2, none⟩ = some (.int .i64 e.on.n) ∧ W.cell? ⟨w.heap.size, 3, none⟩ = some (.slice (some ⟨b, off, none⟩) e.to.length c) ∧ W.cell? ⟨b, off, none⟩ = some (.int .i64 t0) ∧ W.cell? ⟨b, off + 1, none⟩ = some (.int .i64 t1) := fun W hx hbW => ⟨(q0t hx).2.1, (q0t hx).2.2.1, (q0t hx).2.2.2, (hbW.cell hb).trans c0, (hbW.cell hb).trans c1⟩;have HSF := lh hSF;have hS0 := hSF W0 HX0.out (Below.refl _ _);clear hW0 hb0 hX0 hcell0 hcell1 hSF
 go_upto_region 1 with fail
 clear x0 x1 x2 x3 c0 c1
 go_region_held3 (fun W : World => W.cell? ⟨w.heap.size, 1, none⟩ = some (.bool true) ∧ W.cell? ⟨w.heap.size, 2, none⟩ = some (.int .i64 e.on.n) ∧ W.cell? ⟨w.heap.size, 3, none⟩ = some (.slice (some ⟨b, off, none⟩) e.to.length c) ∧ W.cell? ⟨b, off, none⟩ = some (.int .i64 t0) ∧ W.cell? ⟨b, off + 1, none⟩ = some (.int .i64 t1)) (first | with_reducible exact hS0 | with_reducible exact hS1 | with_reducible exact hS2 | go_keep) (first
  | (go_at_call 59; with_reducible refine Hic.out _ vc (HS0.out.below (by exact bl0)) (HP0.out.below (Below.mono (by exact bl0 : Below W0.heap.size W0 _) (by omega))) _ ?_; intro w1 v1 hs1 hg1; have hg1' : PiG K W0 vc w1 v1 := (PiG.of_below (by exact bl0)).trans hg1; have hx1 := (hg1'.keep lX hne hap0).trans HX0.out; have hS1 := HSF.out w1 hx1 (hg1'.below HS0.out (Nat.le_refl _)); have lX1 := qa hx1; have lb1 : b < w1.heap.size := Nat.lt_of_lt_of_le lb0 hg1'.grew.size; have hap1 := hg1'.apart lX hap0)
  | (go_at_call 55; refine q00 K _ v1 ⟨38, 0, a, 0, t0⟩ _ (hs1.below (by exact bl0)) (by rw [List.length_append]; omega) _ ?_; intro w2 v2 hs2 hg2; have hg2' : PiG K w1 v1 w2 v2 := (PiG.of_below (by exact bl0)).trans hg2; have hx2 := (hg2'.keep lX1 hne hap1).trans hx1; have hS2 := HSF.out w2 hx2 ((hg1'.trans hg2').below HS0.out (Nat.le_refl _)); have lX2 := qa hx2; have lb2 : b < w2.heap.size := Nat.lt_of_lt_of_le lb1 hg2'.grew.size))
 all_goals
  have HS2 := lh hs2;have HG2 := lh (HG0.out.trans (hg1'.trans hg2'));obtain ⟨y1, y2, y3, y4, y5⟩ := hS2;clear hs2 hg2 hg2' hs1 hg1 hg1' hx1 hx2 hS0 hS1
  go_wp2_with fail
  refine q58 K _ v2 t1 nx _ HS2.out (by rw [List.length_append, List.length_append, List.length_singleton]; omega) _ (fun w3 v3 hs3 hg3 => ?_);have HF := lh (HR.out w3 v3 (by have h1 := hs3; simp only [List.append_assoc] at h1 ⊢; exact h1) (HG2.out.trans hg3));clear hs3 hg3;go_wp2;refine bodyPost_ret (results_none rfl _ _ _) rfl ?_;exact HF.out
theorem qhe {t : Int -> Bool} (h : ∃ j : Nat, j ≤ 100 ∧ t (16 + (j : Int)) = false) : t (slotP t) = false := by
 unfold slotP
 cases hx : (List.range 101).find? fun i : Nat => !t (16 + (i : Int)) with
 | none =>
   obtain ⟨j, hj, ht⟩ := h;have := List.find?_eq_none.1 hx j (List.mem_range.2 (by omega));simp [ht] at this
 | some i =>
   have := List.find?_some hx;simpa using this
theorem qe7 (f : UFun) (many : Int) (ac : Bool) (row pl : List Int) (r : Int) (h : row.length ≤ 100) : q2g row pl (q5f f many ac row pl r) = false := by
 unfold q5f
 cases hx : (asksF f pl r ++ q2c many).find? (freeB many ac row pl) with
 | none => exact qhe (qa7 h)
 | some p =>
   have := List.find?_some hx;unfold freeB at this;rw [Bool.and_eq_true] at this;simpa using this.2
theorem qm4 {C : Int -> Int -> Bool} {n : Nat} {r : Int} (h : 0 ≤ r ∧ r < (n : Int)) : (rowsC C n).getD r.toNat [] = rowX (C r) n := by
 obtain ⟨k, rfl⟩ : ∃ k : Nat, r = (k : Int) := ⟨r.toNat, by omega⟩;have hk : k < n := by omega
 unfold rowsC ints;rw [Int.toNat_natCast, List.getD_eq_getElem?_getD, List.getElem?_map, List.getElem?_map, List.getElem?_range hk];rfl
theorem qav {pl : List Int} {n : Nat} (hl : pl.length = n) {x a p : Int} (hx : 0 ≤ x ∧ x < (n : Int)) (ha : 0 ≤ a) : plAt (pl.set x.toNat p) a = if a = x then p else plAt pl a := by
 unfold plAt;rw [List.getD_eq_getElem?_getD, List.getElem?_set, List.getD_eq_getElem?_getD]
 by_cases e : a = x
 ·subst e;rw [if_pos rfl, if_pos rfl, if_pos (by omega)];rfl
 ·rw [if_neg (by omega), if_neg e]
theorem qau {pl : List Int} {r : Int} (h0 : 0 ≤ r) (h1 : r < (pl.length : Int)) : plAt pl r ∈ pl := by
 unfold plAt;rw [List.getD_eq_getElem?_getD, List.getElem?_eq_getElem (show r.toNat < pl.length by omega)];exact List.getElem_mem _
theorem q8c {f : UFun} {n : Nat} {many : Int} {C : Int -> Int -> Bool} {A : Int -> Bool} (hn : n ≤ 100) (hs : ∀ a b, C a b = true -> C b a = true) :
 ∀ (xs P pl : List Int), (∀ x ∈ P ++ xs, 0 ≤ x ∧ x < (n : Int)) -> (P ++ xs).Nodup -> pl.length = n -> (∀ a ∈ P, ∀ b ∈ P, a ≠ b -> C a b = true -> plAt pl a ≠ plAt pl b) -> (∀ a ∈ P, plAt pl a ≠ -1) ->
  (∀ a ∈ P ++ xs, ∀ b ∈ P ++ xs, a ≠ b -> C a b = true -> plAt (xs.foldl (q4j f many A (rowsC C n)) pl) a ≠ plAt (xs.foldl (q4j f many A (rowsC C n)) pl) b) ∧
  ∀ a ∈ P ++ xs, plAt (xs.foldl (q4j f many A (rowsC C n)) pl) a ≠ -1
 | [], P, pl, _, _, _, h1, h2 => by
   rw [List.append_nil];exact ⟨h1, h2⟩
 | x :: xs, P, pl, hin, hnd, hl, h1, h2 => by
   have hx := hin x (by simp)
   have hxP : x ∉ P := fun hm => by
    rw [List.nodup_append] at hnd;exact hnd.2.2 x hm x (by simp) rfl
   have hnx : ∀ y ∈ P, y ≠ x := fun y hy e => hxP (by rw [<- e]; exact hy);have e : P ++ x :: xs = (P ++ [x]) ++ xs := by simp
   rw [e] at hin hnd ⊢;rw [List.foldl_cons];obtain ⟨p, hp⟩ : ∃ p, p = q5f f many (A x) ((rowsC C n).getD x.toNat []) pl x := ⟨_, rfl⟩;have hst : q4j f many A (rowsC C n) pl x = pl.set x.toNat p := by rw [hp]; rfl
   rw [hst]
   have hfree : q2g (rowX (C x) n) pl p = false := by
    rw [hp, qm4 hx];exact qe7 _ _ _ _ _ _ (Nat.le_trans (q5c _ _) hn)
   have hne : p ≠ -1 := by
    rcases qcm f many (A x) ((rowsC C n).getD x.toNat []) pl x with h | h
    ·rw [<- hp] at h;unfold q2e halfC at h;rw [decide_eq_true_eq] at h
     split at h <;> omega
    ·rw [<- hp] at h;omega
   have hap : ∀ a ∈ P, C x a = true -> plAt pl a ≠ p := fun a ha hc he => by
    have hi := hin a (by simp [ha]);have hm : a ∈ rowX (C x) n := mem_rowX.2 ⟨hi, hc⟩
    have h3 : q2g (rowX (C x) n) pl p = true := by
     unfold q2g;rw [List.any_eq_true];refine ⟨a, hm, ?_⟩;rw [decide_eq_true_eq, <- he];unfold plAt;rw [List.getD_eq_getElem?_getD, List.getD_eq_getElem?_getD, List.getElem?_eq_getElem (by omega)];rfl
    rw [hfree] at h3
    cases h3
   refine q8c hn hs xs (P ++ [x]) (pl.set x.toNat p) hin hnd (by rw [List.length_set]; exact hl) (fun a ha b hb hab hc => ?_) (fun a ha => ?_)
   ·have ia := (hin a (by rw [List.mem_append]; exact .inl ha)).1;have ib := (hin b (by rw [List.mem_append]; exact .inl hb)).1;rw [qav hl hx ia, qav hl hx ib]
    rcases List.mem_append.1 ha with ha1 | ha1 <;> rcases List.mem_append.1 hb with hb1 | hb1
    ·rw [if_neg (hnx a ha1), if_neg (hnx b hb1)];exact h1 a ha1 b hb1 hab hc
    ·have e1 : b = x := by simpa using hb1
     rw [if_neg (hnx a ha1), if_pos e1];rw [e1] at hc;exact hap a ha1 (hs _ _ hc)
    ·have e1 : a = x := by simpa using ha1
     rw [if_pos e1, if_neg (hnx b hb1)];rw [e1] at hc;exact fun e => hap b hb1 hc e.symm
    ·have h3 : a = x := by simpa using ha1
     have h4 : b = x := by simpa using hb1
     exact absurd (h3.trans h4.symm) hab
   ·have ia := (hin a (by rw [List.mem_append]; exact .inl ha)).1;rw [qav hl hx ia]
    rcases List.mem_append.1 ha with ha | ha
    ·rw [if_neg (hnx a ha)];exact h2 a ha
    ·have : a = x := by simpa using ha
     rw [if_pos this];exact hne
theorem q9o {f : UFun} {a b : Int} (h : Clash f a b) : Clash f b a := by
 obtain ⟨h1, h2, h3, h4⟩ := h;refine ⟨h2, h1, fun e => h3 e.symm, ?_⟩
 rcases h4 with h4 | h4 | h4
 ·exact .inl ⟨h4.2, h4.1⟩
 ·exact .inr (.inr h4)
 ·exact .inr (.inl h4)
theorem q78 {f : UFun} {n : Nat} {many : Int} {C : Int -> Int -> Bool} {A L : Int -> Bool} (hn : n ≤ 100) (hs : ∀ a b, C a b = true -> C b a = true) :
 (∀ a ∈ wantL f n L, ∀ b ∈ wantL f n L, a ≠ b -> C a b = true -> plAt (qy f n many C A L) a ≠ plAt (qy f n many C A L) b) ∧ ∀ a ∈ wantL f n L, plAt (qy f n many C A L) a ≠ -1 := by
 have hp := qs (wgt f) (wantL f n L);have hnd : (wantL f n L).Nodup := (q1s _ _).imp fun h e => by omega
 have := q8c (f := f) (many := many) (A := A) hn hs (sortW (wgt f) (wantL f n L)) [] (List.replicate n (-1))
  (fun x hx => (mem_rowX.1 (hp.mem_iff.1 hx)).1) (hp.nodup_iff.2 hnd) (List.length_replicate) (fun a ha => by cases ha) (fun a ha => by cases ha)
 simp only [List.nil_append] at this;exact ⟨fun a ha b hb => this.1 a (hp.mem_iff.2 ha) b (hp.mem_iff.2 hb), fun a ha => this.2 a (hp.mem_iff.2 ha)⟩
def begMv (pl : List Int) (p : Int) (lv : List Int) : List Move := (lv.filter fun r => decide (r < p)).map fun r => ⟨plAt pl r, r⟩
def begSt (pl : List Int) (p : Int) (lv : List Int) : List Mac := (lv.filter fun r => decide (p ≤ r) && decide (plAt pl r < 16)).map fun r => ⟨1, plAt pl r, 0, 0, 0⟩
def endL (pl : List Int) (s : Int) (S : List Int) (e : UEnd) (nx : Int) : List Mac :=
 if e.kind = 1 then (if e.on.reg = true then q0k 0 (plAt pl e.on.n) else [⟨1, 0, 0, 0, e.on.n⟩]) ++ (left s S ++ [q1n])
 else if e.kind = 2 then jumpL (e.to.getD 0 0) nx
 else if e.on.reg = false then (if e.on.n = 0 then jumpL (e.to.getD 1 0) nx else jumpL (e.to.getD 0 0) nx)
 else if e.to.getD 0 0 = nx then (heldL pl e.on 14).1 ++ [⟨39, 0, (heldL pl e.on 14).2, 0, e.to.getD 1 0⟩]
 else (heldL pl e.on 14).1 ++ [⟨38, 0, (heldL pl e.on 14).2, 0, e.to.getD 0 0⟩] ++ jumpL (e.to.getD 1 0) nx
def blkL (pl : List Int) (s : Int) (S : List Int) (b : UBlk) (i : Nat) : List Mac := b.list.flatMap (insL pl) ++ endL pl s S b.end_ ((i : Int) + 1)
def blksL (pl : List Int) (s : Int) (S : List Int) (bs : List UBlk) : Nat -> List Mac
 | 0 => []
 | k + 1 => blksL pl s S bs k ++ (match bs[k]? with | some b => blkL pl s S b k | none => [])
theorem q37 {pl : List Int} {s : Int} {S : List Int} {bs : List UBlk} {k : Nat} (h : k < bs.length) : blksL pl s S bs (k + 1) = blksL pl s S bs k ++ blkL pl s S bs[k] k := by
 rw [blksL, List.getElem?_eq_getElem h]
def begsL (pre : List Mac) (pl : List Int) (s : Int) (S : List Int) (bs : List UBlk) (k : Nat) : List Int := (List.range k).map fun j => ((pre ++ blksL pl s S bs j).length : Int)
theorem qga (pre : List Mac) (pl : List Int) (s : Int) (S : List Int) (bs : List UBlk) (k : Nat) : begsL pre pl s S bs (k + 1) = begsL pre pl s S bs k ++ [((pre ++ blksL pl s S bs k).length : Int)] := by
 unfold begsL;rw [List.range_succ, List.map_append];rfl
theorem qbk (pre : List Mac) (pl : List Int) (s : Int) (S : List Int) (bs : List UBlk) (k : Nat) : (begsL pre pl s S bs k).length = k := by simp [begsL]
def isJ (m : Mac) : Bool := decide (37 ≤ m.op ∧ m.op ≤ 39)
def fixM (B : List Int) (m : Mac) : Mac := if isJ m = true then ⟨m.op, m.dst, m.a, m.b, B.getD m.n.toNat 0⟩ else m
def preL (pl : List Int) (s : Int) (S : List Int) (p : Int) (lv : List Int) : List Mac := q2t s S ++ q0c (begMv pl p lv) ++ begSt pl p lv
def pickL (pl : List Int) (s : Int) (S : List Int) (p : Int) (lv : List Int) (bs : List UBlk) : List Mac :=
 (preL pl s S p lv ++ blksL pl s S bs bs.length).map (fixM (begsL (preL pl s S p lv) pl s S bs bs.length))
theorem q5a (t f : Int) : ∀ m ∈ q0k t f, isJ m = false := by
 intro m hm;unfold q0k at hm
 repeat' split at hm
 all_goals simp at hm
 all_goals first
  | (subst hm; rfl)
  | (rcases hm with rfl | rfl <;> rfl)
theorem q7c (l : List Move) : ∀ m ∈ q0c l, isJ m = false := by
 intro m hm;obtain ⟨x, _, hx⟩ := List.mem_flatMap.1 hm;exact q5a _ _ m hx
theorem q1m (pl : List Int) (v : UVal) (h : Int) : ∀ m ∈ (heldL pl v h).1, isJ m = false := by
 intro m hm;unfold heldL at hm
 repeat' split at hm
 all_goals simp at hm
 all_goals (subst hm; rfl)
theorem q3o (pl : List Int) {m : Mac} (r : Int) (hm : m.op < 37 ∨ 39 < m.op) : ∀ x ∈ toldL pl m r, isJ x = false := by
 intro x hx;unfold toldL at hx
 split at hx
 all_goals simp at hx
 ·subst hx;unfold isJ;rw [decide_eq_false_iff_not]
  show ¬ (37 ≤ m.op ∧ m.op ≤ 39);omega
 ·rcases hx with rfl | rfl
  ·unfold isJ;rw [decide_eq_false_iff_not]
   show ¬ (37 ≤ m.op ∧ m.op ≤ 39);omega
  ·rfl
theorem qli {u : Unt} {regs : Int} {pl : List Int} {x : UIns} (hx : InsOk u regs x) : ∀ m ∈ insL pl x, isJ m = false := by
 have ho := hx.op;have hap : ∀ {l k : List Mac}, (∀ m ∈ l, isJ m = false) -> (∀ m ∈ k, isJ m = false) -> ∀ m ∈ l ++ k, isJ m = false := fun h1 h2 m hm => (List.mem_append.1 hm).elim (h1 m) (h2 m)
 have hon : ∀ {m : Mac}, isJ m = false -> ∀ x ∈ [m], isJ x = false := fun h x hx => by
  rw [List.mem_singleton] at hx;rw [hx];exact h
 unfold insL
 split
 ·split
  ·exact q5a _ _
  ·exact q3o _ _ (.inl (show (1 : Int) < 37 by decide))
 split
 ·exact hap (q1m _ _ _) (q3o _ _ (.inl (show (3 : Int) < 37 by decide)))
 split
 ·exact hap (q1m _ _ _) (q3o _ _ (.inl (show (4 : Int) < 37 by decide)))
 split
 ·exact hap (q1m _ _ _) (q3o _ _ (.inl (show (33 : Int) < 37 by decide)))
 split
 ·exact hap (q1m _ _ _) (hap (q1m _ _ _) (hon rfl))
 split
 ·unfold callL;refine hap (hap (hap (q7c _) ?_) (hon rfl)) ?_
  ·have : ∀ k, ∀ m ∈ argSt x.args k, isJ m = false := by
    intro k
    induction k with
    | zero => intro m hm; cases hm
    | succ k ih =>
      rw [argSt];refine hap ih ?_
      split
      ·split
       ·intro m hm; cases hm
       ·exact hon rfl
      ·intro m hm; cases hm
   exact this _
  ·split
   ·exact q5a _ _
   ·intro m hm; cases hm
 split
 ·exact q3o _ _ (.inr (show (39 : Int) < 46 by decide))
 split
 ·exact hap (q1m _ _ _) (hon rfl)
 ·unfold twoL;refine hap (q1m _ _ _) ?_
  split
  ·exact q3o _ _ (.inl (show x.op + 17 < 37 by omega))
  ·exact hap (q1m _ _ _) (q3o _ _ (.inl (show x.op + 3 < 37 by omega)))
theorem Mac.cells_lengthP (m : Mac) : m.cells.length = 5 := rfl
theorem qdg {w : World} {B : Nat} {xs : List Mac} {b off n c : Nat} (h : rpMac.SL w B xs (.slice (some ⟨b, off, none⟩) n c)) : ∀ j u, (xs.flatMap Mac.cells)[j]? = some u -> w.cell? ((⟨b, off, none⟩ : Addr).add j) = some u := by
 intro j u hj;have hlt : j < xs.length * 5 := by rw [<- q0e Mac.cells 5 Mac.cells_lengthP]; exact (List.getElem?_eq_some_iff.1 hj).1
 have hk : j / 5 < xs.length := by omega
 obtain ⟨b', off', cs, hA, _, hr, hcs⟩ := h.at_ (List.getElem?_eq_getElem hk);injection hA with hA
 injection hA with h1 h2
 subst h1 h2;rw [rpMac_rep] at hr;subst hr;have hg := Rp.flat_get Mac.cells 5 Mac.cells_lengthP xs (j / 5) (j % 5) _ (List.getElem?_eq_getElem hk) (by omega);rw [show j / 5 * 5 + j % 5 = j from by omega, hj] at hg;have := hcs (j % 5) u hg.symm;rw [show off + j / 5 * rpMac.size + j % 5 = off + j from by show off + j / 5 * 5 + j % 5 = off + j; omega] at this;rw [<- this];unfold Addr.add
 by_cases h0 : j = 0 <;> simp [h0]
theorem qne (xs : List Mac) : ∀ u ∈ xs.flatMap Mac.cells, u.oneCell' = true := by
 intro u hu;obtain ⟨m, _, hm⟩ := List.mem_flatMap.1 hu;simp [Mac.cells] at hm
 rcases hm with rfl | rfl | rfl | rfl | rfl <;> rfl
theorem qki {P : Program} {ops : Array Oper} {o : Oper} {a : Act} {w : World} {K : Act -> World -> Prop} {Q : Exit -> Act -> World -> Prop} {E : Prop} (hg : o.guard = none) (c : Operand) (xs : Array Operand) (ts : Array TypeId) (ho : o.op = Op.call { callee := Callee.value c, args := xs, argTypes := ts }) (f : FuncId) (args : Array Value)
 (hr : (execOp a.eval o).run P w = .ok (.enter f args) w) (h : ∀ R : Ending -> World -> Prop, (∀ v w', K (a.put o.dst v) w' -> R (.returned v) w') -> Calls P f args w R) :
 if Region.wanted o (yielded ops a.tmps) = true then Oper.wp P o a w K Q else E := by
 rw [if_pos (by simp [Region.wanted, hg])];unfold Oper.wp;rw [hr];exact h _ fun v w' hv => hv
structure PiF (K : PiK) (s : Int) (S : List Int) (w : World) : Prop where
 a5 : K.a5 = .int .i64 s
 at_ : rpInt.SL w K.PB S K.a6
 s0 : 0 ≤ s
 s1 : s ≤ 1000
 few : S.length ≤ 8
theorem PiF.below {K : PiK} {s : Int} {S : List Int} {w w' : World} (h : PiF K s S w) (hb : Below K.PB w w') : PiF K s S w' := ⟨h.a5, h.at_.mono fun p u hp hc => (hb.cell hp).trans hc, h.s0, h.s1, h.few⟩
theorem PiF.up {K : PiK} {s : Int} {S : List Int} {w : World} (h : PiF K s S w) (hB : K.PB ≤ w.heap.size) : rpInt.SL w w.heap.size S K.a6 := Rp.SL.more h.at_ hB
theorem qn2 (K : PiK) (code : List Mac) (vc : Value) (pl : List Int) (s : Int) (S : List Int) (e : UEnd) (nx : Int) (vt : Value) (w : World) (h : PiS K code vc w) (hP : PiP K pl w) (hF : PiF K s S w) (hk : e.kind = 1) (hv : e.on.reg = true -> 0 ≤ e.on.n ∧ e.on.n < (pl.length : Int)) (hc : code.length ≤ 80000) (R : Ending -> World -> Prop)
 (hR : ∀ w' vc', PiS K (code ++ ((if e.on.reg = true then q0k 0 (plAt pl e.on.n) else [⟨1, 0, 0, 0, e.on.n⟩]) ++ (left s S ++ [q1n]))) vc' w' -> PiG K w vc w' vc' -> R (.returned (.tuple #[])) w') :
 Calls Tryz.prog 29 #[.pointer (some ⟨K.PB, 0, none⟩), .agg #[.int .i64 e.kind, .bool e.on.reg, .int .i64 e.on.n, vt], .int .i64 nx] w R := by
 obtain ⟨i0, hi0, hz0, hz1, hz2⟩ := info_parts q7o;obtain ⟨HR, HS, HP, HF⟩ := lh4 hR h hP hF;have lP : K.PB < w.heap.size := qa h.blk;have hbase := h.base;have hlt := K.hlt;obtain ⟨cr, hcr⟩ : ∃ l, l = (if e.on.reg = true then q0k 0 (plAt pl e.on.n) else [⟨1, 0, 0, 0, e.on.n⟩]) := ⟨_, rfl⟩
 have hcrl : cr.length ≤ 2 := by
  rw [hcr]
  split
  ·exact q59 _ _
  ·simp
 rw [<- hcr, <- List.append_assoc] at HR;obtain ⟨er, her⟩ : ∃ b, b = e.on.reg := ⟨_, rfl⟩;rw [<- her] at hcr hv;obtain ⟨Hcr, Hv⟩ := lh2 hcr hv;have Hc1 : Hid ((code ++ cr).length ≤ 90000) := lh (by rw [List.length_append]; omega);rw [hk, <- her];clear hR h hF hP hk her hcr hv
 go_enter Tryz.func29, Tryz.ntmps29
 go_upto_region 3 with fail
 obtain ⟨W0, hW0, hb0, hX0⟩ := box1 w (.cells #[.int .i64 1, .bool er, .int .i64 e.on.n, vt] 66) rfl;rw [<- hW0];have HS0 := lh (HS.out.below hb0);have HP0 := lh (HP.out.below (hb0.mono (Nat.le_of_lt lP)));have HG0 := lh (PiG.of_below (K := K) (vc := vc) hb0);obtain ⟨x0, x1, x2, x3⟩ := q0t hX0;have lX := qa hX0;clear hW0 hb0 hX0
 cases er
 case' true =>
  have hcr := Hcr.out;rw [if_pos rfl] at hcr;obtain ⟨a0, a1⟩ := Hv.out rfl;obtain ⟨b, off, c, k, ha4, hb, hk, hcell, hp0, hp1⟩ := HP0.out.cell a0 a1;have hS := (q0x HS0.out.blk).2.2.2.2.1;rw [ha4] at hS;have lPB := qa HS0.out.blk;have lb : b < W0.heap.size := by omega
  have k0 := nnn k;have k1 : (k : Int) < (pl.length : Int) := by omega
  obtain ⟨p, hp⟩ := nmm (plAt pl e.on.n);rw [<- hp] at hcell hp0 hp1 hcr;have HcrT := lh hcr;rw [hk] at x2;clear hp hk ha4 a0 a1 hcr Hcr Hv
  go_upto_region 5 with fail
  go_still_tail 10, (by kernel_rfl)
  change wpList _ _ _ _ _ W0.drew;have hbd : Below W0.heap.size W0 W0.drew := (Below.refl _ _).drew
  go_wp2_with fail
  refine q4b K code vc 0 p (by decide) (by omega) _ (HS0.out.below hbd) (by omega) _ (fun w1 v1 hs1 hg1 => ?_);rw [<- HcrT.out] at hs1;have HG1 := lh (HG0.out.trans ((PiG.of_below hbd).trans hg1));clear hbd hcell hS lPB lb k0 k1 hp0 hp1 hb
 case' false =>
  have hcr := Hcr.out;rw [if_neg (by decide)] at hcr;have HcrT := lh hcr;clear hcr Hcr Hv
  go_wp2_with fail
  refine q00 K code vc ⟨1, 0, 0, 0, e.on.n⟩ _ HS0.out (by omega) _ (fun w1 v1 hs1 hg1 => ?_);rw [<- HcrT.out] at hs1;have HG1 := lh (HG0.out.trans hg1)
 all_goals
  have HS1 := lh hs1;have HF1 := lh (HF.out.below (HG1.out.below HS.out (Nat.le_refl _)));obtain ⟨c1, hc1e⟩ : ∃ l, l = code ++ cr := ⟨_, rfl⟩;have hc1 := Hc1.out;rw [<- hc1e] at HS1 hc1 HR;clear x0 x1 x2 x3 lX HS0 HP0 HG0 hc1e Hc1 HcrT HP hcrl hs1 hg1;have hap1 : ∀ k, v1.ownBlock = some k -> K.base ≤ k ∧ k < w1.heap.size := fun k e => HS1.out.own.lt k e;obtain ⟨A, cc, hv⟩ := qj HS1.out.own;subst hv;have lP1 := qa HS1.out.blk;have hbase1 := HS1.out.base;have HFP : Hid (∀ W, Below w1.heap.size w1 W -> W.heap[K.PB]? = some (.cells #[K.a0, K.a1, K.a2, K.a3, K.a4, K.a5, K.a6, .slice A c1.length cc, K.a8] 58 (0, 0))) := lh fun W hW => (hW.block _ lP1).trans HS1.out.blk;obtain ⟨k0, k1, k2, k3, k4, k5, k6, k7, k8⟩ := q0x HS1.out.blk;rw [HF1.out.a5] at k5;have HB : Hid (∀ W, Below w1.heap.size w1 W -> W.cell? ⟨K.PB, 5, none⟩ = some (.int .i64 s) ∧ W.cell? ⟨K.PB, 6, none⟩ = some K.a6 ∧ W.cell? ⟨K.PB, 7, none⟩ = some (.slice A c1.length cc)) := lh fun W hW => ⟨(hW.cell lP1).trans k5, (hW.cell lP1).trans k6, (hW.cell lP1).trans k7⟩;clear k0 k1 k2 k3 k4 k8;have HSL : Hid (∀ W, Below w1.heap.size w1 W -> rpInt.SL W W.heap.size S K.a6) := lh fun W hW => (HF1.out.up (Nat.le_of_lt lP1)).up hW hW.size;have HBT : Hid (∀ W W', Below w1.heap.size w1 W -> Below W.heap.size W W' -> Below w1.heap.size w1 W') := lh fun W W' h1 h2 => h1.trans (h2.mono h1.size);have hFl : Hid (((left s S ++ [q1n]).flatMap Mac.cells).length = (S.length + 1) * 5) := lh (by rw [q0e Mac.cells 5 Mac.cells_lengthP, List.length_append, q2k]; rfl)
  go_upto_region 7 with fail
  go_region_law (first
   | (refine qki rfl _ _ _ rfl 25 #[.agg #[.int .i64 s, K.a6]] (by simp [go_sem]) (fun R hR => ?_); refine q98 s K.a6 S _ (HSL.out _ (by exact bl0)) HF1.out.s0 HF1.out.s1 HF1.out.few _ ?_; intro w2 v2 hb2 ho2; refine hR _ _ ?_; clear hR; have hbw2 : Below w1.heap.size w1 w2 := HBT.out _ _ (by exact bl0) hb2; obtain ⟨m5, m6, m7⟩ := HB.out w2 hbw2; have lP2 := qa (HFP.out w2 hbw2); obtain ⟨gL, cL, hvL, hgL, hgL1, hgL2, hgL3⟩ := q3v ho2 (Nat.succ_pos _); subst hvL)
   | (refine step_append_lies _ rfl (.tmp 52) (.tmp 57) 35 rfl K.base 45 i0 _ 5 40 Tryz.underlying35 hi0 hz0 hz1 hz2 rfl (by decide) (.slice A c1.length cc) c1.length (c1.flatMap Mac.cells) (by simp [Act.eval, Act.put]) (q0d HS1.out.own (HBT.out _ _ hbw2 (by exact bl0))) ⟨gL, 0, none⟩ (S.length + 1) cL ((left s S ++ [q1n]).flatMap Mac.cells) (by simp [Act.eval, Act.put]) hFl.out (fun j u hj => ((by exact bl0 : Below w2.heap.size w2 _).cell (by simp only [Addr.add]; split <;> exact hgL1)).trans (qdg (q61 (by rw [List.length_append, q2k]; exact ho2) (Nat.le_refl _)) j u hj)) (qne _) (Nat.succ_pos _) (by have := HF1.out.few; unfold maxLen; omega) (by have := HF1.out.few; omega) (by have := hbw2.size; first | omega | (simp; omega)) _ rfl ?_; intro g1 cap1 w3 hown1 hgrow1 hat1 hlt1; have hP1 : w3.heap[K.PB]? = some (.cells #[K.a0, K.a1, K.a2, K.a3, K.a4, K.a5, K.a6, .slice A c1.length cc, K.a8] 58 (0, 0)) := (hgrow1.block K.PB (by first | omega | (simp; omega)) (fun e => by have h9 := (HS1.out.own.lt _ e.symm).1; omega)).trans ((Below.block (by exact bl0 : Below w2.heap.size w2 _) _ lP2).trans (HFP.out w2 hbw2)); have c7 : w3.cell? ⟨K.PB, 7, none⟩ = some (.slice A c1.length cc) := (by rw [qb hP1]; rfl); have f7 : w3.frozen? ⟨K.PB, 7, none⟩ = false := (by simp [World.frozen?, hP1]); have l7 := qa hP1))
  all_goals
   have hgw : PiG K w1 (.slice A c1.length cc) (w3.setCell ⟨K.PB, 7, none⟩ (.slice (some ⟨g1, 0, none⟩) (c1.length + (S.length + 1)) cap1)) (.slice (some ⟨g1, 0, none⟩) (c1.length + (S.length + 1)) cap1) := by
    have hlb : w1.heap.size ≤ w2.heap.size := hbw2.size;refine ⟨?_, fun k e => ?_⟩
    ·have hg1 : Grew (fun k => k = K.PB ∨ (Value.slice A c1.length cc).ownBlock = some k) w1 w3 := (Grew.of_below (HBT.out _ _ hbw2 (by exact bl0)) (fun k h1 h2 => absurd h1 (by omega))).trans (Grew.of_grown hgrow1) (fun j hj e => .inr e);exact hg1.setCell ⟨K.PB, 7, none⟩ (.inl (.inl rfl)) _
    ·have e1 : g1 = k := by injection e
     rcases hat1 with h9 | h9
     ·exact .inl (by rw [h9, e1])
     ·refine .inr ?_;rw [<- e1, h9]
      first | omega | (simp; omega)
   have hP2 := qjl hP1 (.slice (some ⟨g1, 0, none⟩) (c1.length + (S.length + 1)) cap1)
   have hO1 : w3.ownsRow K.base 45 5 (.slice (some ⟨g1, 0, none⟩) (c1.length + (S.length + 1)) cap1) (c1 ++ (left s S ++ [q1n])).length ((c1 ++ (left s S ++ [q1n])).flatMap Mac.cells) := by
    rw [List.length_append, List.flatMap_append, List.length_append, q2k];exact hown1
   have hO2 := ql hO1 (p := ⟨K.PB, 7, none⟩) (fun e => by have h9 : K.base ≤ K.PB := (hO1.lt _ e).1; omega) (.slice (some ⟨g1, 0, none⟩) (c1.length + (S.length + 1)) cap1);have hz2 : K.base ≤ (w3.setCell ⟨K.PB, 7, none⟩ (.slice (some ⟨g1, 0, none⟩) (c1.length + (S.length + 1)) cap1)).heap.size := Nat.le_trans hbase1 hgw.grew.size;have HFin := lh (HR.out _ _ ⟨hP2, hO2, hz2⟩ (HG1.out.trans hgw));clear hP2 hO2 hz2 hgw hO1 hgrow1 hat1 hown1 hP1;refine bodyPost_ret (results_none rfl _ _ _) rfl ?_;exact HFin.out
theorem PiG.live {K : PiK} {code : List Mac} {w w' : World} {vc vc' vl : Value} {lv : List Int} (h : PiG K w vc w' vc') (hs : PiS K code vc w) (hl : rpInt.SLF w (K.PB + 1) K.base lv vl) : rpInt.SLF w' (K.PB + 1) K.base lv vl := by
 refine Rp.SL.mono (show rpInt.SL _ K.base lv vl from hl) fun p u hb hp => ?_;obtain ⟨h1, h2⟩ := q3h hp;have h3 : K.PB + 1 ≤ p.block := of_decide_eq_true h2;have hbs := hs.base
 rw [q1w _ _ _ h2, World.cell?_of_block (h.grew.block p.block (by omega) (fun e => by
  rcases e with e | e
  ·omega
  ·have := (hs.own.lt _ e).1;omega))]
 exact h1
theorem qcp {K : PiK} {w : World} {A : Option Addr} {n c k : Nat} {lv : List Int} (h : rpInt.SLF w (K.PB + 1) K.base lv (.slice A n c)) (hk : k < lv.length) : ∃ b off, A = some ⟨b, off, none⟩ ∧ b < K.base ∧ w.cell? ⟨b, off + k, none⟩ = some (.int .i64 lv[k]) := by
 obtain ⟨b, off, h1, h2, h3⟩ := h.SL.int_at hk;refine ⟨b, off, h1, h2, ?_⟩;rw [h3, List.getD_eq_getElem?_getD, List.getElem?_eq_getElem hk];rfl
theorem qg8 {pl : List Int} {p : Int} {lv : List Int} {i : Nat} (h : i < lv.length) : begMv pl p (lv.take (i + 1)) = begMv pl p (lv.take i) ++ if lv[i] < p then [⟨plAt pl lv[i], lv[i]⟩] else [] := by
 unfold begMv;rw [List.take_succ_eq_append_getElem h, List.filter_append, List.map_append]
 congr 1
 by_cases e : lv[i] < p <;> simp [e]
theorem qg9 {pl : List Int} {p : Int} {lv : List Int} {i : Nat} (h : i < lv.length) : begSt pl p (lv.take (i + 1)) = begSt pl p (lv.take i) ++ if p ≤ lv[i] ∧ plAt pl lv[i] < 16 then [⟨1, plAt pl lv[i], 0, 0, 0⟩] else [] := by
 unfold begSt;rw [List.take_succ_eq_append_getElem h, List.filter_append, List.map_append]
 congr 1
 by_cases e : p ≤ lv[i] <;> by_cases e2 : plAt pl lv[i] < 16 <;> simp [e, e2]
theorem q88 (pl : List Int) (p : Int) (lv : List Int) : (begMv pl p lv).length ≤ lv.length := by
 unfold begMv;rw [List.length_map];exact List.length_filter_le _ _
theorem qbj (pl : List Int) (p : Int) (lv : List Int) : (begSt pl p lv).length ≤ lv.length := by
 unfold begSt;rw [List.length_map];exact List.length_filter_le _ _
theorem qdk {pl : List Int} {p : Int} {lv : List Int} (hp : ∀ p ∈ pl, -1 ≤ p ∧ p ≤ 1000) (hl : ∀ r ∈ lv, 0 ≤ r ∧ r < (pl.length : Int)) (hn : pl.length ≤ 100) : MvB (begMv pl p lv) := by
 intro m hm;obtain ⟨r, hr, rfl⟩ := List.mem_map.1 hm;have h1 := hl r (List.mem_filter.1 hr).1;have h2 := hp _ (qau h1.1 h1.2);exact ⟨⟨by dsimp only; omega, by dsimp only; omega⟩, by dsimp only; omega, by dsimp only; omega⟩
theorem qdl (K : PiK) (pl : List Int) (s : Int) (S : List Int) (p : Int) (lv : List Int) (vl : Value) (w : World) (h : PiS K [] (.slice none 0 0) w) (hP : PiP K pl w) (hF : PiF K s S w) (ha : K.a1 = .int .i64 p) (hl : rpInt.SLF w (K.PB + 1) K.base lv vl) (hin : ∀ r ∈ lv, 0 ≤ r ∧ r < (pl.length : Int)) (hn : lv.length ≤ 100 ∧ pl.length ≤ 100) (hf : Fine 15 (q3t (begMv pl p lv))) (R : Ending -> World -> Prop)
 (hR : ∀ w' vc', PiS K (preL pl s S p lv) vc' w' -> PiG K w (.slice none 0 0) w' vc' -> R (.returned (.tuple #[])) w') :
 Calls Tryz.prog 26 #[.pointer (some ⟨K.PB, 0, none⟩), vl] w R := by
 obtain ⟨i0, hi0, hz0, hz1, hz2⟩ := info_parts q4r;obtain ⟨HR, HS, HP, HF, Hf, Hin⟩ := lh6 hR h hP hF hf hin;obtain ⟨hn1, hn2⟩ := hn;have hmb := qdk (p := p) hP.small hin hn2;have Hmb := lh hmb;have lP : K.PB < w.heap.size := qa h.blk;have hbase := h.base;have hlt := K.hlt;obtain ⟨Al, cl, rfl, _, _, hl⟩ := hl.cases_;have HL := lh hl;obtain ⟨k0, k1, k2, k3, k4, k5, k6, k7, k8⟩ := q0x h.blk;rw [hF.a5] at k5;have Ha := lh ha;clear hR h hP hF hf hin hmb hl ha
 go_enter Tryz.func26, Tryz.ntmps26
 go_wp2_with fail
 refine q80 s K.a6 S _ (HF.out.up (Nat.le_of_lt lP)) HF.out.s0 HF.out.s1 HF.out.few _ (fun w1 v1 hb1 ho1 => ?_);obtain ⟨E1, e1, hv1⟩ := qj ho1;subst hv1;have hP1 := (hb1.block _ lP).trans HS.out.blk;have f7 := fzz hP1 7;have l7 := qa hP1;have c7 := (q0x hP1).2.2.2.2.2.2.2.1;have hlE : ∀ k, (Value.slice E1 S.length e1).ownBlock = some k -> w.heap.size ≤ k := fun k e => (ho1.lt k e).1;obtain ⟨W2, hW2⟩ : ∃ W2, W2 = w1.setCell ⟨K.PB, 7, none⟩ (.slice E1 S.length e1) := ⟨_, rfl⟩
 have hS2 : PiS K (q2t s S) (.slice E1 S.length e1) W2 := by
  subst hW2;refine ⟨qjl hP1 _, ?_, Nat.le_trans hbase (Nat.le_trans hb1.size (by simp [World.setCell]))⟩;have ho2 := ql ho1 (p := ⟨K.PB, 7, none⟩) (fun e => by have : w.heap.size ≤ K.PB := hlE _ e; omega) (.slice E1 S.length e1);rw [q1e];exact q1y ho2 hbase
 have hG2 : PiG K w (.slice none 0 0) W2 (.slice E1 S.length e1) := by
  subst hW2;exact ⟨(Grew.of_below hb1 (fun k h1 h2 => absurd h1 (by omega))).setCell ⟨K.PB, 7, none⟩ (.inl (.inl rfl)) _, fun k e => .inr (hlE k e)⟩
 obtain ⟨HS2, HG2⟩ := lh2 hS2 hG2;have HW2 := lh hW2.symm;clear k0 k1 k2 k3 k4 k5 k6 k7 k8 hb1 ho1 hP1 hlE hS2 hG2 hW2
 go_upto_region 2 with fail
 rw [HW2.out];clear f7 l7 c7 HW2;have lP2 : K.PB < W2.heap.size := qa HS2.out.blk;have hbs2 := HS2.out.base;have HL2 := lh (HG2.out.live HS.out HL.out);have HP2 := lh (HP.out.step HS.out HG2.out);have HM0 : Hid (W2.ownsRow W2.heap.size 81 2 (.slice none 0 0) (begMv pl p (lv.take 0)).length ((begMv pl p (lv.take 0)).flatMap Move.cells)) := lh (World.ownsRow_nil _ _ _ _);have HPB2 := lh HS2.out.blk
 have HKL : Hid (∀ W, Below W2.heap.size W2 W -> ∀ i, i < lv.length -> ∃ b off, Al = some ⟨b, off, none⟩ ∧ b < W.heap.size ∧ W.cell? ⟨b, off + i, none⟩ = some (.int .i64 (lv.getD i 0))) := lh fun W hW i hi => by
  obtain ⟨b, off, h1, h2, h3⟩ := qcp HL2.out hi;refine ⟨b, off, h1, by have := hW.size; omega, ?_⟩;rw [(hW.cell (show b < W2.heap.size by omega)).trans h3, List.getD_eq_getElem?_getD, List.getElem?_eq_getElem hi];rfl
 have HKP : Hid (∀ W, Below W2.heap.size W2 W -> ∀ i, i < lv.length -> W.cell? ⟨K.PB, 1, none⟩ = some (.int .i64 p) ∧ W.cell? ⟨K.PB, 4, none⟩ = some K.a4 ∧ ∃ b off c k, K.a4 = .slice (some ⟨b, off, none⟩) pl.length c ∧ b < W.heap.size ∧ lv.getD i 0 = ((k : Nat) : Int) ∧ k < pl.length ∧ W.cell? ⟨b, off + k, none⟩ = some (.int .i64 (plAt pl (lv.getD i 0)))) := lh fun W hW i hi => by
  have h0 := (hW.block _ lP2).trans HPB2.out;obtain ⟨k0, k1, k2, k3, k4, k5, k6, k7, k8⟩ := q0x h0;rw [Ha.out] at k1
  have hr : 0 ≤ lv.getD i 0 ∧ lv.getD i 0 < (pl.length : Int) := by
   rw [List.getD_eq_getElem?_getD, List.getElem?_eq_getElem hi];exact Hin.out _ (List.getElem_mem hi)
  obtain ⟨b, off, c, k, h1, h2, h3, h4, _⟩ := HP2.out.cell hr.1 hr.2;exact ⟨k1, k4, b, off, c, k, h1, by have := hW.size; omega, h3, by omega, (hW.cell (show b < W2.heap.size by omega)).trans h4⟩
 have Htk : Hid (∀ i, i < lv.length -> begMv pl p (lv.take (i + 1)) = begMv pl p (lv.take i) ++ if lv.getD i 0 < p then [⟨plAt pl (lv.getD i 0), lv.getD i 0⟩] else []) := lh fun i hi => by
  rw [qg8 hi, List.getD_eq_getElem?_getD, List.getElem?_eq_getElem hi];rfl
 have Hts : Hid (∀ i, i < lv.length -> begSt pl p (lv.take (i + 1)) = begSt pl p (lv.take i) ++ if p ≤ lv.getD i 0 ∧ plAt pl (lv.getD i 0) < 16 then [⟨1, plAt pl (lv.getD i 0), 0, 0, 0⟩] else []) := lh fun i hi => by
  rw [qg9 hi, List.getD_eq_getElem?_getD, List.getElem?_eq_getElem hi];rfl
 clear hl;go_wp2
 go_loopg [4, 19] lv.length (fun gh s4 s19 wr => ∃ i : Nat, i ≤ lv.length ∧ gh = lv.length - i ∧ s19 = .int .i64 (i : Int) ∧ Hid (Below W2.heap.size W2 wr) ∧ Hid (wr.ownsRow W2.heap.size 81 2 s4 (begMv pl p (lv.take i)).length ((begMv pl p (lv.take i)).flatMap Move.cells)))
 case atStart => exact ⟨0, Nat.zero_le _, rfl, rfl, lh (Below.refl _ _), HM0⟩
 case round =>
  clear HM0;obtain ⟨i, hi, rfl, rfl, Hb, HM⟩ := hrel;have i0' : (0 : Int) ≤ (i : Int) := Int.natCast_nonneg _;have hzr := Hb.out.size;obtain ⟨mA, mc, hsm⟩ := qj HM.out;subst hsm
  by_cases hlt' : i < lv.length
  ·have hml := q88 pl p (lv.take i);rw [List.length_take] at hml;have i1 : (i : Int) < (lv.length : Int) := Int.ofNat_lt.2 hlt';obtain ⟨ba, oa, hAa, lba, q0⟩ := HKL.out wr Hb.out i hlt';subst hAa;obtain ⟨k1, k4, b, off, c, k, ha4, lb, hrk, hkl, q1⟩ := HKP.out wr Hb.out i hlt';rw [ha4] at k4;have hst := Htk.out i hlt';obtain ⟨r, hr⟩ := nmm (lv.getD i 0);obtain ⟨q, hq⟩ := nmm (plAt pl r);rw [<- hr] at q0 q1 hst hrk;rw [<- hq] at q1 hst;have Hst := lh hst;have lPr : K.PB < wr.heap.size := by omega
   have j0 : (0 : Int) ≤ r := by omega
   have j1 : r < (pl.length : Int) := by omega
   clear hr hq hst ha4;subst hrk
   by_cases hp : (k : Int) < p
   ·rw [if_pos hp] at Hst
    go_wp2_with (at_builtin; refine wpList_append_own _ rfl _ _ 76 rfl W2.heap.size 81 i0 _ 2 16 Tryz.underlying76 hi0 hz0 hz1 hz2 rfl (by decide) (.slice mA (begMv pl p (lv.take i)).length mc) (begMv pl p (lv.take i)).length ((begMv pl p (lv.take i)).flatMap Move.cells) rfl (HM.out.alloc _) ⟨wr.heap.size, 0, none⟩ 1 1 [.int .i64 q, .int .i64 (k : Int)] rfl rfl ?_ ?_ ?_ ?_ ?_ ?_)
    ·exact World.news_of_block (cs := #[.int .i64 q, .int .i64 (k : Int)]) (t := 81) (fr := (0, 0)) (heap_alloc_new wr _)
    ·simp [Value.oneCell']
    ·unfold maxLen; omega
    ·omega
    ·simp; omega
    ·intro v' w3 hown3 hgrow3 _;have HB3 := lh ((Hb.out.alloc hzr (.cells #[.int .i64 q, .int .i64 (k : Int)] 81)).grown hgrow3 (by simp; omega) (fun j hj => (HM.out.lt j hj).1))
     have HO3 : Hid (w3.ownsRow W2.heap.size 81 2 v' (begMv pl p (lv.take (i + 1))).length ((begMv pl p (lv.take (i + 1))).flatMap Move.cells)) := lh (by
      rw [Hst.out, List.length_append, List.flatMap_append];exact hown3)
     clear hown3 hgrow3 q0 q1 k1 k4;go_wp2
     go_roundg (lv.length - (i + 1))
     case measure => omega
     case rel => exact ⟨i + 1, hlt', rfl, by go_num, HB3, HO3⟩
   ·rw [if_neg hp, List.append_nil] at Hst;go_wp2
    go_roundg (lv.length - (i + 1))
    case measure => omega
    case rel => exact ⟨i + 1, hlt', rfl, by go_num, Hb, by rw [Hst.out]; exact HM⟩
  ·obtain rfl : i = lv.length := by omega
   have i1 : ¬ (lv.length : Int) < (lv.length : Int) := by omega
   rw [List.take_length] at HM ⊢;obtain ⟨l, hl⟩ := nmm (begMv pl p lv);have hml := q88 pl p lv;rw [<- hl] at HM hml Hf Hmb ⊢;have hpre : preL pl s S p lv = q2t s S ++ q0c l ++ begSt pl p lv := by rw [hl]; rfl
   rw [hpre] at HR;have HSr := lh (HS2.out.below Hb.out);have HGr := lh (HG2.out.trans (PiG.of_below Hb.out));have hent := q1e s S;have hS8 := HF.out.few;have hra := q8u l;have hma := q4t l;clear hl hpre HKL HKP Htk
   go_wp2_with fail
   refine q5j K (q2t s S) _ l _ _ HSr.out (q1h HM.out (Nat.le_refl _)) (by omega) Hf.out Hmb.out (by omega) _ (fun w3 v3 hs3 hg3 => ?_);have HS3 := lh hs3;have HG3 := lh (HGr.out.trans hg3);clear hs3 hg3;obtain ⟨c3, hc3⟩ : ∃ l', l' = q2t s S ++ q0c l := ⟨_, rfl⟩;have hc3l : c3.length ≤ 1000 := by rw [hc3, List.length_append]; omega
   rw [<- hc3] at HS3 HR;clear hc3 hra hma hent;go_wp2
   go_loopg [48] lv.length (fun gh s48 wq => ∃ (i : Nat) (vq : Value), i ≤ lv.length ∧ gh = lv.length - i ∧ s48 = .int .i64 (i : Int) ∧ Hid (PiS K (c3 ++ begSt pl p (lv.take i)) vq wq) ∧ Hid (PiG K w (.slice none 0 0) wq vq))
   case atStart => exact ⟨0, v3, Nat.zero_le _, rfl, rfl, lh (by rw [List.take_zero]; unfold begSt; rw [List.filter_nil, List.map_nil, List.append_nil]; exact HS3.out), HG3⟩
   case round =>
    obtain ⟨i, vq, hi, rfl, rfl, HSq, HGq⟩ := hrel;have i0' : (0 : Int) ≤ (i : Int) := Int.natCast_nonneg _;have hbl := qbj pl p (lv.take i);rw [List.length_take] at hbl
    by_cases hlt' : i < lv.length
    ·have i1 : (i : Int) < (lv.length : Int) := Int.ofNat_lt.2 hlt';have hlr := HGq.out.live HS.out HL.out;obtain ⟨ba, oa, hAa, lba, q0⟩ := qcp hlr hlt';subst hAa;have hr1 := Hin.out _ (List.getElem_mem hlt');have hst := Hts.out i hlt';rw [List.getD_eq_getElem?_getD, List.getElem?_eq_getElem hlt'] at hst;have hst : begSt pl p (lv.take (i + 1)) = begSt pl p (lv.take i) ++ if p ≤ lv[i] ∧ plAt pl lv[i] < 16 then [⟨1, plAt pl lv[i], 0, 0, 0⟩] else [] := hst;obtain ⟨r, hr⟩ : ∃ r, r = lv[i] := ⟨_, rfl⟩;rw [<- hr] at q0 hst hr1;obtain ⟨b, off, c, k, ha4, lb, hrk, q1, _⟩ := (HP.out.step HS.out HGq.out).cell hr1.1 hr1.2;obtain ⟨k0, k1, k2, k3, k4, k5, k6, k7, k8⟩ := q0x HSq.out.blk;rw [Ha.out] at k1;rw [ha4] at k4;obtain ⟨q, hq⟩ := nmm (plAt pl r);rw [<- hq] at q1 hst;have Hst := lh hst;have lPr : K.PB < wr.heap.size := qa HSq.out.blk;have hbq := HSq.out.base;have lb' : b < wr.heap.size := by omega
     have lba' : ba < wr.heap.size := by omega
     have j0 : (0 : Int) ≤ r := hr1.1;have j1 : r < (pl.length : Int) := hr1.2;clear hr hq hst ha4 hlr k0 k2 k3 k5 k6 k7 k8 hr1;subst hrk
     by_cases hp : p ≤ (k : Int)
     ·by_cases hq : q < 16
      ·rw [if_pos ⟨hp, hq⟩] at Hst
       go_wp2_with fail
       refine q00 K _ vq ⟨1, q, 0, 0, 0⟩ _ HSq.out (by rw [List.length_append]; omega) _ (fun w5 v5 hs5 hg5 => ?_);have HS5 : Hid (PiS K (c3 ++ begSt pl p (lv.take (i + 1))) v5 w5) := lh (by rw [Hst.out, <- List.append_assoc]; exact hs5);have HG5 := lh (HGq.out.trans hg5);clear hs5 hg5 q0 q1 k1 k4;go_wp2
       go_roundg (lv.length - (i + 1))
       case measure => omega
       case rel => exact ⟨i + 1, v5, hlt', rfl, by go_num, HS5, HG5⟩
      ·rw [if_neg (fun h => hq h.2), List.append_nil] at Hst;go_wp2
       go_roundg (lv.length - (i + 1))
       case measure => omega
       case rel => exact ⟨i + 1, vq, hlt', rfl, by go_num, by rw [Hst.out]; exact HSq, HGq⟩
     ·rw [if_neg (fun h => hp h.1), List.append_nil] at Hst;go_wp2
      go_roundg (lv.length - (i + 1))
      case measure => omega
      case rel => exact ⟨i + 1, vq, hlt', rfl, by go_num, by rw [Hst.out]; exact HSq, HGq⟩
    ·obtain rfl : i = lv.length := by omega
     have i1 : ¬ (lv.length : Int) < (lv.length : Int) := by omega
     rw [List.take_length] at HSq;have HFin := lh (HR.out wr vq HSq.out HGq.out);go_wp2;refine bodyPost_ret (results_none rfl _ _ _) rfl ?_;exact HFin.out
end Go.Proofs.YtdanebboiekieaaGreatDoor
