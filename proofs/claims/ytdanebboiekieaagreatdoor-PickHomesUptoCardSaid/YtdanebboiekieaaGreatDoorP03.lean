/- The walks, part 3. -/
import Derived.Test.YtdanebboiekieaaGreatDoorP02
import Derived.LaidMore
import Derived.ShutString
import Derived.Stop.Joined
set_option linter.unusedSimpArgs false
set_option linter.unusedVariables false
set_option maxRecDepth 100000
set_option maxHeartbeats 16000000
namespace Go.Proofs.YtdanebboiekieaaGreatDoor
open Go.RowKit
theorem insW {w W w1 : World} {x0 x1 x2 x3 x4 x5 x6 x7 c0 c1 c2 c3 c4 c5 c6 : Value} {S T : TypeId} (h0 : Below w.heap.size w W) (h1 : Below W.heap.size W w1) (HX : W.heap[w.heap.size + 1]? = some (.cells #[x0, x1, x2, x3, x4, x5, x6, x7] S (0, 0))) (HC : W.heap[w.heap.size]? = some (.cells #[c0, c1, c2, c3, c4, c5, c6] T (0, 0))) :
 (w1.cell? ⟨w.heap.size + 1, 0, none⟩ = some x0 ∧ w1.cell? ⟨w.heap.size + 1, 1, none⟩ = some x1 ∧ w1.cell? ⟨w.heap.size + 1, 2, none⟩ = some x2 ∧ w1.cell? ⟨w.heap.size + 1, 3, none⟩ = some x3 ∧ w1.cell? ⟨w.heap.size + 1, 4, none⟩ = some x4 ∧ w1.cell? ⟨w.heap.size + 1, 5, none⟩ = some x5 ∧ w1.cell? ⟨w.heap.size + 1, 6, none⟩ = some x6 ∧ w1.cell? ⟨w.heap.size + 1, 7, none⟩ = some x7) ∧ (w1.cell? ⟨w.heap.size, 0, none⟩ = some c0 ∧ w1.cell? ⟨w.heap.size, 1, none⟩ = some c1 ∧ w1.cell? ⟨w.heap.size, 2, none⟩ = some c2 ∧ w1.cell? ⟨w.heap.size, 3, none⟩ = some c3 ∧ w1.cell? ⟨w.heap.size, 4, none⟩ = some c4 ∧ w1.cell? ⟨w.heap.size, 5, none⟩ = some c5 ∧ w1.cell? ⟨w.heap.size, 6, none⟩ = some c6) ∧ w.heap.size + 1 < w1.heap.size ∧ w.heap.size < w1.heap.size ∧ RowKit.Hid (w1.heap[w.heap.size + 1]? = some (.cells #[x0, x1, x2, x3, x4, x5, x6, x7] S (0, 0))) ∧ RowKit.Hid (w1.heap[w.heap.size]? = some (.cells #[c0, c1, c2, c3, c4, c5, c6] T (0, 0))) ∧ RowKit.Hid (Below w.heap.size w w1) := by
 have hX := (h1.block _ (qa HX)).trans HX;have hC := (h1.block _ (qa HC)).trans HC;exact ⟨qe hX, qr hC, qa hX, qa hC, hX, hC, h0.trans (h1.mono h0.size)⟩
theorem qas (r s : Bool) (n m : Int) (w : World) : (binOp .neq 64 (.agg #[.bool r, .int .i64 n]) (.agg #[.bool s, .int .i64 m])).run Tryz.prog w = .ok (.bool (!decide (r = s ∧ n = m))) w := by
 have hp : Tryz.prog.stoodInHeld 64 = false := by kernel_rfl
 have ht : Tryz.prog.underlying 64 = some (.struct (Tryz.prog.fieldsOf 64)) := by kernel_rfl
 rw [run_neq_struct, run_equalIn_agg _ _ _ _ _ ht hp];have h3 := Tryz.underlying3;have h4 := Tryz.underlying4;simp [Tryz.underlying64, go_sem, h3, h4]
 by_cases h2 : n = m <;> cases r <;> cases s <;> simp [h2]
theorem qfb (v : UVal) : decide (v.reg = false ∧ v.n = 0) = isZ v := by
 unfold isZ
 cases v.reg <;> simp
theorem qiz (gA fA bA aA : Option Addr) (gn gc fn fc bn bc' an ac : Nat) (nm : ByteArray) (pr rg : Int) (u : Unt) (x : UIns) (va : Value) (hrg : I64 rg) (h0 : -9223372036854775807 ≤ rg) (w : World)
 (hf : rpFun.SL w w.heap.size u.funcs (.slice fA fn fc)) (ha : rpVal.SL w w.heap.size x.args va)
 (R : Ending -> World -> Prop) (hR : ∀ w', Below w.heap.size w w' -> R (.returned (.int .i64 (insF u rg x))) w') :
 Calls Tryz.prog 138 #[(.agg #[.slice gA gn gc, .slice fA fn fc, .string nm, .int .i64 pr, .int .i64 rg, .slice bA bn bc', .slice aA an ac]), .agg #[.int .i64 x.op, .int .i64 x.dst, .bool x.a.reg, .int .i64 x.a.n, .bool x.b.reg, .int .i64 x.b.n, .int .i64 x.fn, va]] w R := by
 obtain ⟨A, c, rfl, hal, _, ha⟩ := ha.cases_;have HR := lh hR
 by_cases hop : ¬ (1 ≤ x.op ∧ x.op ≤ 22)
 ·have e : insF u rg x = 4 := by unfold insF; rw [if_pos hop]
  rw [e] at HR;have hd : decide (1 ≤ x.op ∧ x.op ≤ 22) = false := by simpa using hop
  clear hR e hop hf ha
  go_enter Tryz.func138, Tryz.ntmps138
  go_wp2_with (refine qd _ _ _ _ _ ?_; rw [hd])
  exact HR.out _ bl0
 have hop := Decidable.of_not_not hop;have hop' : decide (1 ≤ x.op ∧ x.op ≤ 22) = true := by simpa using hop
 have HE : Hid (insF u rg x = if ((!opDst x.op && (x.dst != -1)) || ((!opA x.op && !isZ x.a) || ((!opB x.op && !isZ x.b) || (!decide (x.op = 20) && ((x.fn != 0) || decide (0 < x.args.length)))))) = true then 5 else if (opDst x.op && !(decide (x.op = 20) && !(x.dst != -1))) = true ∧ dstF rg x.dst ≠ 0 then dstF rg x.dst else fst0 [valF rg x.a, valF rg x.b, callF u rg x]) := lh (by
  unfold insF;rw [if_neg (by omega)];simp [and_assoc, Decidable.imp_iff_not_or])
 obtain ⟨D, hD⟩ : ∃ b, b = opDst x.op := ⟨_, rfl⟩;obtain ⟨FA, hFA⟩ : ∃ b, b = opA x.op := ⟨_, rfl⟩;obtain ⟨FB, hFB⟩ : ∃ b, b = opB x.op := ⟨_, rfl⟩;obtain ⟨q, hq⟩ : ∃ b, b = decide (x.op = 20) := ⟨_, rfl⟩;obtain ⟨td, htd⟩ : ∃ b, b = (x.dst != -1) := ⟨_, rfl⟩;obtain ⟨ta, hta⟩ : ∃ b, b = !isZ x.a := ⟨_, rfl⟩;obtain ⟨tb, htb⟩ : ∃ b, b = !isZ x.b := ⟨_, rfl⟩;obtain ⟨tf, htf⟩ : ∃ b, b = (x.fn != 0) := ⟨_, rfl⟩;obtain ⟨tl, htl⟩ : ∃ b, b = decide (0 < x.args.length) := ⟨_, rfl⟩;have t_A : ∀ w, (binOp .neq 64 (.agg #[.bool x.a.reg, .int .i64 x.a.n]) (.agg #[.bool false, .int .i64 0])).run Tryz.prog w = .ok (.bool ta) w := fun w => by rw [qas, qfb, hta]
 have t_B : ∀ w, (binOp .neq 64 (.agg #[.bool x.b.reg, .int .i64 x.b.n]) (.agg #[.bool false, .int .i64 0])).run Tryz.prog w = .ok (.bool tb) w := fun w => by rw [qas, qfb, htb]
 have t_d : (x.dst != -1) = td := htd.symm;have t_e : (x.dst == -1) = !td := by rw [htd, bne, Bool.not_not]
 have t_f : (x.fn != 0) = tf := htf.symm;have t_l : decide (0 < x.args.length) = tl := htl.symm;have t_q : (x.op == 20) = q := hq.symm;rw [<- hD, <- hFA, <- hFB, <- hq, <- htd, <- hta, <- htb, <- htf, <- htl] at HE;obtain ⟨HD, HFA, HFB, Hq, Hf, Ha⟩ := lh6 hD hFA hFB hq hf ha;clear hR hf ha hop htd hta htb htf htl hD hFA hFB hq
 go_enter Tryz.func138, Tryz.ntmps138
 go_wp2_with fail
 obtain ⟨W0, hW0⟩ := nmm ((w.alloc (Obj.cells #[.slice gA gn gc, .slice fA fn fc, .string nm, .int .i64 pr, .int .i64 rg, .slice bA bn bc', .slice aA an ac] 171)).alloc (Obj.cells #[.int .i64 x.op, .int .i64 x.dst, .bool x.a.reg, .int .i64 x.a.n, .bool x.b.reg, .int .i64 x.b.n, .int .i64 x.fn, .slice A x.args.length c] 71));have hC0 : W0.heap[w.heap.size]? = some (.cells #[.slice gA gn gc, .slice fA fn fc, .string nm, .int .i64 pr, .int .i64 rg, .slice bA bn bc', .slice aA an ac] 171 (0, 0)) := by subst hW0; exact qf (heap_alloc_new _ _) _
 have hX0 : W0.heap[w.heap.size + 1]? = some (.cells #[.int .i64 x.op, .int .i64 x.dst, .bool x.a.reg, .int .i64 x.a.n, .bool x.b.reg, .int .i64 x.b.n, .int .i64 x.fn, .slice A x.args.length c] 71 (0, 0)) := by
  subst hW0;have := heap_alloc_new (w.alloc (Obj.cells #[.slice gA gn gc, .slice fA fn fc, .string nm, .int .i64 pr, .int .i64 rg, .slice bA bn bc', .slice aA an ac] 171)) (Obj.cells #[.int .i64 x.op, .int .i64 x.dst, .bool x.a.reg, .int .i64 x.a.n, .bool x.b.reg, .int .i64 x.b.n, .int .i64 x.fn, .slice A x.args.length c] 71);simpa using this
 have hb0 : Below w.heap.size w W0 := by subst hW0; exact bl0
 rw [<- hW0];clear hW0;refine qd _ _ _ _ _ ?_;rw [hop'];obtain ⟨x0, x1, x2, x3, x4, x5, x6, x7⟩ := qe hX0;have lX0 := qa hX0
 go_wp2_with fail
 refine q2p _ _ _ (fun w1 hb1 => ?_);rw [<- HD.out, <- HFA.out, <- HFB.out];have hC1 := (hb1.block _ (qa hC0)).trans hC0;have hX1 := (hb1.block _ (qa hX0)).trans hX0;have hbw := hb0.trans (hb1.mono hb0.size);clear hC0 hX0 hb0 hb1 x0 x1 x2 x3 x4 x5 x6 x7 lX0;obtain ⟨x0, x1, x2, x3, x4, x5, x6, x7⟩ := qe hX1;have lX1 := qa hX1;obtain ⟨W5, hW5⟩ := nmm ((w1.alloc (Obj.cells #[.bool D, .bool FA, .bool FB] 148)).alloc (Obj.cells #[.bool q] 4));have hb5 : Below w1.heap.size w1 W5 := by subst hW5; exact bl0
 have hL5 : W5.heap[w1.heap.size + 1]? = some (.cells #[.bool q] 4 (0, 0)) := by
  subst hW5;have := heap_alloc_new (w1.alloc (Obj.cells #[.bool D, .bool FA, .bool FB] 148)) (Obj.cells #[.bool q] 4);simpa using this
 have hS5 : W5.heap[w1.heap.size]? = some (.cells #[.bool D, .bool FA, .bool FB] 148 (0, 0)) := by subst hW5; exact qf (heap_alloc_new _ _) _
 have HW5 := lh hW5.symm;have HC5 := lh ((hb5.block _ (qa hC1)).trans hC1);have HX5 := lh ((hb5.block _ (qa hX1)).trans hX1);have HB5 := lh (hbw.trans (hb5.mono hbw.size));obtain ⟨HL5, HS5⟩ := lh2 hL5 hS5;clear hW5 hC1 hX1 hbw hb5 hL5 hS5
 go_upto_region 5 with fail
 rw [HW5.out];clear x0 x1 x2 x3 x4 x5 x6 x7 lX1;obtain ⟨x0, x1, x2, x3, x4, x5, x6, x7⟩ := qe HX5.out;have lX5 := qa HX5.out;have l5 : W5.cell? ⟨w1.heap.size + 1, 0, none⟩ = some (.bool q) := qb HL5.out;have lL5 := qa HL5.out;have s0 : W5.cell? ⟨w1.heap.size, 0, none⟩ = some (.bool D) := qb HS5.out;have s1 : W5.cell? ⟨w1.heap.size, 1, none⟩ = some (.bool FA) := qb HS5.out;have s2 : W5.cell? ⟨w1.heap.size, 2, none⟩ = some (.bool FB) := qb HS5.out;have lS5 := qa HS5.out
 go_cut [62] (fun s wx => s = .bool ((!D && td) || ((!FA && ta) || ((!FB && tb) || (!q && (tf || tl))))) ∧ wx = W5)
 case first =>
  clear HE HC5 HX5 HB5 HL5 HS5 HD HFA HFB Hq
  have k1 : ((D = true ∨ (D = false ∧ td = false)) ∨ (D = false ∧ td = true)) ∧ ((FA = true ∨ (FA = false ∧ ta = false)) ∨ (FA = false ∧ ta = true)) ∧ ((FB = true ∨ (FB = false ∧ tb = false)) ∨ (FB = false ∧ tb = true)) := by
   cases D <;> cases td <;> cases FA <;> cases ta <;> cases FB <;> cases tb <;> simp
  obtain ⟨h1 | ⟨rfl, rfl⟩, h2, h3⟩ := k1
  ·obtain h2 | ⟨rfl, rfl⟩ := h2
   ·obtain h3 | ⟨rfl, rfl⟩ := h3
    ·have h4 : q = true ∨ (q = false ∧ tf = true) ∨ (q = false ∧ tf = false ∧ tl = true) ∨ (q = false ∧ tf = false ∧ tl = false) := by cases q <;> cases tf <;> cases tl <;> simp
     rcases h1 with rfl | ⟨rfl, rfl⟩ <;> rcases h2 with rfl | ⟨rfl, rfl⟩ <;> rcases h3 with rfl | ⟨rfl, rfl⟩ <;> rcases h4 with rfl | ⟨rfl, rfl⟩ | ⟨rfl, rfl, rfl⟩ | ⟨rfl, rfl, rfl⟩
     all_goals
      go_wp2;go_meet;exact ⟨rfl, rfl⟩
    ·rcases h1 with rfl | ⟨rfl, rfl⟩ <;> rcases h2 with rfl | ⟨rfl, rfl⟩
     all_goals
      go_wp2;go_meet;exact ⟨rfl, rfl⟩
   ·rcases h1 with rfl | ⟨rfl, rfl⟩
    all_goals
     go_wp2;go_meet;exact ⟨rfl, rfl⟩
  ·go_wp2;go_meet;exact ⟨rfl, rfl⟩
 case rest =>
 obtain ⟨rfl, rfl⟩ := hcut;generalize ((!D && td) || ((!FA && ta) || ((!FB && tb) || (!q && (tf || tl))))) = F at HE ⊢
 cases F with
 | true =>
   have HF := lh HE.out;rw [if_pos rfl] at HF;rw [HF.out] at HR;go_wp2;exact HR.out _ (HB5.out.trans (by exact bl0))
 | false =>
   have he := HE.out;rw [if_neg (by decide)] at he;obtain ⟨g, hg⟩ : ∃ b, b = (D && !(q && !td)) := ⟨_, rfl⟩;rw [<- hg] at he;obtain ⟨He, Hg⟩ := lh2 he hg;clear HE he hg t_A t_B t_f t_l t_q
   go_upto_region 7 with fail
   go_cut [73] (fun s wx => s = .bool g ∧ wx = wc)
   case first =>
    clear He HC5 HX5 HB5 HL5 HS5 HD HFA HFB Hq;have k1 : D = false ∨ (D = true ∧ q = false) ∨ (D = true ∧ q = true ∧ td = true) ∨ (D = true ∧ q = true ∧ td = false) := by cases D <;> cases q <;> cases td <;> simp
    rcases k1 with rfl | ⟨rfl, rfl⟩ | ⟨rfl, rfl, rfl⟩ | ⟨rfl, rfl, rfl⟩
    all_goals
     go_wp2;go_meet;exact ⟨(congrArg Value.bool Hg.out).symm, rfl⟩
   case rest =>
   obtain ⟨rfl, hwe⟩ := hcut;subst hwe;rename World => W6;clear s0 s1 s2 lS5 l5 lL5 t_d t_e Hg HS5
   go_upto_if 73 with fail
   go_cut [] (fun wx => Hid (Below W6.heap.size W6 wx) ∧ Hid (insF u rg x = fst0 [valF rg x.a, valF rg x.b, callF u rg x]))
   case first =>
    cases g with
    | false =>
      have he := lh (He.out.trans (if_neg (fun h => by cases h.1)));go_wp2;go_meet;exact ⟨lh (Below.refl _ _), he⟩
    | true =>
      obtain ⟨c0, c1, c2, c3, c4, c5, c6⟩ := qr HC5.out;have lC5 := qa HC5.out
      go_wp2_with fail
      refine q67 gA fA bA aA gn gc fn fc bn bc' an ac nm pr rg x.dst hrg _ h0 _ (fun w2 hb2 => ?_);have Hb2 := lh hb2;clear hb2
      by_cases hz : dstF rg x.dst = 0
      ·have he := lh (He.out.trans (if_neg (fun h => h.2 hz)));rw [hz];clear He hz;go_wp2;go_meet;exact ⟨Hb2, he⟩
      ·have he := lh (He.out.trans (if_pos ⟨trivial, hz⟩));rw [he.out] at HR;have hzb : (dstF rg x.dst != 0) = true := by simpa using hz
       have HF := lh (HR.out _ (HB5.out.trans (Hb2.out.mono HB5.out.size)));clear He he hz Hb2;go_wp2;exact HF.out
   case rest =>
   obtain ⟨Hb7, he⟩ := hcut;rename World => W7;rw [he.out] at HR;have HB7 := lh (HB5.out.trans (Hb7.out.mono HB5.out.size));have hC7 := (Hb7.out.block _ (qa HC5.out)).trans HC5.out;have hX7 := (Hb7.out.block _ (qa HX5.out)).trans HX5.out;have hL7 := (Hb7.out.block _ (qa HL5.out)).trans HL5.out;obtain ⟨HC8, HX8, HL8⟩ := bl3 (.cells #[.func (.func 155) #[] #[.pointer (some ⟨w.heap.size, 0, none⟩), .pointer (some ⟨w.heap.size + 1, 0, none⟩)], .func (.func 156) #[] #[.pointer (some ⟨w.heap.size, 0, none⟩), .pointer (some ⟨w.heap.size + 1, 0, none⟩)], .func (.func 157) #[] #[.pointer (some ⟨w1.heap.size + 1, 0, none⟩), .pointer (some ⟨w.heap.size + 1, 0, none⟩), .pointer (some ⟨w.heap.size, 0, none⟩)]] 173) hC7 hX7 hL7;have HN8 := lh (heap_alloc_new W7 (Obj.cells #[.func (.func 155) #[] #[.pointer (some ⟨w.heap.size, 0, none⟩), .pointer (some ⟨w.heap.size + 1, 0, none⟩)], .func (.func 156) #[] #[.pointer (some ⟨w.heap.size, 0, none⟩), .pointer (some ⟨w.heap.size + 1, 0, none⟩)], .func (.func 157) #[] #[.pointer (some ⟨w1.heap.size + 1, 0, none⟩), .pointer (some ⟨w.heap.size + 1, 0, none⟩), .pointer (some ⟨w.heap.size, 0, none⟩)]] 173));have HB8 : Hid (Below w.heap.size w (W7.alloc (Obj.cells #[.func (.func 155) #[] #[.pointer (some ⟨w.heap.size, 0, none⟩), .pointer (some ⟨w.heap.size + 1, 0, none⟩)], .func (.func 156) #[] #[.pointer (some ⟨w.heap.size, 0, none⟩), .pointer (some ⟨w.heap.size + 1, 0, none⟩)], .func (.func 157) #[] #[.pointer (some ⟨w1.heap.size + 1, 0, none⟩), .pointer (some ⟨w.heap.size + 1, 0, none⟩), .pointer (some ⟨w.heap.size, 0, none⟩)]] 173))) := lh (HB7.out.alloc HB7.out.size _);clear hC7 hX7 hL7 he Hb7 HB7 HC5 HX5 HL5 HB5 He x0 x1 x2 x3 x4 x5 x6 x7 lX5
   go_wp2_with fail
   refine qdx _ (w1.heap.size + 1) w.heap.size (w.heap.size + 1) (valF rg x.a) (valF rg x.b) (callF u rg x) _ (qa HN8.out) ?_ ?_ ?_ ?_ ?_ ?_ _ (fun w4 hb4 => ?_)
   ·rw [qb HN8.out]; rfl
   ·rw [qb HN8.out]; rfl
   ·rw [qb HN8.out]; rfl
   ·exact fun w5 hb5 R5 hR5 => qgo gA fA bA aA gn gc fn fc bn bc' an ac nm pr rg x (.slice A x.args.length c) hrg h0 w.heap.size (w.heap.size + 1) _ _ w5 ((hb5.block _ (qa HC8.out)).trans HC8.out) ((hb5.block _ (qa HX8.out)).trans HX8.out) R5 hR5
   ·exact fun w5 hb5 R5 hR5 => qgp gA fA bA aA gn gc fn fc bn bc' an ac nm pr rg x (.slice A x.args.length c) hrg h0 w.heap.size (w.heap.size + 1) _ _ w5 ((hb5.block _ (qa HC8.out)).trans HC8.out) ((hb5.block _ (qa HX8.out)).trans HX8.out) R5 hR5
   ·intro w5 hb5 R5 hR5;have hB5 := HB8.out.trans (hb5.mono HB8.out.size);have hL5 := (hb5.block _ (qa HL8.out)).trans HL8.out;rw [Hq.out] at hL5;exact qgq gA fA bA aA gn gc fn fc bn bc' an ac nm pr rg u x (.slice A x.args.length c) hrg h0 (w1.heap.size + 1) w.heap.size (w.heap.size + 1) _ _ _ w5 hL5 ((hb5.block _ (qa HC8.out)).trans HC8.out) ((hb5.block _ (qa HX8.out)).trans HX8.out) (Hf.out.up hB5 hB5.size) (Ha.out.up hB5 hB5.size) R5 hR5
   have HF := lh (HR.out _ (HB8.out.trans (hb4.mono HB8.out.size)));clear hb4;go_wp2;exact HF.out
def Ways (w : World) : Prop := 0 < w.heap.size ∧ w.cell? ⟨0, 1, none⟩ = some (.int .i64 0) ∧ w.cell? ⟨0, 2, none⟩ = some (.int .i64 1) ∧ w.cell? ⟨0, 3, none⟩ = some (.int .i64 2)
theorem Ways.up {w w' : World} {B : Nat} (h : Ways w) (hb : Below B w w') (hB : 0 < B) : Ways w' :=
 ⟨Nat.lt_of_lt_of_le h.1 hb.size, (hb.cell hB).trans h.2.1, (hb.cell hB).trans h.2.2.1, (hb.cell hB).trans h.2.2.2⟩
theorem q2u {α : Type} (p : α -> Bool) {l : List α} {k : Nat} (h : k < l.length) : (l.take (k + 1)).any p = ((l.take k).any p || p l[k]) := by
 rw [List.take_succ_eq_append_getElem h, List.any_append];simp
theorem qdz (M : Nat) (xs : List Int) (p : Int -> Bool) (v : Value) (w : World) (h : rpInt.SL w w.heap.size xs v)
 (hcl : ∀ (a : Int) w1, a ∈ xs -> Below w.heap.size w w1 -> ∀ R : Ending -> World -> Prop, (∀ w2, Below w1.heap.size w1 w2 -> R (.returned (.bool (p a))) w2) -> Calls Tryz.prog 151 #[.int .i64 a, .pointer (some ⟨M, 0, none⟩)] w1 R) (R : Ending -> World -> Prop)
 (hR : ∀ w' r, Below w.heap.size w w' -> (decide ((0 : Int) ≤ r) = xs.any p) -> R (.returned (.int .i64 r)) w') :
 Calls Tryz.prog 133 #[v, .func (.func 151) #[] #[.pointer (some ⟨M, 0, none⟩)]] w R := by
 obtain ⟨A, c, rfl, hm, hcap, hs⟩ := h.cases_;obtain ⟨Hs, HR, Hcl⟩ := lh3 hs hR hcl;clear hR h hs hcl
 go_enter Tryz.func133, Tryz.ntmps133
 go_wp2
 go_loopg [5, 8] xs.length (fun g j i wr => ∃ k : Nat, k ≤ xs.length ∧ g = xs.length - k ∧ i = .int .i64 k ∧ (xs.take k).any p = false ∧ Below w.heap.size w wr)
 case atStart => exact ⟨0, Nat.zero_le _, rfl, rfl, rfl, Below.refl _ _⟩
 case round =>
  obtain ⟨k, hk, rfl, rfl, ht, hbel⟩ := hrel;obtain ⟨Ht, Hb⟩ := lh2 ht hbel;have hz := hbel.size;clear ht
  by_cases hlt : k < xs.length
  ·obtain ⟨b, off, rfl, hb, q0⟩ := Hs.out.int_at hlt;have p0 := (hbel.cell (p := ⟨b, off + k, none⟩) hb).trans q0;have lb : b < wr.heap.size := by omega
   have Hst : Hid ((xs.take (k + 1)).any p = p (xs.getD k 0)) := lh (by
    rw [q2u p hlt, Ht.out, Bool.false_or, List.getD_eq_getElem?_getD, List.getElem?_eq_getElem hlt];rfl)
   have hmem : xs.getD k 0 ∈ xs := by
    rw [List.getD_eq_getElem?_getD, List.getElem?_eq_getElem hlt];exact List.getElem_mem hlt
   have Hof : Hid (p (xs.getD k 0) = true -> xs.any p = true) := lh fun h => List.any_eq_true.2 ⟨_, hmem, h⟩;have Hcall := lh (Hcl.out (xs.getD k 0) wr hmem hbel);have i1 := nnn k;have i2 : (k : Int) < (xs.length : Int) := by omega
   generalize xs.getD k 0 = a at *;clear q0 hbel hmem
   go_wp2_with fail
   refine Hcall.out _ (fun w1 hb1 => ?_);have Hb2 := btt Hb hb1 hz;clear hb1 Hcall;generalize hx : p a = x at *;have Hx := lh hx;clear hx
   cases x
   ·go_wp2
    go_roundg (xs.length - (k + 1))
    case measure => omega
    case rel => exact ⟨k + 1, hlt, rfl, by go_num, Hst.out, Hb2.out⟩
   ·have hfin := lh (HR.out _ (k : Int) Hb2.out (by rw [Hof.out rfl]; exact decide_eq_true i1));go_wp2;exact hfin.out
  ·obtain rfl : k = xs.length := by omega
   rw [List.take_length] at Ht;have hfin := lh (HR.out _ (-1) hbel (by rw [Ht.out]; rfl));clear hbel;go_wp2;exact hfin.out
theorem q0z (M : Nat) (xs : List Int) (p : Int -> Bool) (v : Value) (w : World) (h : rpInt.SL w w.heap.size xs v)
 (hcl : ∀ (a : Int) w1, a ∈ xs -> Below w.heap.size w w1 -> ∀ R : Ending -> World -> Prop, (∀ w2, Below w1.heap.size w1 w2 -> R (.returned (.bool (p a))) w2) -> Calls Tryz.prog 151 #[.int .i64 a, .pointer (some ⟨M, 0, none⟩)] w1 R) (R : Ending -> World -> Prop)
 (hR : ∀ w', Below w.heap.size w w' -> R (.returned (.bool (xs.any p))) w') :
 Calls Tryz.prog 105 #[v, .func (.func 151) #[] #[.pointer (some ⟨M, 0, none⟩)]] w R := by
 obtain ⟨HR, Hcl⟩ := lh2 hR hcl;clear hR hcl
 go_enter Tryz.func105, Tryz.ntmps105
 go_wp2_with fail
 refine qdz M xs p v _ h (fun a w1 ha hb => Hcl.out a w1 ha hb) _ (fun w1 r hb1 hr => ?_);have Hf := lh (HR.out _ hb1);have Hr := lh hr;clear hr hb1 h;go_wp2;rw [Hr.out];exact Hf.out
theorem q1t (v0 v1 v2 v3 v4 v6 : Value) (bA : Option Addr) (bn bc' : Nat) (M : Nat) (Tc : TypeId) (a : Int) (w : World) (hc : w.heap[M]? = some (.cells #[v0, v1, v2, v3, v4, .slice bA bn bc', v6] Tc (0, 0))) (hb : bn ≤ maxLen) (R : Ending -> World -> Prop)
 (hR : ∀ w', Below w.heap.size w w' -> R (.returned (.bool (!decide (1 ≤ a ∧ a ≤ (bn : Int) - 1)))) w') :
 Calls Tryz.prog 151 #[.int .i64 a, .pointer (some ⟨M, 0, none⟩)] w R := by
 obtain ⟨c0, c1, c2, c3, c4, c5, c6⟩ := qr hc;have lc := qa hc;unfold maxLen at hb;have HR := lh hR;clear hR hc
 go_enter Tryz.func151, Tryz.ntmps151
 go_wp2_with fail
 refine qd _ _ _ _ _ ?_;generalize decide (1 ≤ a ∧ a ≤ (bn : Int) - 1) = d at *
 cases d
 ·go_wp2;exact HR.out _ bl0
 ·go_wp2;exact HR.out _ bl0
end Go.Proofs.YtdanebboiekieaaGreatDoor
namespace Go.Proofs.YtdanebboiekieaaGreatDoor
open Go.ChangeShapes Go.WideShapes Go.ChangeAt Go.RowKit
theorem q7r : rpVal.opens Tryz.prog 64 :=
 q6h (fun x => ⟨x.1, x.2⟩) (fun _ => rfl) (q2r Tryz.underlying64 (by kernel_rfl) (q0r (qh2 Tryz.underlying4 (by kernel_rfl)) rfl (q42 (qck Tryz.underlying3 (by kernel_rfl)) rfl)))
theorem qcj : rpVal.slice.opens Tryz.prog 69 := q5r Tryz.underlying69 (by kernel_rfl) (by decide) q7r
theorem opensInt' : rpInt.opens Tryz.prog 3 := qck Tryz.underlying3 (by kernel_rfl)
theorem q9z : rpInt.slice.opens Tryz.prog 26 := q5r Tryz.underlying26 (by kernel_rfl) (by decide) opensInt'
theorem opensStr' : rpStr.opens Tryz.prog 9 := qjg Tryz.underlying9 (by kernel_rfl)
theorem opensIns : rpIns.opens Tryz.prog 71 :=
 q6h (fun x => ⟨x.1, x.2.1, x.2.2.1, x.2.2.2.1, x.2.2.2.2.1, x.2.2.2.2.2⟩) (fun _ => rfl) (q2r Tryz.underlying71 (by kernel_rfl) (q0r opensInt' rfl (q0r opensInt' rfl (q0r q7r rfl (q0r q7r rfl (q0r opensInt' rfl (q42 qcj rfl)))))))
theorem opensPhi : rpPhi.opens Tryz.prog 164 :=
 q6h (fun x => ⟨x.1, x.2⟩) (fun _ => rfl) (q2r Tryz.underlying164 (by kernel_rfl) (q0r opensInt' rfl (q42 qcj rfl)))
theorem opensEnd : rpEnd.opens Tryz.prog 66 :=
 q6h (fun x => ⟨x.1, x.2.1, x.2.2⟩) (fun _ => rfl) (q2r Tryz.underlying66 (by kernel_rfl) (q0r opensInt' rfl (q0r q7r rfl (q42 q9z rfl))))
theorem qe6 : rpGlobal.opens Tryz.prog 167 :=
 q6h (fun x => ⟨x.1, x.2.1, x.2.2⟩) (fun _ => rfl) (q2r Tryz.underlying167 (by kernel_rfl) (q0r opensStr' rfl (q0r opensInt' rfl (q42 q9z rfl))))
def laidS {H : Type} : List (String × DataW H) := [("turnery/code.ways", Rows.laid_turnery_code_ways)]
theorem gWays : Tryz.prog.globalNamed "turnery/code.ways" = some 0 := by kernel_rfl
theorem tWays : (Tryz.prog.globals[0]?).map (·.type) = some 197 := by kernel_rfl
theorem qng {W : World} (h : laidMetH Tryz.prog laidS W) : Ways W := by
 rw [MakeChecks.laidMetH_plain _ _ _ (by kernel_rfl)] at h;obtain ⟨ps, ⟨g0, t0, cs0, f0, p0, q0, hg0, ht0, hv0, hd0, _, _⟩, _, _⟩ := h;obtain rfl := Option.some.inj (gWays.symm.trans hg0);obtain rfl := Option.some.inj (tWays.symm.trans ht0);obtain ⟨xs, m1, _, hx1, hlen, hn, hel⟩ := DataW.trod_array Tryz.underlying197 hd0;have hx2 : Rows.laid_turnery_code_ways = DataW.agg (xs.map (·.1)) := congrArg Prod.fst hx1;have ci : Tryz.prog.cellsOf 3 = 1 := by kernel_rfl
 unfold Rows.laid_turnery_code_ways at hx2;injection hx2 with hx3
 have hv := fun i => World.var?_cell hg0 hv0 i
 have key : ∀ (k : Nat) (n : Int), k < 4 -> (xs.map (·.1))[k]? = some (.lit (.int .i64 n)) -> W.cell? ⟨0, k, none⟩ = some (.int .i64 n) := fun k n hk hx => by
  rw [List.getElem?_map, Option.map_eq_some_iff] at hx;obtain ⟨x, hx, hxd⟩ := hx;have he := hel k hk;rw [hx, ci] at he;obtain ⟨m, e0, e1, _⟩ := DataW.trod_int Tryz.underlying3 he;subst e1;injection hxd with h1
  injection h1 with _ h1
  subst h1;rw [hv k];have h2 : ((cs0.toList.drop (k * 1)).take 1)[0]? = some (.int .i64 m) := by rw [e0]; rfl
  rw [List.getElem?_take, if_pos (by omega), List.getElem?_drop] at h2;simpa using h2
 have k0 := key 0 0 (by omega) (by rw [<- hx3]; rfl);exact ⟨World.block_lt_of_cell? W ⟨0, 0, none⟩ k0, key 1 0 (by omega) (by rw [<- hx3]; rfl), key 2 1 (by omega) (by rw [<- hx3]; rfl), key 3 2 (by omega) (by rw [<- hx3]; rfl)⟩
end Go.Proofs.YtdanebboiekieaaGreatDoor
namespace Go.Proofs.YtdanebboiekieaaGreatDoor
open Go.ChangeShapes Go.WideShapes Go.ChangeAt Go.RowKit
theorem ql5 {H : Type} (d : DataW H) : 1 ≤ Rows.uptoBulk d := by
 cases d with
 | lit l => cases l <;> simp [Rows.uptoBulk]
 | nil => simp [Rows.uptoBulk]
 | ptr d => simp [Rows.uptoBulk]
 | slice elems spare => simp [Rows.uptoBulk]
 | agg parts => simp [Rows.uptoBulk]
 | iface t d => simp [Rows.uptoBulk]
 | map entries => simp [Rows.uptoBulk]
 | held h => simp [Rows.uptoBulk]
theorem qbn {H : Type} {d : DataW H} {l : List (DataW H)} (h : d ∈ l) : Rows.uptoBulk d ≤ Rows.uptoBulkAll l := by
 induction l with
 | nil => cases h
 | cons x r ih =>
   simp only [Rows.uptoBulkAll]
   cases List.mem_cons.1 h with
   | inl e => subst e; omega
   | inr e => have := ih e; omega
theorem ql4 {H : Type} (l : List (DataW H)) : l.length ≤ Rows.uptoBulkAll l := by
 induction l with
 | nil => simp [Rows.uptoBulkAll]
 | cons x r ih => have := ql5 x; simp only [Rows.uptoBulkAll, List.length_cons]; omega
theorem qgd {H : Type} (elems spare : List (DataW H)) : Rows.uptoBulkAll elems + 1 ≤ Rows.uptoBulk (.slice elems spare) := by
 simp only [Rows.uptoBulk];omega
theorem ql3 {H : Type} (parts : List (DataW H)) : Rows.uptoBulkAll parts + 1 = Rows.uptoBulk (.agg parts) := by
 simp only [Rows.uptoBulk]
def Rp.opensN {α : Type} (N : Nat) (r : Rp α) (P : Program) (T : TypeId) : Prop :=
 P.cellsOf T = r.size ∧ ∀ (H : Type) (enc : TypeId × Value -> H) (w : World) (fuel : Nat) (cs : List Value) (x : DataW H × List MemPlace),
  DataW.trod enc P w 0 (fun _ => true) true fuel T cs = some x -> Rows.uptoBulk x.1 ≤ N -> ∃ a, r.rep w w.heap.size a cs ∧ r.ok a
theorem Rp.opens.N {α : Type} {N : Nat} {r : Rp α} {P : Program} {T : TypeId} (h : r.opens P T) : r.opensN N P T := ⟨h.1, fun H enc w fuel cs x ht _ => h.2 H enc w fuel cs x ht⟩
def Rp.sliceN {α : Type} (N : Nat) (r : Rp α) : Rp (List α) where
 size := 1
 rep := r.slice.rep
 ok := fun xs => r.slice.ok xs ∧ xs.length ≤ N
 len := r.slice.len
 mono := r.slice.mono
 more := r.slice.more
theorem q3u {α : Type} {N : Nat} {r : Rp α} {P : Program} {T E : TypeId} (hT : P.underlying T = some (.slice E)) (hC : P.cellsOf T = 1) (hpos : 0 < r.size) (hE : r.opensN N P E) : (r.sliceN N).opensN N P T := by
 refine ⟨hC, fun H enc w fuel cs x h hx0 => ?_⟩
 rcases Go.Deep.open_slice hT h with ⟨rfl, _⟩ | ⟨a, len, cap, m, n, D, Pl, rfl, _, hlc, hcm, hm, rfl, hi⟩
 ·exact ⟨[], ⟨_, rfl, Rp.SL.nil _ _ _⟩, ⟨Nat.zero_le _, fun x hx => by cases hx⟩, Nat.zero_le _⟩
 ·have hlen : len ≤ m := by simp at hm; omega
  have hb1 := qgd ((List.range len).map D) ((List.range (m - len)).map fun j => D (len + j));have hb2 := ql4 ((List.range len).map D);rw [List.length_map, List.length_range] at hb2;dsimp only at hx0
  have hbd : ∀ i, i < len -> Rows.uptoBulk (D i) ≤ N := fun i hi' => by
   have := qbn (d := D i) (l := (List.range len).map D) (List.mem_map.2 ⟨i, List.mem_range.2 hi', rfl⟩);omega
  obtain ⟨l, hl, hp⟩ := qco (α := α) len (fun i x => ∃ cs', w.cells? 0 (a.add (i * P.cellsOf E)) (P.cellsOf E) = some cs' ∧ r.rep w w.heap.size x cs' ∧ r.ok x) (fun i hi' => by
   obtain ⟨cs', hc', ht'⟩ := hi i (by omega);obtain ⟨x, hx, hx'⟩ := hE.2 H enc w n cs' _ ht' (hbd i hi');exact ⟨x, cs', hc', hx, hx'⟩)
  have hok : ∀ x ∈ l, r.ok x := fun x hx => by
   obtain ⟨k, hk, e⟩ := List.mem_iff_getElem.1 hx;obtain ⟨_, _, _, h3⟩ := hp k x (by rw [List.getElem?_eq_getElem hk, e]);exact h3
  refine ⟨l, ⟨_, rfl, some a, cap, by rw [hl], by omega, by omega, fun hp0 => ?_⟩, ⟨by omega, hok⟩, by omega⟩;obtain ⟨b, off, spot⟩ := a
  have hs : spot = none ∧ b < w.heap.size := by
   have hz : l[0]? = some l[0] := List.getElem?_eq_getElem (by omega);obtain ⟨cs', hc', hr, _⟩ := hp 0 _ hz;obtain ⟨_, hcl, hcell⟩ := World.cells?_some hc';have hlen' := r.len _ _ _ _ hr;have h0 := hcell 0 (by rw [hE.1]; exact hpos);rw [List.getElem?_eq_getElem (by omega)] at h0;simp [Addr.add] at h0;exact ⟨World.cell?_spot h0, World.block_lt_of_cell? w _ h0⟩
  obtain ⟨rfl, hb⟩ := hs;refine ⟨b, off, rfl, hb, fun k x hk => ?_⟩;obtain ⟨cs', hc', hr, _⟩ := hp k x hk;refine ⟨cs', hr, fun j u hj => ?_⟩;obtain ⟨_, hcl, hcell⟩ := World.cells?_some hc';have hjl : j < cs'.length := (List.getElem?_eq_some_iff.1 hj).1;have := hcell j (by omega);rw [hj] at this;rw [<- this, hE.1]
  congr 1
  unfold Addr.add
  by_cases h1 : k * r.size = 0 <;> by_cases h2 : j = 0 <;> simp [h1, h2]
def q4a {α : Type} (N : Nat) (r : Rp α) (P : Program) (fs : List Field) (off : Nat) : Prop :=
 ∀ (H : Type) (enc : TypeId × Value -> H) (w : World) (fuel : Nat) (cs : List Value),
  (∀ f ∈ fs, ∃ x, DataW.trod enc P w 0 (fun _ => true) true fuel f.type ((cs.drop f.offset).take (P.cellsOf f.type)) = some x ∧ Rows.uptoBulk x.1 ≤ N) -> ∃ a, r.rep w w.heap.size a ((cs.drop off).take r.size) ∧ r.ok a
theorem q5o {α : Type} {N : Nat} {r : Rp α} {P : Program} {f : Field} {off : Nat} (h : r.opensN N P f.type) (ho : f.offset = off) : q4a N r P [f] off := by
 intro H enc w fuel cs hf;obtain ⟨x, hx, hb⟩ := hf f (by simp);have := h.2 H enc w fuel _ x hx hb;rw [ho, h.1] at this;exact this
theorem q1u {α β : Type} {N : Nat} {r : Rp α} {s : Rp β} {P : Program} {f : Field} {fs : List Field} {off : Nat} (h : r.opensN N P f.type) (ho : f.offset = off) (hs : q4a N s P fs (off + r.size)) :
 q4a N (r.pair s) P (f :: fs) off := by
 intro H enc w fuel cs hf;obtain ⟨x, hx, hb⟩ := hf f (by simp);obtain ⟨a, ha, ha'⟩ := h.2 H enc w fuel _ x hx hb;obtain ⟨b, hb, hb'⟩ := hs H enc w fuel cs fun g hg => hf g (by simp [hg]);rw [ho, h.1] at ha;refine ⟨(a, b), ⟨_, _, ?_, ha, hb⟩, ha', hb'⟩
 show (cs.drop off).take (r.size + s.size) = _;rw [List.take_add, List.drop_drop]
theorem q4g {α : Type} {N : Nat} {r : Rp α} {P : Program} {T : TypeId} {fs : Array Field} (hT : P.underlying T = some (.struct fs)) (hC : P.cellsOf T = r.size) (h : q4a N r P fs.toList 0) : r.opensN N P T := by
 refine ⟨hC, fun H enc w fuel cs x ht hx0 => ?_⟩;obtain ⟨xs, n, _, rfl, hlen, hxl, hg⟩ := DataW.trod_struct hT ht;dsimp only at hx0;rw [<- ql3] at hx0
 obtain ⟨a, ha, ha'⟩ := h H enc w n cs fun f hf => by
  obtain ⟨i, hi, e⟩ := List.mem_iff_getElem.1 hf;have h1 : fs[i]? = some f := by rw [<- Array.getElem?_toList, List.getElem?_eq_getElem hi, e]
  have hi' : i < xs.length := by simp at hi; omega
  refine ⟨xs[i], (hg i f h1).trans (List.getElem?_eq_getElem hi'), ?_⟩;have := qbn (d := xs[i].1) (l := xs.map (·.1)) (List.mem_map.2 ⟨xs[i], List.getElem_mem hi', rfl⟩);omega
 refine ⟨a, ?_, ha'⟩;rw [List.drop_zero, List.take_of_length_le (by omega)] at ha;exact ha
theorem q8n {α β : Type} {N : Nat} {r : Rp α} {g : β -> α} {P : Program} {T : TypeId} (f : α -> β) (hg : ∀ a, g (f a) = a) (h : r.opensN N P T) : (r.as_ g).opensN N P T := by
 refine ⟨h.1, fun H enc w fuel cs x ht hb => ?_⟩;obtain ⟨a, ha, ha'⟩ := h.2 H enc w fuel cs x ht hb;exact ⟨f a, by show r.rep _ _ (g (f a)) _; rw [hg]; exact ha, by show r.ok (g (f a)); rw [hg]; exact ha'⟩
def qmm (N : Nat) : Rp UBlk := ((rpPhi.sliceN N).pair ((rpIns.sliceN N).pair rpEnd)).as_ fun b => (b.phis, b.list, b.end_)
def qmn (N : Nat) : Rp UFun := (rpStr.pair (rpInt.pair (rpInt.pair ((qmm N).sliceN N)))).as_ fun f => (f.name, f.params, f.regs, f.blocks)
def qmo (N : Nat) : Rp Unt := (rpGlobal.slice.pair ((qmn N).sliceN N)).as_ fun u => (u.globals, u.funcs)
theorem qje (N : Nat) : (qmm N).opensN N Tryz.prog 68 :=
 q8n (fun x => ⟨x.1, x.2.1, x.2.2⟩) (fun _ => rfl) (q4g Tryz.underlying68 (by kernel_rfl) (q1u (q3u Tryz.underlying61 (by kernel_rfl) (by decide) opensPhi.N) rfl (q1u (q3u Tryz.underlying62 (by kernel_rfl) (by decide) opensIns.N) rfl (q5o opensEnd.N rfl))))
theorem qjf (N : Nat) : (qmn N).opensN N Tryz.prog 56 :=
 q8n (fun x => ⟨x.1, x.2.1, x.2.2.1, x.2.2.2⟩) (fun _ => rfl) (q4g Tryz.underlying56 (by kernel_rfl) (q1u opensStr'.N rfl (q1u opensInt'.N rfl (q1u opensInt'.N rfl (q5o (q3u Tryz.underlying54 (by kernel_rfl) (Nat.lt_of_lt_of_le Nat.zero_lt_one (Nat.le_add_right 1 _)) (qje N)) rfl)))))
theorem qh1 (N : Nat) : (qmo N).opensN N Tryz.prog 25 :=
 q8n (fun x => ⟨x.1, x.2⟩) (fun _ => rfl) (q4g Tryz.underlying25 (by kernel_rfl) (q1u (q5r Tryz.underlying22 (by kernel_rfl) (by decide) qe6).N rfl (q5o (q3u Tryz.underlying23 (by kernel_rfl) (Nat.lt_of_lt_of_le Nat.zero_lt_one (Nat.le_add_right 1 _)) (qjf N)) rfl)))
theorem qjy {N : Nat} {u : Unt} (h : (qmo N).ok u) : rpUnt.ok u ∧ ∀ f ∈ u.funcs, ∀ b ∈ f.blocks, b.phis.length ≤ N ∧ b.list.length ≤ N := by
 obtain ⟨hg, ⟨hf1, hf2⟩, _⟩ := h;refine ⟨⟨hg, hf1, fun f hf => ?_⟩, fun f hf b hb => ?_⟩
 ·obtain ⟨h1, h2, h3, ⟨h4, h5⟩, _⟩ := hf2 f hf;exact ⟨h1, h2, h3, h4, fun b hb => ⟨(h5 b hb).1.1, (h5 b hb).2.1.1, (h5 b hb).2.2⟩⟩
 ·obtain ⟨h1, h2, h3, ⟨h4, h5⟩, _⟩ := hf2 f hf;exact ⟨(h5 b hb).1.2, (h5 b hb).2.1.2⟩
theorem argN {α : Type} {N : Nat} {r : Rp α} {P : Program} {T : TypeId} (h : r.opensN N P T) {H : Type} {enc : TypeId × Value -> H} {w : World} {v : Value} {d : DataW H} {p : List MemPlace} (ht : DataW.Trod enc P w 0 (fun _ => true) true T v d p) (hb : Rows.uptoBulk d ≤ N) :
 ∃ a, r.rep w w.heap.size a v.cells.toList ∧ r.ok a := by
 obtain ⟨fuel, hf⟩ := ht;exact h.2 H enc w fuel _ _ hf hb
theorem qeg {H : Type} {d : DataW H} {l : List (DataW H)} (hk : Rows.uptoSmall H (d :: l) = true) : Rows.uptoBulk d ≤ 1048576 := by
 have h : Rows.uptoBulkAll (d :: l) ≤ 1048576 := of_decide_eq_true hk;simp only [Rows.uptoBulkAll] at h;omega
end Go.Proofs.YtdanebboiekieaaGreatDoor
namespace Go.Proofs.YtdanebboiekieaaGreatDoor
open Go.RowKit
theorem Move.cells_length (m : Move) : m.cells.length = 2 := rfl
theorem qf5 (xs : List Move) : ∀ u ∈ xs.flatMap Move.cells, u.oneCell' = true := by
 intro u hu;obtain ⟨m, _, hm⟩ := List.mem_flatMap.1 hu;simp [Move.cells] at hm
 rcases hm with rfl | rfl <;> rfl
theorem qdh {w : World} {B : Nat} {xs : List Move} {b off n c : Nat} (h : rpMove.SL w B xs (.slice (some ⟨b, off, none⟩) n c)) : ∀ j u, (xs.flatMap Move.cells)[j]? = some u -> w.cell? ((⟨b, off, none⟩ : Addr).add j) = some u := by
 intro j u hj;have hlt : j < xs.length * 2 := by rw [<- q0e Move.cells 2 Move.cells_length]; exact (List.getElem?_eq_some_iff.1 hj).1
 have hk : j / 2 < xs.length := by omega
 obtain ⟨b', off', cs, hA, _, hr, hcs⟩ := h.at_ (List.getElem?_eq_getElem hk);injection hA with hA
 injection hA with h1 h2
 subst h1 h2;rw [rpMove_rep] at hr;subst hr;have hg := Rp.flat_get Move.cells 2 Move.cells_length xs (j / 2) (j % 2) _ (List.getElem?_eq_getElem hk) (by omega);rw [show j / 2 * 2 + j % 2 = j from by omega, hj] at hg;have := hcs (j % 2) u hg.symm;rw [show off + j / 2 * rpMove.size + j % 2 = off + j from by show off + j / 2 * 2 + j % 2 = off + j; omega] at this;rw [<- this];unfold Addr.add
 by_cases h0 : j = 0 <;> simp [h0]
theorem qda (v : Value) (xs : List Move) (w : World) (h : rpMove.SL w w.heap.size xs v) (hn : xs.length ≤ 4294967296) (R : Ending -> World -> Prop)
 (hR : ∀ w' v', Below w.heap.size w w' -> w'.ownsRow w.heap.size 81 2 v' xs.length (xs.flatMap Move.cells) -> R (.returned v') w') :
 Calls Tryz.prog 108 #[v] w R := by
 obtain ⟨A, c, rfl, hm, hcap, h⟩ := h.cases_;obtain ⟨i0, hi, hz0, hz1, hz2⟩ := info_parts q4r;have hnil := fun w => Lib.run_eql_slice_nil (P := Tryz.prog) w 76 81 A xs.length c 0 0 Tryz.underlying76
 cases A with
 | none =>
   have hx : xs = [] := by
    rcases Nat.eq_zero_or_pos xs.length with h0 | hp
    ·exact List.eq_nil_of_length_eq_zero h0
    ·obtain ⟨b, off, m, hA, _⟩ := h.move_at hp
     cases hA
   subst hx;clear hnil;have hnil := fun w => Lib.run_eql_slice_nil (P := Tryz.prog) w 76 81 none 0 c 0 0 Tryz.underlying76
   go_enter Tryz.func108, Tryz.ntmps108
   go_wp2;exact hR _ _ (Below.refl _ _) (World.ownsRow_nil _ _ _ _)
 | some a =>
   have hnews : ∀ j u, (xs.flatMap Move.cells)[j]? = some u -> w.cell? (a.add j) = some u := by
    rcases Nat.eq_zero_or_pos xs.length with h0 | hp
    ·intro j u hj;rw [List.eq_nil_of_length_eq_zero h0] at hj;simp at hj
    ·obtain ⟨b, off, m, hA, _⟩ := h.move_at hp;injection hA with hA
     subst hA;exact qdh h
   have hlt : ∀ j u, (xs.flatMap Move.cells)[j]? = some u -> a.block < w.heap.size := fun j u hj => by
    have := World.block_lt_of_cell? w _ (hnews j u hj);have e : (a.add j).block = a.block := by unfold Addr.add; split <;> rfl
    rwa [e] at this
   obtain ⟨Hn, Hl⟩ := lh2 hnews hlt;clear hnews hlt h
   go_enter Tryz.func108, Tryz.ntmps108
   go_wp2_with (at_builtin; refine wpList_append_own _ rfl _ _ 76 rfl w.heap.size 81 i0 _ 2 16 Tryz.underlying76 hi hz0 hz1 hz2 rfl (by decide) (.slice (some ⟨w.heap.size, 0, none⟩) 0 0) 0 [] rfl ?_ a xs.length c (xs.flatMap Move.cells) rfl (q0e Move.cells 2 Move.cells_length xs) ?_ ?_ ?_ ?_ ?_ ?_)
   ·exact ⟨rfl, .inr ⟨w.heap.size, 0, #[], rfl, Nat.le_refl _, heap_alloc_new w _, Nat.le_refl _, Nat.zero_le _, rfl, rfl⟩⟩
   ·intro j u hj;have hb := Hl.out j u hj;have e : (a.add j).block = a.block := by unfold Addr.add; split <;> rfl
    rw [World.cell?_alloc_lt _ _ _ (by rw [e]; exact hb)];exact Hn.out j u hj
   ·exact qf5 xs
   ·unfold maxLen; omega
   ·omega
   ·simp
   ·intro v' w1 hown hgrow _;go_wp2;refine hR _ _ ((Below.refl _ _).alloc (Nat.le_refl _) _ |>.grown hgrow (by simp) (fun k hk => by simp [Value.ownBlock] at hk; omega)) ?_;simpa using hown
theorem qd8 (w : World) : (zeroValue 81).run Tryz.prog w = .ok (.agg #[.int .i64 0, .int .i64 0]) w := by kernel_rfl
theorem qba (g n cap i : Nat) (xs : List Move) (w : World) (base : Nat) (hown : w.ownsRow base 81 2 (.slice (some ⟨g, 0, none⟩) n cap) n (xs.flatMap Move.cells)) (hn : n = xs.length) (hi : i < n) (hmax : n ≤ 4294967296) (R : Ending -> World -> Prop)
 (hR : ∀ w', w.grownBy w' (some g) -> w'.ownsRow base 81 2 (.slice (some ⟨g, 0, none⟩) (n - 1) cap) (n - 1) ((xs.eraseIdx i).flatMap Move.cells) -> R (.returned (.slice (some ⟨g, 0, none⟩) (n - 1) cap)) w') :
 Calls Tryz.prog 114 #[.slice (some ⟨g, 0, none⟩) n cap, .int .i64 (i : Int), .int .i64 ((i : Int) + 1)] w R := by
 obtain ⟨i0, hi0, hz0, hz1, hz2⟩ := info_parts q4r
 have hnc : n ≤ cap ∧ cap ≤ 9223372036854775807 := by
  rcases hown.2 with ⟨h, _⟩ | ⟨_, _, _, h, _, _, h1, h2, _, _⟩
  ·simp at h
  ·injection h with _ _ h
   subst h;exact ⟨h1, h2⟩
 obtain ⟨hcap, hmx⟩ := hnc;have hfl : (xs.flatMap Move.cells).length = n * 2 := hown.1
 obtain ⟨A, hA, hnews⟩ : ∃ A : Addr, (if cap = i + 1 then some (⟨g, 0, none⟩ : Addr) else some ⟨g, (i + 1) * 2, none⟩) = some A ∧ Hid (∀ j u, ((xs.flatMap Move.cells).drop ((i + 1) * 2))[j]? = some u -> w.drew.cell? (A.add j) = some u) := by
  by_cases h : cap = i + 1
  ·refine ⟨⟨g, 0, none⟩, by simp [h], fun j u hu => ?_⟩;rw [List.drop_of_length_le (by omega)] at hu;simp at hu
  ·refine ⟨⟨g, (i + 1) * 2, none⟩, by simp [h], fun j u hu => ?_⟩
   have hj : (i + 1) * 2 + j < n * 2 := by
    have := (List.getElem?_eq_some_iff.1 hu).1;rw [List.length_drop, hfl] at this;omega
   rw [Addr.add_lit];rw [List.getElem?_drop] at hu;exact (hown.cellAt _ hj).trans hu
 have s1 : Hid (((xs.flatMap Move.cells).drop ((i + 1) * 2)).length = (n - (i + 1)) * 2) := by show _ = _; rw [List.length_drop, hfl]; omega
 have s2 : Hid (∀ u ∈ (xs.flatMap Move.cells).drop ((i + 1) * 2), u.oneCell' = true) := fun u hu => qf5 xs u (List.mem_of_mem_drop hu)
 have s3 : Hid (∀ j, j < ((xs.flatMap Move.cells).drop ((i + 1) * 2)).length -> (w.drew.cell? ⟨g, 0 + i * 2 + j, none⟩).isSome = true ∧ w.drew.frozen? ⟨g, 0 + i * 2 + j, none⟩ = false) := by
  intro j hj;rw [s1.out] at hj;exact q48 hown _ (by omega)
 have hic : i ≤ cap := by omega
 have hwr : IntKind.i64.wrap ((i : Int) + 1) = (i : Int) + 1 := by rw [IntKind.wrap_i64]; omega
 have hp0 : (0 : Int) ≤ (i : Int) + 1 := by omega
 have hp1 : (i : Int) + 1 ≤ (n : Int) := by omega
 have hp2 : ((i : Int) + 1).toNat = i + 1 := by omega
 have hne : ((i : Int) == (i : Int) + 1) = false := by simp; omega
 have Hw := lh hown;clear hown hfl;have Hn := lh hn;clear hn
 go_enter Tryz.func114, Tryz.ntmps114
 go_wp2_with fail
 go_region_law (refine step_append_room rfl (.tmp 22) (.tmp 25) 76 rfl 81 i0 2 Tryz.underlying76 hi0 hz1 g 0 i cap (by simp [Act.eval, Act.put]) A (n - (i + 1)) (cap - (i + 1)) ((xs.flatMap Move.cells).drop ((i + 1) * 2)) (by simp [Act.eval, Act.put]) s1.out hnews.out s2.out (by omega) s3.out ?_)
 rw [show i + (n - (i + 1)) = n - 1 from by omega]
 have hown1 : (w.drew.setCells g (i * 2) ((xs.flatMap Move.cells).drop ((i + 1) * 2))).ownsRow base 81 2 (.slice (some ⟨g, 0, none⟩) (n - 1) cap) (n - 1) ((xs.eraseIdx i).flatMap Move.cells) := by
  refine q1x (w := w.drew) Hw.out (by rw [s1.out]; omega) (by omega) _ ?_;rw [qgj Move.cells 2 Move.cells_length, List.take_append_of_le_length, List.take_of_length_le]
  ·rw [q0e Move.cells 2 Move.cells_length, List.length_eraseIdx, if_pos (by rw [<- Hn.out]; exact hi), <- Hn.out];exact Nat.le_refl _
  ·rw [q0e Move.cells 2 Move.cells_length, List.length_eraseIdx, if_pos (by rw [<- Hn.out]; exact hi), <- Hn.out];exact Nat.le_refl _
 have hg1 : w.grownBy (w.drew.setCells g (i * 2) ((xs.flatMap Move.cells).drop ((i + 1) * 2))) (some g) := q2n _ _ _ ⟨rfl, rfl, rfl, Nat.le_refl _, fun _ _ _ => rfl⟩;generalize w.drew.setCells g (i * 2) ((xs.flatMap Move.cells).drop ((i + 1) * 2)) = w1 at *;clear s1 s2 s3 hnews hA Hw;have hp3 : (0 : Int) ≤ ((n - 1 : Nat) : Int) := by omega
 have hp4 : ((n - 1 : Nat) : Int) ≤ (n : Int) := by omega
 have hp5 : (n : Int) ≤ (cap : Int) := by omega
 go_wp2_with (with_reducible refine q4k rfl (.tmp 31) 76 rfl 81 _ Tryz.underlying76 qd8 rfl ?_ hown1 ((n - 1) * 2) (n - (n - 1)) (cap - (n - 1)) ?_ ?_ ?_ ?_)
 ·intro u hu;simp [Value.cells] at hu;subst hu;rfl
 ·rfl
 ·omega
 ·exact fun _ => rfl
 ·intro w2 hown2 hg2;go_wp2;exact hR _ (hg1.trans hg2) hown2
def Asks0 (f : FuncId) (p : Move -> Bool) : Prop :=
 Enters Tryz.prog f ∧ ∀ (x : Move) (W : World) (R : Ending -> World -> Prop), (∀ W', Below W.heap.size W W' -> R (.returned (.bool (p x))) W') -> Calls Tryz.prog f #[.agg #[.int .i64 x.to, .int .i64 x.src]] W R
theorem q4i (f : FuncId) (p : Move -> Bool) (v : Value) (xs : List Move) (w : World) (h : rpMove.SL w w.heap.size xs v) (hf : Asks0 f p) (R : Ending -> World -> Prop)
 (hR : ∀ w', Below w.heap.size w w' -> R (.returned (.int .i64 (idx p xs))) w') :
 Calls Tryz.prog 113 #[v, .func (.func f) #[] #[]] w R := by
 obtain ⟨hen, hf⟩ := hf;have hcf := hen.run;obtain ⟨A, n, rfl, hm, _, h⟩ := h.cases_
 go_enter Tryz.func113, Tryz.ntmps113
 go_wp2
 go_loopw [8] (fun i wr => ∃ k : Nat, k ≤ xs.length ∧ i = .int .i64 k ∧ (∀ j x, j < k -> xs[j]? = some x -> p x = false) ∧ Below w.heap.size w wr) (fun i _ => xs.length - (intOf i).toNat)
 case atStart => exact ⟨0, Nat.zero_le _, rfl, fun j x hj => absurd hj (by omega), Below.refl _ _⟩
 case round =>
  obtain ⟨k, hk, rfl, ht, hbel⟩ := hrel;have Ht := lh ht;clear ht
  by_cases hlt : k < xs.length
  ·obtain ⟨b, off, m, rfl, hb, e, p0, p1⟩ := h.move_at hlt;have E := lh e;rw [<- hbel.cell (p := ⟨_, _, none⟩) hb] at p0 p1;clear e h;have Hf := lh (hf m);clear hf
   go_wp2_with fail
   refine Hf.out _ _ ?_;intro w1 hb1;have hbel1 := hbel.trans (hb1.mono hbel.size)
   by_cases hp : p m = true
   ·rw [hp];go_wp2;rw [qan Ht.out E.out hp] at hR;exact hR _ hbel1
   ·have hp' : p m = false := by simpa using hp
    rw [hp'];go_wp2
    go_roundw
    case rel => exact ⟨k + 1, by omega, by go_num, qfp Ht.out E.out hp', hbel1⟩
    case measure => simp [intOf]; omega
  ·obtain rfl : k = xs.length := by omega
   go_wp2;rw [qam Ht.out] at hR;exact hR _ hbel
theorem qk0 : Asks0 109 (fun m => m.to == m.src) := by
 refine ⟨⟨_, Tryz.func109, by kernel_rfl, rfl⟩, fun x W R hR => ?_⟩
 go_enter Tryz.func109, Tryz.ntmps109
 go_wp2
 first | exact bl0 | exact hR _ bl0
theorem q8d {p : Move -> Bool} {xs : List Move} {k : Nat} {m : Move} (h : xs[k]? = some m) : (xs.take (k + 1)).filter p = (xs.take k).filter p ++ (if p m then [m] else []) := by
 rw [List.take_add_one, h, List.filter_append];simp [List.filter_cons]
theorem ql9 {F mid D : List Move} {a m : Move} : (F ++ (a :: mid) ++ (m :: D)).set F.length m = (F ++ [m]) ++ (mid ++ [m]) ++ D := by
 rw [List.append_assoc, List.set_append, if_neg (Nat.lt_irrefl _), Nat.sub_self, List.cons_append, List.set_cons_zero];simp
theorem q7k (f : FuncId) (p : Move -> Bool) (v : Value) (xs : List Move) (w : World) (base : Nat) (hown : w.ownsRow base 81 2 v xs.length (xs.flatMap Move.cells)) (hmax : xs.length ≤ 4294967296) (hf : Asks0 f p) (R : Ending -> World -> Prop)
 (hR : ∀ w' v', w.grownBy w' v.ownBlock -> w'.ownsRow base 81 2 v' (xs.filter (fun m => !p m)).length ((xs.filter (fun m => !p m)).flatMap Move.cells) -> R (.returned v') w') :
 Calls Tryz.prog 107 #[v, .func (.func f) #[] #[]] w R := by
 have hsl : rpMove.SL w w.heap.size xs v := q1h hown (Nat.le_refl _);obtain ⟨Hown, Hf⟩ := lh2 hown hf;clear hown hf
 by_cases hany : ∀ (j : Nat) (x : Move), j < xs.length -> xs[j]? = some x -> p x = false
 ·have hidx : idx p xs = -1 := qam hany
  have hfil : xs.filter (fun m => !p m) = xs := List.filter_eq_self.2 fun x hx => by
   obtain ⟨j, hj, e⟩ := List.mem_iff_getElem.1 hx;rw [hany j x hj (by rw [List.getElem?_eq_getElem hj, e])];rfl
  have hc := q4i f p v xs w hsl Hf.out;rw [hidx] at hc;rw [hfil] at hR;have Hc := lh hc;clear hany hidx hfil hc
  go_enter Tryz.func107, Tryz.ntmps107
  go_wp2_with fail
  refine Hc.out _ ?_;intro w1 hb1;go_wp2;exact hR _ _ (qw hb1 _) (q0d Hown.out hb1)
 ·have hex : ∃ k m, xs[k]? = some m ∧ p m = true ∧ ∀ (j : Nat) (x : Move), j < k -> xs[j]? = some x -> p x = false := by
   cases h : xs.findIdx? p with
   | none =>
     rw [List.findIdx?_eq_none_iff] at h;exact absurd (fun j x hj hx => h x (List.mem_of_getElem? hx)) hany
   | some k =>
     obtain ⟨hk, hp, hlt⟩ := List.findIdx?_eq_some_iff_getElem.1 h;refine ⟨k, xs[k], List.getElem?_eq_getElem hk, hp, fun j x hj hx => ?_⟩;have := hlt j hj;rw [List.getElem?_eq_getElem (by omega)] at hx;injection hx with hx
     rw [<- hx];simpa using this
  obtain ⟨k, m0, e0, hp0, hlt0⟩ := hex;have hk : k < xs.length := (List.getElem?_eq_some_iff.1 e0).1;have hidx : idx p xs = k := qan hlt0 e0 hp0
  have hF0 : (xs.take k).filter (fun m => !p m) = xs.take k := List.filter_eq_self.2 fun x hx => by
   obtain ⟨j, hj, e⟩ := List.mem_iff_getElem.1 hx;simp at hj;rw [hlt0 j x (by omega) (by rw [<- e, List.getElem_take, List.getElem?_eq_getElem])];rfl
  have hF1 : (xs.take (k + 1)).filter (fun m => !p m) = xs.take k := by rw [q8d e0, hF0]; simp [hp0]
  have hc := q4i f p v xs w hsl Hf.out;rw [hidx] at hc;have Hc := lh hc;obtain ⟨g, cap, rfl, hbg, hgl, hnc, hmx⟩ := q3v Hown.out (by omega);obtain ⟨hen, hf⟩ := Hf.out;have hcf := hen.run;have Hf2 := lh hf;have H0 : Hid (xs[k]? = some m0 ∧ (xs.take (k + 1)).filter (fun m => !p m) = xs.take k) := ⟨e0, hF1⟩;clear hany hidx hc hf hF0 hF1 hlt0 e0 hsl;have hk1 : ((k : Int) == -1) = false := by simp
  go_enter Tryz.func107, Tryz.ntmps107
  go_wp2_with fail
  refine Hc.out _ ?_;intro w1 hb1;have hown1 := q0d Hown.out hb1;have hgr1 := qw hb1 (some g);go_wp2
  go_loopw [5, 6] (fun i jv wr => ∃ (j : Nat) (mid : List Move), k < j ∧ j ≤ xs.length ∧ jv = .int .i64 j ∧ i = .int .i64 ((((xs.take j).filter (fun m => !p m)).length : Nat) : Int) ∧ 0 < mid.length ∧ ((xs.take j).filter (fun m => !p m)).length + mid.length = j ∧
   wr.ownsRow base 81 2 (.slice (some ⟨g, 0, none⟩) xs.length cap) xs.length (((xs.take j).filter (fun m => !p m) ++ mid ++ xs.drop j).flatMap Move.cells) ∧ w.grownBy wr (some g)) (fun _ j _ => xs.length - (intOf j).toNat)
  case atStart =>
   refine ⟨k + 1, [m0], by omega, by omega, by go_num, ?_, by simp, ?_, ?_, hgr1⟩
   ·rw [H0.out.2, List.length_take, Nat.min_eq_left (by omega)]
   ·rw [H0.out.2, List.length_take, Nat.min_eq_left (by omega)]; rfl
   ·rw [H0.out.2]
    have : xs.take k ++ [m0] ++ xs.drop (k + 1) = xs := by
     have e1 := H0.out.1;rw [List.getElem?_eq_getElem hk] at e1;injection e1 with e1
     rw [List.append_assoc, List.singleton_append, <- e1, <- List.drop_eq_getElem_cons hk, List.take_append_drop]
    rw [this];exact hown1
  case round =>
   obtain ⟨j, mid, hkj, hj, rfl, rfl, hmid, hsum, hown, hgr⟩ := hrel
   by_cases hlt : j < xs.length
   ·have hm : xs[j]? = some xs[j] := List.getElem?_eq_getElem hlt;have hfs := q8d (p := fun m => !p m) hm;have hD : xs.drop j = xs[j] :: xs.drop (j + 1) := List.drop_eq_getElem_cons hlt;have hjn : (xs.drop (j + 1)).length = xs.length - (j + 1) := List.length_drop;rw [hD] at hown;generalize xs[j] = m at *;generalize hF : (xs.take j).filter (fun m => !p m) = F at *;generalize hDD : xs.drop (j + 1) = D at *;obtain ⟨HF, HD⟩ := lh2 hF hDD;clear hF hDD
    cases mid with
    | nil => simp at hmid
    | cons a mid =>
    have hl : (F ++ (a :: mid) ++ (m :: D)).length = xs.length := by simp at hsum ⊢; omega
    have hgj : (F ++ (a :: mid) ++ (m :: D))[j]? = some m := by
     rw [List.getElem?_append_right (by simp at hsum ⊢; omega), show j - (F ++ (a :: mid)).length = 0 from by simp at hsum ⊢; omega];rfl
    obtain ⟨b', off', m', hA, _, e', p0, p1⟩ := (q1h (xs := F ++ (a :: mid) ++ (m :: D)) (by rw [hl]; exact hown) (Nat.le_refl _)).move_at (k := j) (by omega);rw [hgj] at e';injection e' with e'
    injection hA with hA
    injection hA with hA1 hA2
    subst e' hA1 hA2;rw [Nat.zero_add] at p0 p1;have hgw : g < wr.heap.size := by have := hgr.size; omega
    obtain ⟨Hfs, Hs, Ho⟩ := lh3 hfs hsum hown;have HFl : F.length < j := by simp at hsum; omega
    clear hfs hsum hown hm hD hgj hl hjn
    go_wp2_with fail
    refine Hf2.out m _ _ ?_;intro w2 hb2;obtain ⟨hc2, hf2⟩ := bcell hb2;have hz : wr.heap.size < w2.heap.size := by have := hb2.size; simp at this; omega
    have hgz : g < w2.heap.size := by omega
    have hown2 := q0d (Ho.out.alloc _) hb2;have hgr2 := (hgr.trans (World.grownBy_alloc wr _ (some g))).trans (qw hb2 (some g))
    by_cases hp : p m = true
    ·rw [hp];rw [hp] at Hfs;go_wp2
     go_roundw
     case rel =>
      have hs := Hs.out;refine ⟨j + 1, a :: mid ++ [m], by omega, by omega, by go_num, ?_, by simp, ?_, ?_, hgr2⟩
      ·rw [Hfs.out]; simp
      ·rw [Hfs.out]; simp at hs ⊢; omega
      ·rw [Hfs.out, HD.out];simpa using hown2
     case measure => simp [intOf]; omega
    ·have hp' : p m = false := by simpa using hp
     rw [hp'];rw [hp'] at Hfs;obtain ⟨c0, z0⟩ := q48 Ho.out (F.length * 2) (by omega);obtain ⟨c1, z1⟩ := q48 Ho.out (F.length * 2 + 1) (by omega);obtain ⟨u0, d0⟩ := Option.isSome_iff_exists.1 c0;obtain ⟨u1, d1⟩ := Option.isSome_iff_exists.1 c1;clear c0 c1;have i1 : (F.length : Int) < (xs.length : Int) := by omega
     have hown3 : (w2.setCells g (F.length * 2) m.cells).ownsRow base 81 2 (.slice (some ⟨g, 0, none⟩) xs.length cap) xs.length (((F ++ [m]) ++ (mid ++ [m]) ++ D).flatMap Move.cells) := by
      refine q1x hown2 (by show _ + 2 ≤ _; omega) (Nat.le_refl _) _ ?_;rw [qf6 Move.cells 2 Move.cells_length _ _ _ (by simp), ql9, List.take_of_length_le];have hs := Hs.out;have := hown2.1;rw [q0e Move.cells 2 Move.cells_length] at this ⊢;simp at this ⊢ <;> omega
     have hgr3 := q2n (g := g) m.cells (F.length * 2) w2 hgr2;clear hown2;go_wp2
     go_roundw
     case rel =>
      have hs := Hs.out;refine ⟨j + 1, mid ++ [m], by omega, by omega, by go_num, ?_, by simp, ?_, ?_, hgr3⟩
      ·rw [Hfs.out]; simp
      ·rw [Hfs.out]; simp at hs ⊢; omega
      ·rw [Hfs.out, HD.out];exact hown3
     case measure => simp [intOf]; omega
   ·obtain rfl : j = xs.length := by omega
    rw [List.drop_length, List.append_nil] at hown;rw [List.take_length] at hown hsum;generalize hF : xs.filter (fun m => !p m) = F at *;obtain ⟨HF, Hs⟩ := lh2 hF hsum;have HFl : F.length < xs.length := by omega
    have hownF : wr.ownsRow base 81 2 (.slice (some ⟨g, 0, none⟩) F.length cap) F.length (F.flatMap Move.cells) := by
     have := q1x (vs := []) (o := 0) (m := F.length) hown (by simp) (by omega) (F.flatMap Move.cells) (by
      simp only [List.take_zero, List.nil_append, List.length_nil, Nat.add_zero, List.drop_zero];rw [List.flatMap_append, List.take_append_of_le_length (by rw [q0e Move.cells 2 Move.cells_length]; exact Nat.le_refl _), List.take_of_length_le (by rw [q0e Move.cells 2 Move.cells_length]; exact Nat.le_refl _)])
     exact this
    have hgw : g < wr.heap.size := by have := hgr.size; omega
    have Ho := lh hown;clear hown hsum hF;have i0 : (0 : Int) ≤ (F.length : Int) := Int.natCast_nonneg _;have i1 : (F.length : Int) ≤ (xs.length : Int) := by omega
    have i2 : (F.length : Int) ≤ (cap : Int) := by omega
    rw [show (List.filter (fun m => !p m) (List.take xs.length xs)).length = F.length from by rw [List.take_length, HF.out]]
    go_wp2_with (with_reducible refine q4k rfl (.tmp 38) 76 rfl 81 _ Tryz.underlying76 qd8 rfl ?_ hownF (F.length * 2) (xs.length - F.length) (cap - F.length) ?_ ?_ ?_ ?_)
    ·intro u hu;simp [Value.cells] at hu;subst hu;rfl
    ·rfl
    ·omega
    ·exact fun _ => rfl
    ·intro w2 hown2 hg2;go_wp2;exact hR _ _ (hgr.trans hg2) hown2
end Go.Proofs.YtdanebboiekieaaGreatDoor
