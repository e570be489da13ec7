/- The walks, part 3. -/
import Derived.Test.YtdanebboiekieaaGreatDoorP02
set_option linter.unusedSimpArgs false
set_option linter.unusedVariables false
set_option maxRecDepth 100000
set_option maxHeartbeats 16000000
namespace Go.Proofs.YtdanebboiekieaaGreatDoor
open Go.RowKit
theorem insW {w W w1 : World} {x0 x1 x2 x3 x4 x5 x6 x7 c0 c1 c2 c3 c4 c5 c6 : Value} {S T : TypeId} (h0 : Below w.heap.size w W) (h1 : Below W.heap.size W w1) (HX : W.heap[w.heap.size + 1]? = some (.cells #[x0, x1, x2, x3, x4, x5, x6, x7] S (0, 0))) (HC : W.heap[w.heap.size]? = some (.cells #[c0, c1, c2, c3, c4, c5, c6] T (0, 0))) :
 (w1.cell? ⟨w.heap.size + 1, 0, none⟩ = some x0 ∧ w1.cell? ⟨w.heap.size + 1, 1, none⟩ = some x1 ∧ w1.cell? ⟨w.heap.size + 1, 2, none⟩ = some x2 ∧ w1.cell? ⟨w.heap.size + 1, 3, none⟩ = some x3 ∧ w1.cell? ⟨w.heap.size + 1, 4, none⟩ = some x4 ∧ w1.cell? ⟨w.heap.size + 1, 5, none⟩ = some x5 ∧ w1.cell? ⟨w.heap.size + 1, 6, none⟩ = some x6 ∧ w1.cell? ⟨w.heap.size + 1, 7, none⟩ = some x7) ∧ (w1.cell? ⟨w.heap.size, 0, none⟩ = some c0 ∧ w1.cell? ⟨w.heap.size, 1, none⟩ = some c1 ∧ w1.cell? ⟨w.heap.size, 2, none⟩ = some c2 ∧ w1.cell? ⟨w.heap.size, 3, none⟩ = some c3 ∧ w1.cell? ⟨w.heap.size, 4, none⟩ = some c4 ∧ w1.cell? ⟨w.heap.size, 5, none⟩ = some c5 ∧ w1.cell? ⟨w.heap.size, 6, none⟩ = some c6) ∧ w.heap.size + 1 < w1.heap.size ∧ w.heap.size < w1.heap.size ∧ RowKit.Hid (w1.heap[w.heap.size + 1]? = some (.cells #[x0, x1, x2, x3, x4, x5, x6, x7] S (0, 0))) ∧ RowKit.Hid (w1.heap[w.heap.size]? = some (.cells #[c0, c1, c2, c3, c4, c5, c6] T (0, 0))) ∧ RowKit.Hid (Below w.heap.size w w1) := by
 have hX := (h1.block _ (qc HX)).trans HX
 have hC := (h1.block _ (qc HC)).trans HC
 exact ⟨q0h hX, qx hC, qc hX, qc hC, hX, hC, h0.trans (h1.mono h0.size)⟩
theorem q1s (r s : Bool) (n m : Int) (w : World) : (binOp .neq 64 (.agg #[.bool r, .int .i64 n]) (.agg #[.bool s, .int .i64 m])).run Tryz.prog w = .ok (.bool (!decide (r = s ∧ n = m))) w := by
 have hp : Tryz.prog.stoodInHeld 64 = false := by kernel_rfl
 have ht : Tryz.prog.underlying 64 = some (.struct (Tryz.prog.fieldsOf 64)) := by kernel_rfl
 rw [run_neq_struct, run_equalIn_agg _ _ _ _ _ ht hp]
 have h3 := Tryz.underlying3
 have h4 := Tryz.underlying4
 simp [Tryz.underlying64, go_sem, h3, h4]
 by_cases h2 : n = m <;> cases r <;> cases s <;> simp [h2]
theorem q3i (v : UVal) : decide (v.reg = false ∧ v.n = 0) = isZ v := by
 unfold isZ
 cases v.reg <;> simp
theorem qhd (gA fA bA aA : Option Addr) (gn gc fn fc bn bc' an ac : Nat) (nm : ByteArray) (pr rg : Int) (u : Unt) (x : UIns) (A : Option Addr) (c : Nat) (hrg : I64 rg) (h0 : -9223372036854775807 ≤ rg) (w : World)
 (hf : rpFun.SL w w.heap.size u.funcs (.slice fA fn fc)) (ha : rpVal.SL w w.heap.size x.args (.slice A x.args.length c)) (hop : 1 ≤ x.op ∧ x.op ≤ 22)
 (hD : opDst x.op = true) (hA : opA x.op = true) (hB : opB x.op = false) (hc : decide (x.op = 20) = false)
 (R : Ending -> World -> Prop) (hR : ∀ w', Below w.heap.size w w' -> R (.returned (.int .i64 (insF u rg x))) w') :
 Calls Tryz.prog 138 #[(.agg #[.slice gA gn gc, .slice fA fn fc, .string nm, .int .i64 pr, .int .i64 rg, .slice bA bn bc', .slice aA an ac]), .agg #[.int .i64 x.op, .int .i64 x.dst, .bool x.a.reg, .int .i64 x.a.n, .bool x.b.reg, .int .i64 x.b.n, .int .i64 x.fn, .slice A x.args.length c]] w R := by
 have HR := lh hR
 have hop' : decide (1 ≤ x.op ∧ x.op ≤ 22) = true := by simpa using hop
 have hcb : (x.op == 20) = false := by simpa using hc
 obtain ⟨Hf, Ha⟩ := lh2 hf ha
 have hal := ha.max
 unfold maxLen at hal
 clear hR hf ha
 obtain ⟨HC, HX⟩ := al12 w (.cells #[.slice gA gn gc, .slice fA fn fc, .string nm, .int .i64 pr, .int .i64 rg, .slice bA bn bc', .slice aA an ac] 171) (.cells #[.int .i64 x.op, .int .i64 x.dst, .bool x.a.reg, .int .i64 x.a.n, .bool x.b.reg, .int .i64 x.b.n, .int .i64 x.fn, .slice A x.args.length c] 71)
 by_cases n_B : ¬ isZ x.b = true
 ·have e : insF u rg x = 5 := by unfold insF; rw [if_neg (by omega), if_pos (.inr (.inr (.inl ⟨hB, by simpa using n_B⟩)))]
  rw [e] at HR
  have t_B : ∀ w, (binOp .neq 64 (.agg #[.bool x.b.reg, .int .i64 x.b.n]) (.agg #[.bool false, .int .i64 0])).run Tryz.prog w = .ok (.bool true) w := fun w => by rw [q1s, q3i, show isZ x.b = false from by simpa using n_B]; rfl
  clear e hop hc n_B
  go_enter Tryz.func138, Tryz.ntmps138
  go_wp2_with fail
  refine qd _ _ _ _ _ ?_
  rw [hop']
  go_wp2_with fail
  refine qm _ _ _ (fun w1 hb1 => ?_)
  rw [hD, hA, hB]
  have hs1 := hb1.size
  obtain ⟨⟨x0, x1, x2, x3, x4, x5, x6, x7⟩, ⟨c0, c1, c2, c3, c4, c5, c6⟩, lx, lc, HXw, HCw, Hbw⟩ := insW (by exact bl0) hb1 HX.out HC.out
  have Hb1 := lh hb1
  clear hb1
  clear HX HC
  go_wp2
  exact HR.out _ (bzz Hbw bl0)
 have t1_B := lh (Decidable.of_not_not n_B)
 clear n_B
 have t_B : ∀ w, (binOp .neq 64 (.agg #[.bool x.b.reg, .int .i64 x.b.n]) (.agg #[.bool false, .int .i64 0])).run Tryz.prog w = .ok (.bool false) w := fun w => by rw [q1s, q3i, t1_B.out]; rfl
 by_cases n_fn : ¬ x.fn = 0
 ·have e : insF u rg x = 5 := by unfold insF; rw [if_neg (by omega), if_pos (.inr (.inr (.inr ⟨by simpa using hc, .inl n_fn⟩)))]
  rw [e] at HR
  have t_fn : (x.fn != 0) = true := by simpa using n_fn
  clear e hop hc n_fn
  go_enter Tryz.func138, Tryz.ntmps138
  go_wp2_with fail
  refine qd _ _ _ _ _ ?_
  rw [hop']
  go_wp2_with fail
  refine qm _ _ _ (fun w1 hb1 => ?_)
  rw [hD, hA, hB]
  have hs1 := hb1.size
  obtain ⟨⟨x0, x1, x2, x3, x4, x5, x6, x7⟩, ⟨c0, c1, c2, c3, c4, c5, c6⟩, lx, lc, HXw, HCw, Hbw⟩ := insW (by exact bl0) hb1 HX.out HC.out
  have Hb1 := lh hb1
  clear hb1
  clear HX HC
  go_wp2
  exact HR.out _ (bzz Hbw bl0)
 have t1_fn := lh (Decidable.of_not_not n_fn)
 clear n_fn
 have t_fn : (x.fn != 0) = false := by simpa using t1_fn.out
 by_cases n_len : ¬ ¬ 0 < x.args.length
 ·have e : insF u rg x = 5 := by unfold insF; rw [if_neg (by omega), if_pos (.inr (.inr (.inr ⟨by simpa using hc, .inr (Decidable.of_not_not n_len)⟩)))]
  rw [e] at HR
  have t_len : (0 : Int) < (x.args.length : Int) := by omega
  clear e hop hc n_len
  go_enter Tryz.func138, Tryz.ntmps138
  go_wp2_with fail
  refine qd _ _ _ _ _ ?_
  rw [hop']
  go_wp2_with fail
  refine qm _ _ _ (fun w1 hb1 => ?_)
  rw [hD, hA, hB]
  have hs1 := hb1.size
  obtain ⟨⟨x0, x1, x2, x3, x4, x5, x6, x7⟩, ⟨c0, c1, c2, c3, c4, c5, c6⟩, lx, lc, HXw, HCw, Hbw⟩ := insW (by exact bl0) hb1 HX.out HC.out
  have Hb1 := lh hb1
  clear hb1
  clear HX HC
  go_wp2
  exact HR.out _ (bzz Hbw bl0)
 have t_len : ¬ (0 : Int) < (x.args.length : Int) := by omega
 have e0 : insF u rg x = if opDst x.op = true ∧ ¬ (x.op = 20 ∧ x.dst = -1) ∧ dstF rg x.dst ≠ 0 then dstF rg x.dst else fst0 [valF rg x.a, valF rg x.b, callF u rg x] := by
  unfold insF
  rw [if_neg (by omega), if_neg (by
   rintro (⟨h1, h2⟩ | ⟨h1, h2⟩ | ⟨h1, h2⟩ | ⟨h1, h2⟩)
   ·exact (by rw [hD] at h1; cases h1)
   ·exact (by rw [hA] at h1; cases h1)
   ·exact (by rw [t1_B.out] at h2; cases h2)
   ·exact h2.elim (fun h => h t1_fn.out) (fun h => by omega))]
 rw [e0] at HR
 clear e0
 by_cases hdz : dstF rg x.dst = 0
 ·rw [if_neg (fun h => h.2.2 hdz)] at HR
  have hdb : (dstF rg x.dst != 0) = false := by simpa using hdz
  clear hop
  go_enter Tryz.func138, Tryz.ntmps138
  go_wp2_with fail
  refine qd _ _ _ _ _ ?_
  rw [hop']
  go_wp2_with fail
  refine qm _ _ _ (fun w1 hb1 => ?_)
  rw [hD, hA, hB]
  have hs1 := hb1.size
  obtain ⟨⟨x0, x1, x2, x3, x4, x5, x6, x7⟩, ⟨c0, c1, c2, c3, c4, c5, c6⟩, lx, lc, HXw, HCw, Hbw⟩ := insW (by exact bl0) hb1 HX.out HC.out
  have Hb1 := lh hb1
  clear hb1
  clear HX HC
  go_wp2_with fail
  refine q0y gA fA bA aA gn gc fn fc bn bc' an ac nm pr rg x.dst hrg _ h0 _ (fun w2 hb2 => ?_)
  rw [hdz]
  have hb12 : Below w1.heap.size w1 w2 := (by exact bl0 : Below w1.heap.size w1 _).trans (hb2.mono (by simp; omega))
  have hL2 : w2.heap[w1.heap.size + 1]? = some (.cells #[.bool false] 4 (0, 0)) := (hb2.block _ (by simp)).trans (by have := heap_alloc_new (w1.alloc (Obj.cells #[.bool true, .bool true, .bool false] 148)) (Obj.cells #[.bool false] 4); simpa using this)
  clear hb2
  have hC2 := (hb12.block _ lc).trans HCw.out
  have hX2 := (hb12.block _ lx).trans HXw.out
  have hs12 := hb12.size
  have hB2 := Hbw.out.trans (hb12.mono Hbw.out.size)
  obtain ⟨HC3, HX3, HL3⟩ := bl3 (.cells #[.func (.func 155) #[] #[.pointer (some ⟨w.heap.size, 0, none⟩), .pointer (some ⟨w.heap.size + 1, 0, none⟩)], .func (.func 156) #[] #[.pointer (some ⟨w.heap.size, 0, none⟩), .pointer (some ⟨w.heap.size + 1, 0, none⟩)], .func (.func 157) #[] #[.pointer (some ⟨w1.heap.size + 1, 0, none⟩), .pointer (some ⟨w.heap.size + 1, 0, none⟩), .pointer (some ⟨w.heap.size, 0, none⟩)]] 173) hC2 hX2 hL2
  have HN3 := lh (heap_alloc_new w2 (Obj.cells #[.func (.func 155) #[] #[.pointer (some ⟨w.heap.size, 0, none⟩), .pointer (some ⟨w.heap.size + 1, 0, none⟩)], .func (.func 156) #[] #[.pointer (some ⟨w.heap.size, 0, none⟩), .pointer (some ⟨w.heap.size + 1, 0, none⟩)], .func (.func 157) #[] #[.pointer (some ⟨w1.heap.size + 1, 0, none⟩), .pointer (some ⟨w.heap.size + 1, 0, none⟩), .pointer (some ⟨w.heap.size, 0, none⟩)]] 173))
  have HB3 : Hid (Below w.heap.size w (w2.alloc (Obj.cells #[.func (.func 155) #[] #[.pointer (some ⟨w.heap.size, 0, none⟩), .pointer (some ⟨w.heap.size + 1, 0, none⟩)], .func (.func 156) #[] #[.pointer (some ⟨w.heap.size, 0, none⟩), .pointer (some ⟨w.heap.size + 1, 0, none⟩)], .func (.func 157) #[] #[.pointer (some ⟨w1.heap.size + 1, 0, none⟩), .pointer (some ⟨w.heap.size + 1, 0, none⟩), .pointer (some ⟨w.heap.size, 0, none⟩)]] 173))) := lh (hB2.trans ((by exact bl0 : Below w2.heap.size w2 _).mono hB2.size))
  clear hC2 hX2 hL2 hb12 hB2
  go_wp2_with fail
  refine q1l _ (w1.heap.size + 1) w.heap.size (w.heap.size + 1) (valF rg x.a) (valF rg x.b) (callF u rg x) _ ?_ ?_ ?_ ?_ ?_ ?_ ?_ _ (fun w4 hb4 => ?_)
  ·first | (simp; done) | exact qc HN3.out
  ·rw [qe (by first | exact HN3.out | (simpa using HN3.out))]; rfl
  ·rw [qe (by first | exact HN3.out | (simpa using HN3.out))]; rfl
  ·rw [qe (by first | exact HN3.out | (simpa using HN3.out))]; rfl
  ·exact fun w5 hb5 R5 hR5 => q2j gA fA bA aA gn gc fn fc bn bc' an ac nm pr rg x (.slice A x.args.length c) hrg h0 w.heap.size (w.heap.size + 1) _ _ w5 ((hb5.block _ (qc HC3.out)).trans HC3.out) ((hb5.block _ (qc HX3.out)).trans HX3.out) R5 hR5
  ·exact fun w5 hb5 R5 hR5 => q1z gA fA bA aA gn gc fn fc bn bc' an ac nm pr rg x (.slice A x.args.length c) hrg h0 w.heap.size (w.heap.size + 1) _ _ w5 ((hb5.block _ (qc HC3.out)).trans HC3.out) ((hb5.block _ (qc HX3.out)).trans HX3.out) R5 hR5
  ·intro w5 hb5 R5 hR5
   have hB5 := HB3.out.trans (hb5.mono HB3.out.size)
   have hL5 := (hb5.block _ (qc HL3.out)).trans HL3.out
   rw [<- hc] at hL5
   exact q2a gA fA bA aA gn gc fn fc bn bc' an ac nm pr rg u x (.slice A x.args.length c) hrg h0 (w1.heap.size + 1) w.heap.size (w.heap.size + 1) _ _ _ w5 hL5 ((hb5.block _ (qc HC3.out)).trans HC3.out) ((hb5.block _ (qc HX3.out)).trans HX3.out) (Hf.out.up hB5 hB5.size) (Ha.out.up hB5 hB5.size) R5 hR5
  have Hfin := lh (HR.out _ (HB3.out.trans (hb4.mono HB3.out.size)))
  clear hb4
  go_wp2
  exact Hfin.out
 ·rw [if_pos ⟨hD, fun h => by simp [h.1] at hc, hdz⟩] at HR
  have hdb : (dstF rg x.dst != 0) = true := by simpa using hdz
  clear hop hc
  go_enter Tryz.func138, Tryz.ntmps138
  go_wp2_with fail
  refine qd _ _ _ _ _ ?_
  rw [hop']
  go_wp2_with fail
  refine qm _ _ _ (fun w1 hb1 => ?_)
  rw [hD, hA, hB]
  have hs1 := hb1.size
  obtain ⟨⟨x0, x1, x2, x3, x4, x5, x6, x7⟩, ⟨c0, c1, c2, c3, c4, c5, c6⟩, lx, lc, HXw, HCw, Hbw⟩ := insW (by exact bl0) hb1 HX.out HC.out
  have Hb1 := lh hb1
  clear hb1
  clear HX HC
  go_wp2_with fail
  refine q0y gA fA bA aA gn gc fn fc bn bc' an ac nm pr rg x.dst hrg _ h0 _ (fun w2 hb2 => ?_)
  have Hb2 := lh (Hbw.out.trans (((by exact bl0 : Below w1.heap.size w1 _).trans (hb2.mono (by simp; omega))).mono Hbw.out.size))
  clear hb2
  go_wp2
  exact HR.out _ Hb2.out
theorem qjk (gA fA bA aA : Option Addr) (gn gc fn fc bn bc' an ac : Nat) (nm : ByteArray) (pr rg : Int) (u : Unt) (x : UIns) (A : Option Addr) (c : Nat) (hrg : I64 rg) (h0 : -9223372036854775807 ≤ rg) (w : World)
 (hf : rpFun.SL w w.heap.size u.funcs (.slice fA fn fc)) (ha : rpVal.SL w w.heap.size x.args (.slice A x.args.length c)) (hop : 1 ≤ x.op ∧ x.op ≤ 22)
 (hD : opDst x.op = true) (hA : opA x.op = true) (hB : opB x.op = true) (hc : decide (x.op = 20) = false)
 (R : Ending -> World -> Prop) (hR : ∀ w', Below w.heap.size w w' -> R (.returned (.int .i64 (insF u rg x))) w') :
 Calls Tryz.prog 138 #[(.agg #[.slice gA gn gc, .slice fA fn fc, .string nm, .int .i64 pr, .int .i64 rg, .slice bA bn bc', .slice aA an ac]), .agg #[.int .i64 x.op, .int .i64 x.dst, .bool x.a.reg, .int .i64 x.a.n, .bool x.b.reg, .int .i64 x.b.n, .int .i64 x.fn, .slice A x.args.length c]] w R := by
 have HR := lh hR
 have hop' : decide (1 ≤ x.op ∧ x.op ≤ 22) = true := by simpa using hop
 have hcb : (x.op == 20) = false := by simpa using hc
 obtain ⟨Hf, Ha⟩ := lh2 hf ha
 have hal := ha.max
 unfold maxLen at hal
 clear hR hf ha
 obtain ⟨HC, HX⟩ := al12 w (.cells #[.slice gA gn gc, .slice fA fn fc, .string nm, .int .i64 pr, .int .i64 rg, .slice bA bn bc', .slice aA an ac] 171) (.cells #[.int .i64 x.op, .int .i64 x.dst, .bool x.a.reg, .int .i64 x.a.n, .bool x.b.reg, .int .i64 x.b.n, .int .i64 x.fn, .slice A x.args.length c] 71)
 by_cases n_fn : ¬ x.fn = 0
 ·have e : insF u rg x = 5 := by unfold insF; rw [if_neg (by omega), if_pos (.inr (.inr (.inr ⟨by simpa using hc, .inl n_fn⟩)))]
  rw [e] at HR
  have t_fn : (x.fn != 0) = true := by simpa using n_fn
  clear e hop hc n_fn
  go_enter Tryz.func138, Tryz.ntmps138
  go_wp2_with fail
  refine qd _ _ _ _ _ ?_
  rw [hop']
  go_wp2_with fail
  refine qm _ _ _ (fun w1 hb1 => ?_)
  rw [hD, hA, hB]
  have hs1 := hb1.size
  obtain ⟨⟨x0, x1, x2, x3, x4, x5, x6, x7⟩, ⟨c0, c1, c2, c3, c4, c5, c6⟩, lx, lc, HXw, HCw, Hbw⟩ := insW (by exact bl0) hb1 HX.out HC.out
  have Hb1 := lh hb1
  clear hb1
  clear HX HC
  go_wp2
  exact HR.out _ (bzz Hbw bl0)
 have t1_fn := lh (Decidable.of_not_not n_fn)
 clear n_fn
 have t_fn : (x.fn != 0) = false := by simpa using t1_fn.out
 by_cases n_len : ¬ ¬ 0 < x.args.length
 ·have e : insF u rg x = 5 := by unfold insF; rw [if_neg (by omega), if_pos (.inr (.inr (.inr ⟨by simpa using hc, .inr (Decidable.of_not_not n_len)⟩)))]
  rw [e] at HR
  have t_len : (0 : Int) < (x.args.length : Int) := by omega
  clear e hop hc n_len
  go_enter Tryz.func138, Tryz.ntmps138
  go_wp2_with fail
  refine qd _ _ _ _ _ ?_
  rw [hop']
  go_wp2_with fail
  refine qm _ _ _ (fun w1 hb1 => ?_)
  rw [hD, hA, hB]
  have hs1 := hb1.size
  obtain ⟨⟨x0, x1, x2, x3, x4, x5, x6, x7⟩, ⟨c0, c1, c2, c3, c4, c5, c6⟩, lx, lc, HXw, HCw, Hbw⟩ := insW (by exact bl0) hb1 HX.out HC.out
  have Hb1 := lh hb1
  clear hb1
  clear HX HC
  go_wp2
  exact HR.out _ (bzz Hbw bl0)
 have t_len : ¬ (0 : Int) < (x.args.length : Int) := by omega
 have e0 : insF u rg x = if opDst x.op = true ∧ ¬ (x.op = 20 ∧ x.dst = -1) ∧ dstF rg x.dst ≠ 0 then dstF rg x.dst else fst0 [valF rg x.a, valF rg x.b, callF u rg x] := by
  unfold insF
  rw [if_neg (by omega), if_neg (by
   rintro (⟨h1, h2⟩ | ⟨h1, h2⟩ | ⟨h1, h2⟩ | ⟨h1, h2⟩)
   ·exact (by rw [hD] at h1; cases h1)
   ·exact (by rw [hA] at h1; cases h1)
   ·exact (by rw [hB] at h1; cases h1)
   ·exact h2.elim (fun h => h t1_fn.out) (fun h => by omega))]
 rw [e0] at HR
 clear e0
 by_cases hdz : dstF rg x.dst = 0
 ·rw [if_neg (fun h => h.2.2 hdz)] at HR
  have hdb : (dstF rg x.dst != 0) = false := by simpa using hdz
  clear hop
  go_enter Tryz.func138, Tryz.ntmps138
  go_wp2_with fail
  refine qd _ _ _ _ _ ?_
  rw [hop']
  go_wp2_with fail
  refine qm _ _ _ (fun w1 hb1 => ?_)
  rw [hD, hA, hB]
  have hs1 := hb1.size
  obtain ⟨⟨x0, x1, x2, x3, x4, x5, x6, x7⟩, ⟨c0, c1, c2, c3, c4, c5, c6⟩, lx, lc, HXw, HCw, Hbw⟩ := insW (by exact bl0) hb1 HX.out HC.out
  have Hb1 := lh hb1
  clear hb1
  clear HX HC
  go_wp2_with fail
  refine q0y gA fA bA aA gn gc fn fc bn bc' an ac nm pr rg x.dst hrg _ h0 _ (fun w2 hb2 => ?_)
  rw [hdz]
  have hb12 : Below w1.heap.size w1 w2 := (by exact bl0 : Below w1.heap.size w1 _).trans (hb2.mono (by simp; omega))
  have hL2 : w2.heap[w1.heap.size + 1]? = some (.cells #[.bool false] 4 (0, 0)) := (hb2.block _ (by simp)).trans (by have := heap_alloc_new (w1.alloc (Obj.cells #[.bool true, .bool true, .bool true] 148)) (Obj.cells #[.bool false] 4); simpa using this)
  clear hb2
  have hC2 := (hb12.block _ lc).trans HCw.out
  have hX2 := (hb12.block _ lx).trans HXw.out
  have hs12 := hb12.size
  have hB2 := Hbw.out.trans (hb12.mono Hbw.out.size)
  obtain ⟨HC3, HX3, HL3⟩ := bl3 (.cells #[.func (.func 155) #[] #[.pointer (some ⟨w.heap.size, 0, none⟩), .pointer (some ⟨w.heap.size + 1, 0, none⟩)], .func (.func 156) #[] #[.pointer (some ⟨w.heap.size, 0, none⟩), .pointer (some ⟨w.heap.size + 1, 0, none⟩)], .func (.func 157) #[] #[.pointer (some ⟨w1.heap.size + 1, 0, none⟩), .pointer (some ⟨w.heap.size + 1, 0, none⟩), .pointer (some ⟨w.heap.size, 0, none⟩)]] 173) hC2 hX2 hL2
  have HN3 := lh (heap_alloc_new w2 (Obj.cells #[.func (.func 155) #[] #[.pointer (some ⟨w.heap.size, 0, none⟩), .pointer (some ⟨w.heap.size + 1, 0, none⟩)], .func (.func 156) #[] #[.pointer (some ⟨w.heap.size, 0, none⟩), .pointer (some ⟨w.heap.size + 1, 0, none⟩)], .func (.func 157) #[] #[.pointer (some ⟨w1.heap.size + 1, 0, none⟩), .pointer (some ⟨w.heap.size + 1, 0, none⟩), .pointer (some ⟨w.heap.size, 0, none⟩)]] 173))
  have HB3 : Hid (Below w.heap.size w (w2.alloc (Obj.cells #[.func (.func 155) #[] #[.pointer (some ⟨w.heap.size, 0, none⟩), .pointer (some ⟨w.heap.size + 1, 0, none⟩)], .func (.func 156) #[] #[.pointer (some ⟨w.heap.size, 0, none⟩), .pointer (some ⟨w.heap.size + 1, 0, none⟩)], .func (.func 157) #[] #[.pointer (some ⟨w1.heap.size + 1, 0, none⟩), .pointer (some ⟨w.heap.size + 1, 0, none⟩), .pointer (some ⟨w.heap.size, 0, none⟩)]] 173))) := lh (hB2.trans ((by exact bl0 : Below w2.heap.size w2 _).mono hB2.size))
  clear hC2 hX2 hL2 hb12 hB2
  go_wp2_with fail
  refine q1l _ (w1.heap.size + 1) w.heap.size (w.heap.size + 1) (valF rg x.a) (valF rg x.b) (callF u rg x) _ ?_ ?_ ?_ ?_ ?_ ?_ ?_ _ (fun w4 hb4 => ?_)
  ·first | (simp; done) | exact qc HN3.out
  ·rw [qe (by first | exact HN3.out | (simpa using HN3.out))]; rfl
  ·rw [qe (by first | exact HN3.out | (simpa using HN3.out))]; rfl
  ·rw [qe (by first | exact HN3.out | (simpa using HN3.out))]; rfl
  ·exact fun w5 hb5 R5 hR5 => q2j gA fA bA aA gn gc fn fc bn bc' an ac nm pr rg x (.slice A x.args.length c) hrg h0 w.heap.size (w.heap.size + 1) _ _ w5 ((hb5.block _ (qc HC3.out)).trans HC3.out) ((hb5.block _ (qc HX3.out)).trans HX3.out) R5 hR5
  ·exact fun w5 hb5 R5 hR5 => q1z gA fA bA aA gn gc fn fc bn bc' an ac nm pr rg x (.slice A x.args.length c) hrg h0 w.heap.size (w.heap.size + 1) _ _ w5 ((hb5.block _ (qc HC3.out)).trans HC3.out) ((hb5.block _ (qc HX3.out)).trans HX3.out) R5 hR5
  ·intro w5 hb5 R5 hR5
   have hB5 := HB3.out.trans (hb5.mono HB3.out.size)
   have hL5 := (hb5.block _ (qc HL3.out)).trans HL3.out
   rw [<- hc] at hL5
   exact q2a gA fA bA aA gn gc fn fc bn bc' an ac nm pr rg u x (.slice A x.args.length c) hrg h0 (w1.heap.size + 1) w.heap.size (w.heap.size + 1) _ _ _ w5 hL5 ((hb5.block _ (qc HC3.out)).trans HC3.out) ((hb5.block _ (qc HX3.out)).trans HX3.out) (Hf.out.up hB5 hB5.size) (Ha.out.up hB5 hB5.size) R5 hR5
  have Hfin := lh (HR.out _ (HB3.out.trans (hb4.mono HB3.out.size)))
  clear hb4
  go_wp2
  exact Hfin.out
 ·rw [if_pos ⟨hD, fun h => by simp [h.1] at hc, hdz⟩] at HR
  have hdb : (dstF rg x.dst != 0) = true := by simpa using hdz
  clear hop hc
  go_enter Tryz.func138, Tryz.ntmps138
  go_wp2_with fail
  refine qd _ _ _ _ _ ?_
  rw [hop']
  go_wp2_with fail
  refine qm _ _ _ (fun w1 hb1 => ?_)
  rw [hD, hA, hB]
  have hs1 := hb1.size
  obtain ⟨⟨x0, x1, x2, x3, x4, x5, x6, x7⟩, ⟨c0, c1, c2, c3, c4, c5, c6⟩, lx, lc, HXw, HCw, Hbw⟩ := insW (by exact bl0) hb1 HX.out HC.out
  have Hb1 := lh hb1
  clear hb1
  clear HX HC
  go_wp2_with fail
  refine q0y gA fA bA aA gn gc fn fc bn bc' an ac nm pr rg x.dst hrg _ h0 _ (fun w2 hb2 => ?_)
  have Hb2 := lh (Hbw.out.trans (((by exact bl0 : Below w1.heap.size w1 _).trans (hb2.mono (by simp; omega))).mono Hbw.out.size))
  clear hb2
  go_wp2
  exact HR.out _ Hb2.out
theorem qes (gA fA bA aA : Option Addr) (gn gc fn fc bn bc' an ac : Nat) (nm : ByteArray) (pr rg : Int) (u : Unt) (x : UIns) (A : Option Addr) (c : Nat) (hrg : I64 rg) (h0 : -9223372036854775807 ≤ rg) (w : World)
 (hf : rpFun.SL w w.heap.size u.funcs (.slice fA fn fc)) (ha : rpVal.SL w w.heap.size x.args (.slice A x.args.length c)) (hop : 1 ≤ x.op ∧ x.op ≤ 22)
 (hD : opDst x.op = false) (hA : opA x.op = true) (hB : opB x.op = true) (hc : decide (x.op = 20) = false)
 (R : Ending -> World -> Prop) (hR : ∀ w', Below w.heap.size w w' -> R (.returned (.int .i64 (insF u rg x))) w') :
 Calls Tryz.prog 138 #[(.agg #[.slice gA gn gc, .slice fA fn fc, .string nm, .int .i64 pr, .int .i64 rg, .slice bA bn bc', .slice aA an ac]), .agg #[.int .i64 x.op, .int .i64 x.dst, .bool x.a.reg, .int .i64 x.a.n, .bool x.b.reg, .int .i64 x.b.n, .int .i64 x.fn, .slice A x.args.length c]] w R := by
 have HR := lh hR
 have hop' : decide (1 ≤ x.op ∧ x.op ≤ 22) = true := by simpa using hop
 have hcb : (x.op == 20) = false := by simpa using hc
 obtain ⟨Hf, Ha⟩ := lh2 hf ha
 have hal := ha.max
 unfold maxLen at hal
 clear hR hf ha
 obtain ⟨HC, HX⟩ := al12 w (.cells #[.slice gA gn gc, .slice fA fn fc, .string nm, .int .i64 pr, .int .i64 rg, .slice bA bn bc', .slice aA an ac] 171) (.cells #[.int .i64 x.op, .int .i64 x.dst, .bool x.a.reg, .int .i64 x.a.n, .bool x.b.reg, .int .i64 x.b.n, .int .i64 x.fn, .slice A x.args.length c] 71)
 by_cases n_dst : ¬ x.dst = -1
 ·have e : insF u rg x = 5 := by unfold insF; rw [if_neg (by omega), if_pos (.inl ⟨hD, n_dst⟩)]
  rw [e] at HR
  have t_dst : (x.dst != -1) = true := by simpa using n_dst
  clear e hop hc n_dst
  go_enter Tryz.func138, Tryz.ntmps138
  go_wp2_with fail
  refine qd _ _ _ _ _ ?_
  rw [hop']
  go_wp2_with fail
  refine qm _ _ _ (fun w1 hb1 => ?_)
  rw [hD, hA, hB]
  have hs1 := hb1.size
  obtain ⟨⟨x0, x1, x2, x3, x4, x5, x6, x7⟩, ⟨c0, c1, c2, c3, c4, c5, c6⟩, lx, lc, HXw, HCw, Hbw⟩ := insW (by exact bl0) hb1 HX.out HC.out
  have Hb1 := lh hb1
  clear hb1
  clear HX HC
  go_wp2
  exact HR.out _ (bzz Hbw bl0)
 have t1_dst := lh (Decidable.of_not_not n_dst)
 clear n_dst
 have t_dst : (x.dst != -1) = false := by simpa using t1_dst.out
 by_cases n_fn : ¬ x.fn = 0
 ·have e : insF u rg x = 5 := by unfold insF; rw [if_neg (by omega), if_pos (.inr (.inr (.inr ⟨by simpa using hc, .inl n_fn⟩)))]
  rw [e] at HR
  have t_fn : (x.fn != 0) = true := by simpa using n_fn
  clear e hop hc n_fn
  go_enter Tryz.func138, Tryz.ntmps138
  go_wp2_with fail
  refine qd _ _ _ _ _ ?_
  rw [hop']
  go_wp2_with fail
  refine qm _ _ _ (fun w1 hb1 => ?_)
  rw [hD, hA, hB]
  have hs1 := hb1.size
  obtain ⟨⟨x0, x1, x2, x3, x4, x5, x6, x7⟩, ⟨c0, c1, c2, c3, c4, c5, c6⟩, lx, lc, HXw, HCw, Hbw⟩ := insW (by exact bl0) hb1 HX.out HC.out
  have Hb1 := lh hb1
  clear hb1
  clear HX HC
  go_wp2
  exact HR.out _ (bzz Hbw bl0)
 have t1_fn := lh (Decidable.of_not_not n_fn)
 clear n_fn
 have t_fn : (x.fn != 0) = false := by simpa using t1_fn.out
 by_cases n_len : ¬ ¬ 0 < x.args.length
 ·have e : insF u rg x = 5 := by unfold insF; rw [if_neg (by omega), if_pos (.inr (.inr (.inr ⟨by simpa using hc, .inr (Decidable.of_not_not n_len)⟩)))]
  rw [e] at HR
  have t_len : (0 : Int) < (x.args.length : Int) := by omega
  clear e hop hc n_len
  go_enter Tryz.func138, Tryz.ntmps138
  go_wp2_with fail
  refine qd _ _ _ _ _ ?_
  rw [hop']
  go_wp2_with fail
  refine qm _ _ _ (fun w1 hb1 => ?_)
  rw [hD, hA, hB]
  have hs1 := hb1.size
  obtain ⟨⟨x0, x1, x2, x3, x4, x5, x6, x7⟩, ⟨c0, c1, c2, c3, c4, c5, c6⟩, lx, lc, HXw, HCw, Hbw⟩ := insW (by exact bl0) hb1 HX.out HC.out
  have Hb1 := lh hb1
  clear hb1
  clear HX HC
  go_wp2
  exact HR.out _ (bzz Hbw bl0)
 have t_len : ¬ (0 : Int) < (x.args.length : Int) := by omega
 have e0 : insF u rg x = if opDst x.op = true ∧ ¬ (x.op = 20 ∧ x.dst = -1) ∧ dstF rg x.dst ≠ 0 then dstF rg x.dst else fst0 [valF rg x.a, valF rg x.b, callF u rg x] := by
  unfold insF
  rw [if_neg (by omega), if_neg (by
   rintro (⟨h1, h2⟩ | ⟨h1, h2⟩ | ⟨h1, h2⟩ | ⟨h1, h2⟩)
   ·exact h2 t1_dst.out
   ·exact (by rw [hA] at h1; cases h1)
   ·exact (by rw [hB] at h1; cases h1)
   ·exact h2.elim (fun h => h t1_fn.out) (fun h => by omega))]
 rw [e0] at HR
 clear e0
 rw [if_neg (fun h => by rw [hD] at h; cases h.1)] at HR
 clear hop
 go_enter Tryz.func138, Tryz.ntmps138
 go_wp2_with fail
 refine qd _ _ _ _ _ ?_
 rw [hop']
 go_wp2_with fail
 refine qm _ _ _ (fun w1 hb1 => ?_)
 rw [hD, hA, hB]
 have hs1 := hb1.size
 obtain ⟨⟨x0, x1, x2, x3, x4, x5, x6, x7⟩, ⟨c0, c1, c2, c3, c4, c5, c6⟩, lx, lc, HXw, HCw, Hbw⟩ := insW (by exact bl0) hb1 HX.out HC.out
 have Hb1 := lh hb1
 clear hb1
 clear HX HC
 have hb12 : Below w1.heap.size w1 ((w1.alloc (Obj.cells #[.bool false, .bool true, .bool true] 148)).alloc (Obj.cells #[.bool false] 4)) := by exact bl0
 have hL2 : ((w1.alloc (Obj.cells #[.bool false, .bool true, .bool true] 148)).alloc (Obj.cells #[.bool false] 4)).heap[w1.heap.size + 1]? = some (.cells #[.bool false] 4 (0, 0)) := (by have := heap_alloc_new (w1.alloc (Obj.cells #[.bool false, .bool true, .bool true] 148)) (Obj.cells #[.bool false] 4); simpa using this)
 have hC2 := (hb12.block _ lc).trans HCw.out
 have hX2 := (hb12.block _ lx).trans HXw.out
 have hs12 := hb12.size
 have hB2 := Hbw.out.trans (hb12.mono Hbw.out.size)
 obtain ⟨HC3, HX3, HL3⟩ := bl3 (.cells #[.func (.func 155) #[] #[.pointer (some ⟨w.heap.size, 0, none⟩), .pointer (some ⟨w.heap.size + 1, 0, none⟩)], .func (.func 156) #[] #[.pointer (some ⟨w.heap.size, 0, none⟩), .pointer (some ⟨w.heap.size + 1, 0, none⟩)], .func (.func 157) #[] #[.pointer (some ⟨w1.heap.size + 1, 0, none⟩), .pointer (some ⟨w.heap.size + 1, 0, none⟩), .pointer (some ⟨w.heap.size, 0, none⟩)]] 173) hC2 hX2 hL2
 have HN3 := lh (heap_alloc_new ((w1.alloc (Obj.cells #[.bool false, .bool true, .bool true] 148)).alloc (Obj.cells #[.bool false] 4)) (Obj.cells #[.func (.func 155) #[] #[.pointer (some ⟨w.heap.size, 0, none⟩), .pointer (some ⟨w.heap.size + 1, 0, none⟩)], .func (.func 156) #[] #[.pointer (some ⟨w.heap.size, 0, none⟩), .pointer (some ⟨w.heap.size + 1, 0, none⟩)], .func (.func 157) #[] #[.pointer (some ⟨w1.heap.size + 1, 0, none⟩), .pointer (some ⟨w.heap.size + 1, 0, none⟩), .pointer (some ⟨w.heap.size, 0, none⟩)]] 173))
 have HB3 : Hid (Below w.heap.size w (((w1.alloc (Obj.cells #[.bool false, .bool true, .bool true] 148)).alloc (Obj.cells #[.bool false] 4)).alloc (Obj.cells #[.func (.func 155) #[] #[.pointer (some ⟨w.heap.size, 0, none⟩), .pointer (some ⟨w.heap.size + 1, 0, none⟩)], .func (.func 156) #[] #[.pointer (some ⟨w.heap.size, 0, none⟩), .pointer (some ⟨w.heap.size + 1, 0, none⟩)], .func (.func 157) #[] #[.pointer (some ⟨w1.heap.size + 1, 0, none⟩), .pointer (some ⟨w.heap.size + 1, 0, none⟩), .pointer (some ⟨w.heap.size, 0, none⟩)]] 173))) := lh (hB2.trans ((by exact bl0 : Below ((w1.alloc (Obj.cells #[.bool false, .bool true, .bool true] 148)).alloc (Obj.cells #[.bool false] 4)).heap.size ((w1.alloc (Obj.cells #[.bool false, .bool true, .bool true] 148)).alloc (Obj.cells #[.bool false] 4)) _).mono hB2.size))
 clear hC2 hX2 hL2 hb12 hB2
 go_wp2_with fail
 refine q1l _ (w1.heap.size + 1) w.heap.size (w.heap.size + 1) (valF rg x.a) (valF rg x.b) (callF u rg x) _ ?_ ?_ ?_ ?_ ?_ ?_ ?_ _ (fun w4 hb4 => ?_)
 ·first | (simp; done) | exact qc HN3.out
 ·rw [qe (by first | exact HN3.out | (simpa using HN3.out))]; rfl
 ·rw [qe (by first | exact HN3.out | (simpa using HN3.out))]; rfl
 ·rw [qe (by first | exact HN3.out | (simpa using HN3.out))]; rfl
 ·exact fun w5 hb5 R5 hR5 => q2j gA fA bA aA gn gc fn fc bn bc' an ac nm pr rg x (.slice A x.args.length c) hrg h0 w.heap.size (w.heap.size + 1) _ _ w5 ((hb5.block _ (qc HC3.out)).trans HC3.out) ((hb5.block _ (qc HX3.out)).trans HX3.out) R5 hR5
 ·exact fun w5 hb5 R5 hR5 => q1z gA fA bA aA gn gc fn fc bn bc' an ac nm pr rg x (.slice A x.args.length c) hrg h0 w.heap.size (w.heap.size + 1) _ _ w5 ((hb5.block _ (qc HC3.out)).trans HC3.out) ((hb5.block _ (qc HX3.out)).trans HX3.out) R5 hR5
 ·intro w5 hb5 R5 hR5
  have hB5 := HB3.out.trans (hb5.mono HB3.out.size)
  have hL5 := (hb5.block _ (qc HL3.out)).trans HL3.out
  rw [<- hc] at hL5
  exact q2a gA fA bA aA gn gc fn fc bn bc' an ac nm pr rg u x (.slice A x.args.length c) hrg h0 (w1.heap.size + 1) w.heap.size (w.heap.size + 1) _ _ _ w5 hL5 ((hb5.block _ (qc HC3.out)).trans HC3.out) ((hb5.block _ (qc HX3.out)).trans HX3.out) (Hf.out.up hB5 hB5.size) (Ha.out.up hB5 hB5.size) R5 hR5
 have Hfin := lh (HR.out _ (HB3.out.trans (hb4.mono HB3.out.size)))
 clear hb4
 go_wp2
 exact Hfin.out
theorem qh7 (gA fA bA aA : Option Addr) (gn gc fn fc bn bc' an ac : Nat) (nm : ByteArray) (pr rg : Int) (u : Unt) (x : UIns) (A : Option Addr) (c : Nat) (hrg : I64 rg) (h0 : -9223372036854775807 ≤ rg) (w : World)
 (hf : rpFun.SL w w.heap.size u.funcs (.slice fA fn fc)) (ha : rpVal.SL w w.heap.size x.args (.slice A x.args.length c)) (hop : 1 ≤ x.op ∧ x.op ≤ 22)
 (hD : opDst x.op = true) (hA : opA x.op = false) (hB : opB x.op = false) (hc : decide (x.op = 20) = true)
 (R : Ending -> World -> Prop) (hR : ∀ w', Below w.heap.size w w' -> R (.returned (.int .i64 (insF u rg x))) w') :
 Calls Tryz.prog 138 #[(.agg #[.slice gA gn gc, .slice fA fn fc, .string nm, .int .i64 pr, .int .i64 rg, .slice bA bn bc', .slice aA an ac]), .agg #[.int .i64 x.op, .int .i64 x.dst, .bool x.a.reg, .int .i64 x.a.n, .bool x.b.reg, .int .i64 x.b.n, .int .i64 x.fn, .slice A x.args.length c]] w R := by
 have HR := lh hR
 have hop' : decide (1 ≤ x.op ∧ x.op ≤ 22) = true := by simpa using hop
 have hcb : (x.op == 20) = true := by simpa using hc
 obtain ⟨Hf, Ha⟩ := lh2 hf ha
 have hal := ha.max
 unfold maxLen at hal
 clear hR hf ha
 obtain ⟨HC, HX⟩ := al12 w (.cells #[.slice gA gn gc, .slice fA fn fc, .string nm, .int .i64 pr, .int .i64 rg, .slice bA bn bc', .slice aA an ac] 171) (.cells #[.int .i64 x.op, .int .i64 x.dst, .bool x.a.reg, .int .i64 x.a.n, .bool x.b.reg, .int .i64 x.b.n, .int .i64 x.fn, .slice A x.args.length c] 71)
 by_cases n_A : ¬ isZ x.a = true
 ·have e : insF u rg x = 5 := by unfold insF; rw [if_neg (by omega), if_pos (.inr (.inl ⟨hA, by simpa using n_A⟩))]
  rw [e] at HR
  have t_A : ∀ w, (binOp .neq 64 (.agg #[.bool x.a.reg, .int .i64 x.a.n]) (.agg #[.bool false, .int .i64 0])).run Tryz.prog w = .ok (.bool true) w := fun w => by rw [q1s, q3i, show isZ x.a = false from by simpa using n_A]; rfl
  clear e hop hc n_A
  go_enter Tryz.func138, Tryz.ntmps138
  go_wp2_with fail
  refine qd _ _ _ _ _ ?_
  rw [hop']
  go_wp2_with fail
  refine qm _ _ _ (fun w1 hb1 => ?_)
  rw [hD, hA, hB]
  have hs1 := hb1.size
  obtain ⟨⟨x0, x1, x2, x3, x4, x5, x6, x7⟩, ⟨c0, c1, c2, c3, c4, c5, c6⟩, lx, lc, HXw, HCw, Hbw⟩ := insW (by exact bl0) hb1 HX.out HC.out
  have Hb1 := lh hb1
  clear hb1
  clear HX HC
  go_wp2
  exact HR.out _ (bzz Hbw bl0)
 have t1_A := lh (Decidable.of_not_not n_A)
 clear n_A
 have t_A : ∀ w, (binOp .neq 64 (.agg #[.bool x.a.reg, .int .i64 x.a.n]) (.agg #[.bool false, .int .i64 0])).run Tryz.prog w = .ok (.bool false) w := fun w => by rw [q1s, q3i, t1_A.out]; rfl
 by_cases n_B : ¬ isZ x.b = true
 ·have e : insF u rg x = 5 := by unfold insF; rw [if_neg (by omega), if_pos (.inr (.inr (.inl ⟨hB, by simpa using n_B⟩)))]
  rw [e] at HR
  have t_B : ∀ w, (binOp .neq 64 (.agg #[.bool x.b.reg, .int .i64 x.b.n]) (.agg #[.bool false, .int .i64 0])).run Tryz.prog w = .ok (.bool true) w := fun w => by rw [q1s, q3i, show isZ x.b = false from by simpa using n_B]; rfl
  clear e hop hc n_B
  go_enter Tryz.func138, Tryz.ntmps138
  go_wp2_with fail
  refine qd _ _ _ _ _ ?_
  rw [hop']
  go_wp2_with fail
  refine qm _ _ _ (fun w1 hb1 => ?_)
  rw [hD, hA, hB]
  have hs1 := hb1.size
  obtain ⟨⟨x0, x1, x2, x3, x4, x5, x6, x7⟩, ⟨c0, c1, c2, c3, c4, c5, c6⟩, lx, lc, HXw, HCw, Hbw⟩ := insW (by exact bl0) hb1 HX.out HC.out
  have Hb1 := lh hb1
  clear hb1
  clear HX HC
  go_wp2
  exact HR.out _ (bzz Hbw bl0)
 have t1_B := lh (Decidable.of_not_not n_B)
 clear n_B
 have t_B : ∀ w, (binOp .neq 64 (.agg #[.bool x.b.reg, .int .i64 x.b.n]) (.agg #[.bool false, .int .i64 0])).run Tryz.prog w = .ok (.bool false) w := fun w => by rw [q1s, q3i, t1_B.out]; rfl
 have e0 : insF u rg x = if opDst x.op = true ∧ ¬ (x.op = 20 ∧ x.dst = -1) ∧ dstF rg x.dst ≠ 0 then dstF rg x.dst else fst0 [valF rg x.a, valF rg x.b, callF u rg x] := by
  unfold insF
  rw [if_neg (by omega), if_neg (by
   rintro (⟨h1, h2⟩ | ⟨h1, h2⟩ | ⟨h1, h2⟩ | ⟨h1, h2⟩)
   ·exact (by rw [hD] at h1; cases h1)
   ·exact (by rw [t1_A.out] at h2; cases h2)
   ·exact (by rw [t1_B.out] at h2; cases h2)
   ·exact h1 (by simpa using hc))]
 rw [e0] at HR
 clear e0
 by_cases hm1 : x.dst = -1
 ·rw [if_neg (fun h => h.2.1 ⟨by simpa using hc, hm1⟩)] at HR
  have hmb : (x.dst == -1) = true := by simpa using hm1
  clear hop hm1
  go_enter Tryz.func138, Tryz.ntmps138
  go_wp2_with fail
  refine qd _ _ _ _ _ ?_
  rw [hop']
  go_wp2_with fail
  refine qm _ _ _ (fun w1 hb1 => ?_)
  rw [hD, hA, hB]
  have hs1 := hb1.size
  obtain ⟨⟨x0, x1, x2, x3, x4, x5, x6, x7⟩, ⟨c0, c1, c2, c3, c4, c5, c6⟩, lx, lc, HXw, HCw, Hbw⟩ := insW (by exact bl0) hb1 HX.out HC.out
  have Hb1 := lh hb1
  clear hb1
  clear HX HC
  have hb12 : Below w1.heap.size w1 ((w1.alloc (Obj.cells #[.bool true, .bool false, .bool false] 148)).alloc (Obj.cells #[.bool true] 4)) := by exact bl0
  have hL2 : ((w1.alloc (Obj.cells #[.bool true, .bool false, .bool false] 148)).alloc (Obj.cells #[.bool true] 4)).heap[w1.heap.size + 1]? = some (.cells #[.bool true] 4 (0, 0)) := (by have := heap_alloc_new (w1.alloc (Obj.cells #[.bool true, .bool false, .bool false] 148)) (Obj.cells #[.bool true] 4); simpa using this)
  have hC2 := (hb12.block _ lc).trans HCw.out
  have hX2 := (hb12.block _ lx).trans HXw.out
  have hs12 := hb12.size
  have hB2 := Hbw.out.trans (hb12.mono Hbw.out.size)
  obtain ⟨HC3, HX3, HL3⟩ := bl3 (.cells #[.func (.func 155) #[] #[.pointer (some ⟨w.heap.size, 0, none⟩), .pointer (some ⟨w.heap.size + 1, 0, none⟩)], .func (.func 156) #[] #[.pointer (some ⟨w.heap.size, 0, none⟩), .pointer (some ⟨w.heap.size + 1, 0, none⟩)], .func (.func 157) #[] #[.pointer (some ⟨w1.heap.size + 1, 0, none⟩), .pointer (some ⟨w.heap.size + 1, 0, none⟩), .pointer (some ⟨w.heap.size, 0, none⟩)]] 173) hC2 hX2 hL2
  have HN3 := lh (heap_alloc_new ((w1.alloc (Obj.cells #[.bool true, .bool false, .bool false] 148)).alloc (Obj.cells #[.bool true] 4)) (Obj.cells #[.func (.func 155) #[] #[.pointer (some ⟨w.heap.size, 0, none⟩), .pointer (some ⟨w.heap.size + 1, 0, none⟩)], .func (.func 156) #[] #[.pointer (some ⟨w.heap.size, 0, none⟩), .pointer (some ⟨w.heap.size + 1, 0, none⟩)], .func (.func 157) #[] #[.pointer (some ⟨w1.heap.size + 1, 0, none⟩), .pointer (some ⟨w.heap.size + 1, 0, none⟩), .pointer (some ⟨w.heap.size, 0, none⟩)]] 173))
  have HB3 : Hid (Below w.heap.size w (((w1.alloc (Obj.cells #[.bool true, .bool false, .bool false] 148)).alloc (Obj.cells #[.bool true] 4)).alloc (Obj.cells #[.func (.func 155) #[] #[.pointer (some ⟨w.heap.size, 0, none⟩), .pointer (some ⟨w.heap.size + 1, 0, none⟩)], .func (.func 156) #[] #[.pointer (some ⟨w.heap.size, 0, none⟩), .pointer (some ⟨w.heap.size + 1, 0, none⟩)], .func (.func 157) #[] #[.pointer (some ⟨w1.heap.size + 1, 0, none⟩), .pointer (some ⟨w.heap.size + 1, 0, none⟩), .pointer (some ⟨w.heap.size, 0, none⟩)]] 173))) := lh (hB2.trans ((by exact bl0 : Below ((w1.alloc (Obj.cells #[.bool true, .bool false, .bool false] 148)).alloc (Obj.cells #[.bool true] 4)).heap.size ((w1.alloc (Obj.cells #[.bool true, .bool false, .bool false] 148)).alloc (Obj.cells #[.bool true] 4)) _).mono hB2.size))
  clear hC2 hX2 hL2 hb12 hB2
  go_wp2_with fail
  refine q1l _ (w1.heap.size + 1) w.heap.size (w.heap.size + 1) (valF rg x.a) (valF rg x.b) (callF u rg x) _ ?_ ?_ ?_ ?_ ?_ ?_ ?_ _ (fun w4 hb4 => ?_)
  ·first | (simp; done) | exact qc HN3.out
  ·rw [qe (by first | exact HN3.out | (simpa using HN3.out))]; rfl
  ·rw [qe (by first | exact HN3.out | (simpa using HN3.out))]; rfl
  ·rw [qe (by first | exact HN3.out | (simpa using HN3.out))]; rfl
  ·exact fun w5 hb5 R5 hR5 => q2j gA fA bA aA gn gc fn fc bn bc' an ac nm pr rg x (.slice A x.args.length c) hrg h0 w.heap.size (w.heap.size + 1) _ _ w5 ((hb5.block _ (qc HC3.out)).trans HC3.out) ((hb5.block _ (qc HX3.out)).trans HX3.out) R5 hR5
  ·exact fun w5 hb5 R5 hR5 => q1z gA fA bA aA gn gc fn fc bn bc' an ac nm pr rg x (.slice A x.args.length c) hrg h0 w.heap.size (w.heap.size + 1) _ _ w5 ((hb5.block _ (qc HC3.out)).trans HC3.out) ((hb5.block _ (qc HX3.out)).trans HX3.out) R5 hR5
  ·intro w5 hb5 R5 hR5
   have hB5 := HB3.out.trans (hb5.mono HB3.out.size)
   have hL5 := (hb5.block _ (qc HL3.out)).trans HL3.out
   rw [<- hc] at hL5
   exact q2a gA fA bA aA gn gc fn fc bn bc' an ac nm pr rg u x (.slice A x.args.length c) hrg h0 (w1.heap.size + 1) w.heap.size (w.heap.size + 1) _ _ _ w5 hL5 ((hb5.block _ (qc HC3.out)).trans HC3.out) ((hb5.block _ (qc HX3.out)).trans HX3.out) (Hf.out.up hB5 hB5.size) (Ha.out.up hB5 hB5.size) R5 hR5
  have Hfin := lh (HR.out _ (HB3.out.trans (hb4.mono HB3.out.size)))
  clear hb4
  go_wp2
  exact Hfin.out
 ·have hmb : (x.dst == -1) = false := by simpa using hm1
  by_cases hdz : dstF rg x.dst = 0
  ·rw [if_neg (fun h => h.2.2 hdz)] at HR
   have hdb : (dstF rg x.dst != 0) = false := by simpa using hdz
   clear hop
   go_enter Tryz.func138, Tryz.ntmps138
   go_wp2_with fail
   refine qd _ _ _ _ _ ?_
   rw [hop']
   go_wp2_with fail
   refine qm _ _ _ (fun w1 hb1 => ?_)
   rw [hD, hA, hB]
   have hs1 := hb1.size
   obtain ⟨⟨x0, x1, x2, x3, x4, x5, x6, x7⟩, ⟨c0, c1, c2, c3, c4, c5, c6⟩, lx, lc, HXw, HCw, Hbw⟩ := insW (by exact bl0) hb1 HX.out HC.out
   have Hb1 := lh hb1
   clear hb1
   clear HX HC
   go_wp2_with fail
   refine q0y gA fA bA aA gn gc fn fc bn bc' an ac nm pr rg x.dst hrg _ h0 _ (fun w2 hb2 => ?_)
   rw [hdz]
   have hb12 : Below w1.heap.size w1 w2 := (by exact bl0 : Below w1.heap.size w1 _).trans (hb2.mono (by simp; omega))
   have hL2 : w2.heap[w1.heap.size + 1]? = some (.cells #[.bool true] 4 (0, 0)) := (hb2.block _ (by simp)).trans (by have := heap_alloc_new (w1.alloc (Obj.cells #[.bool true, .bool false, .bool false] 148)) (Obj.cells #[.bool true] 4); simpa using this)
   clear hb2
   have hC2 := (hb12.block _ lc).trans HCw.out
   have hX2 := (hb12.block _ lx).trans HXw.out
   have hs12 := hb12.size
   have hB2 := Hbw.out.trans (hb12.mono Hbw.out.size)
   obtain ⟨HC3, HX3, HL3⟩ := bl3 (.cells #[.func (.func 155) #[] #[.pointer (some ⟨w.heap.size, 0, none⟩), .pointer (some ⟨w.heap.size + 1, 0, none⟩)], .func (.func 156) #[] #[.pointer (some ⟨w.heap.size, 0, none⟩), .pointer (some ⟨w.heap.size + 1, 0, none⟩)], .func (.func 157) #[] #[.pointer (some ⟨w1.heap.size + 1, 0, none⟩), .pointer (some ⟨w.heap.size + 1, 0, none⟩), .pointer (some ⟨w.heap.size, 0, none⟩)]] 173) hC2 hX2 hL2
   have HN3 := lh (heap_alloc_new w2 (Obj.cells #[.func (.func 155) #[] #[.pointer (some ⟨w.heap.size, 0, none⟩), .pointer (some ⟨w.heap.size + 1, 0, none⟩)], .func (.func 156) #[] #[.pointer (some ⟨w.heap.size, 0, none⟩), .pointer (some ⟨w.heap.size + 1, 0, none⟩)], .func (.func 157) #[] #[.pointer (some ⟨w1.heap.size + 1, 0, none⟩), .pointer (some ⟨w.heap.size + 1, 0, none⟩), .pointer (some ⟨w.heap.size, 0, none⟩)]] 173))
   have HB3 : Hid (Below w.heap.size w (w2.alloc (Obj.cells #[.func (.func 155) #[] #[.pointer (some ⟨w.heap.size, 0, none⟩), .pointer (some ⟨w.heap.size + 1, 0, none⟩)], .func (.func 156) #[] #[.pointer (some ⟨w.heap.size, 0, none⟩), .pointer (some ⟨w.heap.size + 1, 0, none⟩)], .func (.func 157) #[] #[.pointer (some ⟨w1.heap.size + 1, 0, none⟩), .pointer (some ⟨w.heap.size + 1, 0, none⟩), .pointer (some ⟨w.heap.size, 0, none⟩)]] 173))) := lh (hB2.trans ((by exact bl0 : Below w2.heap.size w2 _).mono hB2.size))
   clear hC2 hX2 hL2 hb12 hB2
   go_wp2_with fail
   refine q1l _ (w1.heap.size + 1) w.heap.size (w.heap.size + 1) (valF rg x.a) (valF rg x.b) (callF u rg x) _ ?_ ?_ ?_ ?_ ?_ ?_ ?_ _ (fun w4 hb4 => ?_)
   ·first | (simp; done) | exact qc HN3.out
   ·rw [qe (by first | exact HN3.out | (simpa using HN3.out))]; rfl
   ·rw [qe (by first | exact HN3.out | (simpa using HN3.out))]; rfl
   ·rw [qe (by first | exact HN3.out | (simpa using HN3.out))]; rfl
   ·exact fun w5 hb5 R5 hR5 => q2j gA fA bA aA gn gc fn fc bn bc' an ac nm pr rg x (.slice A x.args.length c) hrg h0 w.heap.size (w.heap.size + 1) _ _ w5 ((hb5.block _ (qc HC3.out)).trans HC3.out) ((hb5.block _ (qc HX3.out)).trans HX3.out) R5 hR5
   ·exact fun w5 hb5 R5 hR5 => q1z gA fA bA aA gn gc fn fc bn bc' an ac nm pr rg x (.slice A x.args.length c) hrg h0 w.heap.size (w.heap.size + 1) _ _ w5 ((hb5.block _ (qc HC3.out)).trans HC3.out) ((hb5.block _ (qc HX3.out)).trans HX3.out) R5 hR5
   ·intro w5 hb5 R5 hR5
    have hB5 := HB3.out.trans (hb5.mono HB3.out.size)
    have hL5 := (hb5.block _ (qc HL3.out)).trans HL3.out
    rw [<- hc] at hL5
    exact q2a gA fA bA aA gn gc fn fc bn bc' an ac nm pr rg u x (.slice A x.args.length c) hrg h0 (w1.heap.size + 1) w.heap.size (w.heap.size + 1) _ _ _ w5 hL5 ((hb5.block _ (qc HC3.out)).trans HC3.out) ((hb5.block _ (qc HX3.out)).trans HX3.out) (Hf.out.up hB5 hB5.size) (Ha.out.up hB5 hB5.size) R5 hR5
   have Hfin := lh (HR.out _ (HB3.out.trans (hb4.mono HB3.out.size)))
   clear hb4
   go_wp2
   exact Hfin.out
  ·rw [if_pos ⟨hD, fun h => absurd h.2 hm1, hdz⟩] at HR
   have hdb : (dstF rg x.dst != 0) = true := by simpa using hdz
   clear hop hc
   go_enter Tryz.func138, Tryz.ntmps138
   go_wp2_with fail
   refine qd _ _ _ _ _ ?_
   rw [hop']
   go_wp2_with fail
   refine qm _ _ _ (fun w1 hb1 => ?_)
   rw [hD, hA, hB]
   have hs1 := hb1.size
   obtain ⟨⟨x0, x1, x2, x3, x4, x5, x6, x7⟩, ⟨c0, c1, c2, c3, c4, c5, c6⟩, lx, lc, HXw, HCw, Hbw⟩ := insW (by exact bl0) hb1 HX.out HC.out
   have Hb1 := lh hb1
   clear hb1
   clear HX HC
   go_wp2_with fail
   refine q0y gA fA bA aA gn gc fn fc bn bc' an ac nm pr rg x.dst hrg _ h0 _ (fun w2 hb2 => ?_)
   have Hb2 := lh (Hbw.out.trans (((by exact bl0 : Below w1.heap.size w1 _).trans (hb2.mono (by simp; omega))).mono Hbw.out.size))
   clear hb2
   go_wp2
   exact HR.out _ Hb2.out
theorem qhk (gA fA bA aA : Option Addr) (gn gc fn fc bn bc' an ac : Nat) (nm : ByteArray) (pr rg : Int) (u : Unt) (x : UIns) (A : Option Addr) (c : Nat) (hrg : I64 rg) (h0 : -9223372036854775807 ≤ rg) (w : World)
 (hf : rpFun.SL w w.heap.size u.funcs (.slice fA fn fc)) (ha : rpVal.SL w w.heap.size x.args (.slice A x.args.length c)) (hop : 1 ≤ x.op ∧ x.op ≤ 22)
 (hD : opDst x.op = true) (hA : opA x.op = false) (hB : opB x.op = false) (hc : decide (x.op = 20) = false)
 (R : Ending -> World -> Prop) (hR : ∀ w', Below w.heap.size w w' -> R (.returned (.int .i64 (insF u rg x))) w') :
 Calls Tryz.prog 138 #[(.agg #[.slice gA gn gc, .slice fA fn fc, .string nm, .int .i64 pr, .int .i64 rg, .slice bA bn bc', .slice aA an ac]), .agg #[.int .i64 x.op, .int .i64 x.dst, .bool x.a.reg, .int .i64 x.a.n, .bool x.b.reg, .int .i64 x.b.n, .int .i64 x.fn, .slice A x.args.length c]] w R := by
 have HR := lh hR
 have hop' : decide (1 ≤ x.op ∧ x.op ≤ 22) = true := by simpa using hop
 have hcb : (x.op == 20) = false := by simpa using hc
 obtain ⟨Hf, Ha⟩ := lh2 hf ha
 have hal := ha.max
 unfold maxLen at hal
 clear hR hf ha
 obtain ⟨HC, HX⟩ := al12 w (.cells #[.slice gA gn gc, .slice fA fn fc, .string nm, .int .i64 pr, .int .i64 rg, .slice bA bn bc', .slice aA an ac] 171) (.cells #[.int .i64 x.op, .int .i64 x.dst, .bool x.a.reg, .int .i64 x.a.n, .bool x.b.reg, .int .i64 x.b.n, .int .i64 x.fn, .slice A x.args.length c] 71)
 by_cases n_A : ¬ isZ x.a = true
 ·have e : insF u rg x = 5 := by unfold insF; rw [if_neg (by omega), if_pos (.inr (.inl ⟨hA, by simpa using n_A⟩))]
  rw [e] at HR
  have t_A : ∀ w, (binOp .neq 64 (.agg #[.bool x.a.reg, .int .i64 x.a.n]) (.agg #[.bool false, .int .i64 0])).run Tryz.prog w = .ok (.bool true) w := fun w => by rw [q1s, q3i, show isZ x.a = false from by simpa using n_A]; rfl
  clear e hop hc n_A
  go_enter Tryz.func138, Tryz.ntmps138
  go_wp2_with fail
  refine qd _ _ _ _ _ ?_
  rw [hop']
  go_wp2_with fail
  refine qm _ _ _ (fun w1 hb1 => ?_)
  rw [hD, hA, hB]
  have hs1 := hb1.size
  obtain ⟨⟨x0, x1, x2, x3, x4, x5, x6, x7⟩, ⟨c0, c1, c2, c3, c4, c5, c6⟩, lx, lc, HXw, HCw, Hbw⟩ := insW (by exact bl0) hb1 HX.out HC.out
  have Hb1 := lh hb1
  clear hb1
  clear HX HC
  go_wp2
  exact HR.out _ (bzz Hbw bl0)
 have t1_A := lh (Decidable.of_not_not n_A)
 clear n_A
 have t_A : ∀ w, (binOp .neq 64 (.agg #[.bool x.a.reg, .int .i64 x.a.n]) (.agg #[.bool false, .int .i64 0])).run Tryz.prog w = .ok (.bool false) w := fun w => by rw [q1s, q3i, t1_A.out]; rfl
 by_cases n_B : ¬ isZ x.b = true
 ·have e : insF u rg x = 5 := by unfold insF; rw [if_neg (by omega), if_pos (.inr (.inr (.inl ⟨hB, by simpa using n_B⟩)))]
  rw [e] at HR
  have t_B : ∀ w, (binOp .neq 64 (.agg #[.bool x.b.reg, .int .i64 x.b.n]) (.agg #[.bool false, .int .i64 0])).run Tryz.prog w = .ok (.bool true) w := fun w => by rw [q1s, q3i, show isZ x.b = false from by simpa using n_B]; rfl
  clear e hop hc n_B
  go_enter Tryz.func138, Tryz.ntmps138
  go_wp2_with fail
  refine qd _ _ _ _ _ ?_
  rw [hop']
  go_wp2_with fail
  refine qm _ _ _ (fun w1 hb1 => ?_)
  rw [hD, hA, hB]
  have hs1 := hb1.size
  obtain ⟨⟨x0, x1, x2, x3, x4, x5, x6, x7⟩, ⟨c0, c1, c2, c3, c4, c5, c6⟩, lx, lc, HXw, HCw, Hbw⟩ := insW (by exact bl0) hb1 HX.out HC.out
  have Hb1 := lh hb1
  clear hb1
  clear HX HC
  go_wp2
  exact HR.out _ (bzz Hbw bl0)
 have t1_B := lh (Decidable.of_not_not n_B)
 clear n_B
 have t_B : ∀ w, (binOp .neq 64 (.agg #[.bool x.b.reg, .int .i64 x.b.n]) (.agg #[.bool false, .int .i64 0])).run Tryz.prog w = .ok (.bool false) w := fun w => by rw [q1s, q3i, t1_B.out]; rfl
 by_cases n_fn : ¬ x.fn = 0
 ·have e : insF u rg x = 5 := by unfold insF; rw [if_neg (by omega), if_pos (.inr (.inr (.inr ⟨by simpa using hc, .inl n_fn⟩)))]
  rw [e] at HR
  have t_fn : (x.fn != 0) = true := by simpa using n_fn
  clear e hop hc n_fn
  go_enter Tryz.func138, Tryz.ntmps138
  go_wp2_with fail
  refine qd _ _ _ _ _ ?_
  rw [hop']
  go_wp2_with fail
  refine qm _ _ _ (fun w1 hb1 => ?_)
  rw [hD, hA, hB]
  have hs1 := hb1.size
  obtain ⟨⟨x0, x1, x2, x3, x4, x5, x6, x7⟩, ⟨c0, c1, c2, c3, c4, c5, c6⟩, lx, lc, HXw, HCw, Hbw⟩ := insW (by exact bl0) hb1 HX.out HC.out
  have Hb1 := lh hb1
  clear hb1
  clear HX HC
  go_wp2
  exact HR.out _ (bzz Hbw bl0)
 have t1_fn := lh (Decidable.of_not_not n_fn)
 clear n_fn
 have t_fn : (x.fn != 0) = false := by simpa using t1_fn.out
 by_cases n_len : ¬ ¬ 0 < x.args.length
 ·have e : insF u rg x = 5 := by unfold insF; rw [if_neg (by omega), if_pos (.inr (.inr (.inr ⟨by simpa using hc, .inr (Decidable.of_not_not n_len)⟩)))]
  rw [e] at HR
  have t_len : (0 : Int) < (x.args.length : Int) := by omega
  clear e hop hc n_len
  go_enter Tryz.func138, Tryz.ntmps138
  go_wp2_with fail
  refine qd _ _ _ _ _ ?_
  rw [hop']
  go_wp2_with fail
  refine qm _ _ _ (fun w1 hb1 => ?_)
  rw [hD, hA, hB]
  have hs1 := hb1.size
  obtain ⟨⟨x0, x1, x2, x3, x4, x5, x6, x7⟩, ⟨c0, c1, c2, c3, c4, c5, c6⟩, lx, lc, HXw, HCw, Hbw⟩ := insW (by exact bl0) hb1 HX.out HC.out
  have Hb1 := lh hb1
  clear hb1
  clear HX HC
  go_wp2
  exact HR.out _ (bzz Hbw bl0)
 have t_len : ¬ (0 : Int) < (x.args.length : Int) := by omega
 have e0 : insF u rg x = if opDst x.op = true ∧ ¬ (x.op = 20 ∧ x.dst = -1) ∧ dstF rg x.dst ≠ 0 then dstF rg x.dst else fst0 [valF rg x.a, valF rg x.b, callF u rg x] := by
  unfold insF
  rw [if_neg (by omega), if_neg (by
   rintro (⟨h1, h2⟩ | ⟨h1, h2⟩ | ⟨h1, h2⟩ | ⟨h1, h2⟩)
   ·exact (by rw [hD] at h1; cases h1)
   ·exact (by rw [t1_A.out] at h2; cases h2)
   ·exact (by rw [t1_B.out] at h2; cases h2)
   ·exact h2.elim (fun h => h t1_fn.out) (fun h => by omega))]
 rw [e0] at HR
 clear e0
 by_cases hdz : dstF rg x.dst = 0
 ·rw [if_neg (fun h => h.2.2 hdz)] at HR
  have hdb : (dstF rg x.dst != 0) = false := by simpa using hdz
  clear hop
  go_enter Tryz.func138, Tryz.ntmps138
  go_wp2_with fail
  refine qd _ _ _ _ _ ?_
  rw [hop']
  go_wp2_with fail
  refine qm _ _ _ (fun w1 hb1 => ?_)
  rw [hD, hA, hB]
  have hs1 := hb1.size
  obtain ⟨⟨x0, x1, x2, x3, x4, x5, x6, x7⟩, ⟨c0, c1, c2, c3, c4, c5, c6⟩, lx, lc, HXw, HCw, Hbw⟩ := insW (by exact bl0) hb1 HX.out HC.out
  have Hb1 := lh hb1
  clear hb1
  clear HX HC
  go_wp2_with fail
  refine q0y gA fA bA aA gn gc fn fc bn bc' an ac nm pr rg x.dst hrg _ h0 _ (fun w2 hb2 => ?_)
  rw [hdz]
  have hb12 : Below w1.heap.size w1 w2 := (by exact bl0 : Below w1.heap.size w1 _).trans (hb2.mono (by simp; omega))
  have hL2 : w2.heap[w1.heap.size + 1]? = some (.cells #[.bool false] 4 (0, 0)) := (hb2.block _ (by simp)).trans (by have := heap_alloc_new (w1.alloc (Obj.cells #[.bool true, .bool false, .bool false] 148)) (Obj.cells #[.bool false] 4); simpa using this)
  clear hb2
  have hC2 := (hb12.block _ lc).trans HCw.out
  have hX2 := (hb12.block _ lx).trans HXw.out
  have hs12 := hb12.size
  have hB2 := Hbw.out.trans (hb12.mono Hbw.out.size)
  obtain ⟨HC3, HX3, HL3⟩ := bl3 (.cells #[.func (.func 155) #[] #[.pointer (some ⟨w.heap.size, 0, none⟩), .pointer (some ⟨w.heap.size + 1, 0, none⟩)], .func (.func 156) #[] #[.pointer (some ⟨w.heap.size, 0, none⟩), .pointer (some ⟨w.heap.size + 1, 0, none⟩)], .func (.func 157) #[] #[.pointer (some ⟨w1.heap.size + 1, 0, none⟩), .pointer (some ⟨w.heap.size + 1, 0, none⟩), .pointer (some ⟨w.heap.size, 0, none⟩)]] 173) hC2 hX2 hL2
  have HN3 := lh (heap_alloc_new w2 (Obj.cells #[.func (.func 155) #[] #[.pointer (some ⟨w.heap.size, 0, none⟩), .pointer (some ⟨w.heap.size + 1, 0, none⟩)], .func (.func 156) #[] #[.pointer (some ⟨w.heap.size, 0, none⟩), .pointer (some ⟨w.heap.size + 1, 0, none⟩)], .func (.func 157) #[] #[.pointer (some ⟨w1.heap.size + 1, 0, none⟩), .pointer (some ⟨w.heap.size + 1, 0, none⟩), .pointer (some ⟨w.heap.size, 0, none⟩)]] 173))
  have HB3 : Hid (Below w.heap.size w (w2.alloc (Obj.cells #[.func (.func 155) #[] #[.pointer (some ⟨w.heap.size, 0, none⟩), .pointer (some ⟨w.heap.size + 1, 0, none⟩)], .func (.func 156) #[] #[.pointer (some ⟨w.heap.size, 0, none⟩), .pointer (some ⟨w.heap.size + 1, 0, none⟩)], .func (.func 157) #[] #[.pointer (some ⟨w1.heap.size + 1, 0, none⟩), .pointer (some ⟨w.heap.size + 1, 0, none⟩), .pointer (some ⟨w.heap.size, 0, none⟩)]] 173))) := lh (hB2.trans ((by exact bl0 : Below w2.heap.size w2 _).mono hB2.size))
  clear hC2 hX2 hL2 hb12 hB2
  go_wp2_with fail
  refine q1l _ (w1.heap.size + 1) w.heap.size (w.heap.size + 1) (valF rg x.a) (valF rg x.b) (callF u rg x) _ ?_ ?_ ?_ ?_ ?_ ?_ ?_ _ (fun w4 hb4 => ?_)
  ·first | (simp; done) | exact qc HN3.out
  ·rw [qe (by first | exact HN3.out | (simpa using HN3.out))]; rfl
  ·rw [qe (by first | exact HN3.out | (simpa using HN3.out))]; rfl
  ·rw [qe (by first | exact HN3.out | (simpa using HN3.out))]; rfl
  ·exact fun w5 hb5 R5 hR5 => q2j gA fA bA aA gn gc fn fc bn bc' an ac nm pr rg x (.slice A x.args.length c) hrg h0 w.heap.size (w.heap.size + 1) _ _ w5 ((hb5.block _ (qc HC3.out)).trans HC3.out) ((hb5.block _ (qc HX3.out)).trans HX3.out) R5 hR5
  ·exact fun w5 hb5 R5 hR5 => q1z gA fA bA aA gn gc fn fc bn bc' an ac nm pr rg x (.slice A x.args.length c) hrg h0 w.heap.size (w.heap.size + 1) _ _ w5 ((hb5.block _ (qc HC3.out)).trans HC3.out) ((hb5.block _ (qc HX3.out)).trans HX3.out) R5 hR5
  ·intro w5 hb5 R5 hR5
   have hB5 := HB3.out.trans (hb5.mono HB3.out.size)
   have hL5 := (hb5.block _ (qc HL3.out)).trans HL3.out
   rw [<- hc] at hL5
   exact q2a gA fA bA aA gn gc fn fc bn bc' an ac nm pr rg u x (.slice A x.args.length c) hrg h0 (w1.heap.size + 1) w.heap.size (w.heap.size + 1) _ _ _ w5 hL5 ((hb5.block _ (qc HC3.out)).trans HC3.out) ((hb5.block _ (qc HX3.out)).trans HX3.out) (Hf.out.up hB5 hB5.size) (Ha.out.up hB5 hB5.size) R5 hR5
  have Hfin := lh (HR.out _ (HB3.out.trans (hb4.mono HB3.out.size)))
  clear hb4
  go_wp2
  exact Hfin.out
 ·rw [if_pos ⟨hD, fun h => by simp [h.1] at hc, hdz⟩] at HR
  have hdb : (dstF rg x.dst != 0) = true := by simpa using hdz
  clear hop hc
  go_enter Tryz.func138, Tryz.ntmps138
  go_wp2_with fail
  refine qd _ _ _ _ _ ?_
  rw [hop']
  go_wp2_with fail
  refine qm _ _ _ (fun w1 hb1 => ?_)
  rw [hD, hA, hB]
  have hs1 := hb1.size
  obtain ⟨⟨x0, x1, x2, x3, x4, x5, x6, x7⟩, ⟨c0, c1, c2, c3, c4, c5, c6⟩, lx, lc, HXw, HCw, Hbw⟩ := insW (by exact bl0) hb1 HX.out HC.out
  have Hb1 := lh hb1
  clear hb1
  clear HX HC
  go_wp2_with fail
  refine q0y gA fA bA aA gn gc fn fc bn bc' an ac nm pr rg x.dst hrg _ h0 _ (fun w2 hb2 => ?_)
  have Hb2 := lh (Hbw.out.trans (((by exact bl0 : Below w1.heap.size w1 _).trans (hb2.mono (by simp; omega))).mono Hbw.out.size))
  clear hb2
  go_wp2
  exact HR.out _ Hb2.out
theorem qei (gA fA bA aA : Option Addr) (gn gc fn fc bn bc' an ac : Nat) (nm : ByteArray) (pr rg : Int) (u : Unt) (x : UIns) (A : Option Addr) (c : Nat) (hrg : I64 rg) (h0 : -9223372036854775807 ≤ rg) (w : World)
 (hf : rpFun.SL w w.heap.size u.funcs (.slice fA fn fc)) (ha : rpVal.SL w w.heap.size x.args (.slice A x.args.length c)) (hop : 1 ≤ x.op ∧ x.op ≤ 22)
 (hD : opDst x.op = false) (hA : opA x.op = true) (hB : opB x.op = false) (hc : decide (x.op = 20) = false)
 (R : Ending -> World -> Prop) (hR : ∀ w', Below w.heap.size w w' -> R (.returned (.int .i64 (insF u rg x))) w') :
 Calls Tryz.prog 138 #[(.agg #[.slice gA gn gc, .slice fA fn fc, .string nm, .int .i64 pr, .int .i64 rg, .slice bA bn bc', .slice aA an ac]), .agg #[.int .i64 x.op, .int .i64 x.dst, .bool x.a.reg, .int .i64 x.a.n, .bool x.b.reg, .int .i64 x.b.n, .int .i64 x.fn, .slice A x.args.length c]] w R := by
 have HR := lh hR
 have hop' : decide (1 ≤ x.op ∧ x.op ≤ 22) = true := by simpa using hop
 have hcb : (x.op == 20) = false := by simpa using hc
 obtain ⟨Hf, Ha⟩ := lh2 hf ha
 have hal := ha.max
 unfold maxLen at hal
 clear hR hf ha
 obtain ⟨HC, HX⟩ := al12 w (.cells #[.slice gA gn gc, .slice fA fn fc, .string nm, .int .i64 pr, .int .i64 rg, .slice bA bn bc', .slice aA an ac] 171) (.cells #[.int .i64 x.op, .int .i64 x.dst, .bool x.a.reg, .int .i64 x.a.n, .bool x.b.reg, .int .i64 x.b.n, .int .i64 x.fn, .slice A x.args.length c] 71)
 by_cases n_dst : ¬ x.dst = -1
 ·have e : insF u rg x = 5 := by unfold insF; rw [if_neg (by omega), if_pos (.inl ⟨hD, n_dst⟩)]
  rw [e] at HR
  have t_dst : (x.dst != -1) = true := by simpa using n_dst
  clear e hop hc n_dst
  go_enter Tryz.func138, Tryz.ntmps138
  go_wp2_with fail
  refine qd _ _ _ _ _ ?_
  rw [hop']
  go_wp2_with fail
  refine qm _ _ _ (fun w1 hb1 => ?_)
  rw [hD, hA, hB]
  have hs1 := hb1.size
  obtain ⟨⟨x0, x1, x2, x3, x4, x5, x6, x7⟩, ⟨c0, c1, c2, c3, c4, c5, c6⟩, lx, lc, HXw, HCw, Hbw⟩ := insW (by exact bl0) hb1 HX.out HC.out
  have Hb1 := lh hb1
  clear hb1
  clear HX HC
  go_wp2
  exact HR.out _ (bzz Hbw bl0)
 have t1_dst := lh (Decidable.of_not_not n_dst)
 clear n_dst
 have t_dst : (x.dst != -1) = false := by simpa using t1_dst.out
 by_cases n_B : ¬ isZ x.b = true
 ·have e : insF u rg x = 5 := by unfold insF; rw [if_neg (by omega), if_pos (.inr (.inr (.inl ⟨hB, by simpa using n_B⟩)))]
  rw [e] at HR
  have t_B : ∀ w, (binOp .neq 64 (.agg #[.bool x.b.reg, .int .i64 x.b.n]) (.agg #[.bool false, .int .i64 0])).run Tryz.prog w = .ok (.bool true) w := fun w => by rw [q1s, q3i, show isZ x.b = false from by simpa using n_B]; rfl
  clear e hop hc n_B
  go_enter Tryz.func138, Tryz.ntmps138
  go_wp2_with fail
  refine qd _ _ _ _ _ ?_
  rw [hop']
  go_wp2_with fail
  refine qm _ _ _ (fun w1 hb1 => ?_)
  rw [hD, hA, hB]
  have hs1 := hb1.size
  obtain ⟨⟨x0, x1, x2, x3, x4, x5, x6, x7⟩, ⟨c0, c1, c2, c3, c4, c5, c6⟩, lx, lc, HXw, HCw, Hbw⟩ := insW (by exact bl0) hb1 HX.out HC.out
  have Hb1 := lh hb1
  clear hb1
  clear HX HC
  go_wp2
  exact HR.out _ (bzz Hbw bl0)
 have t1_B := lh (Decidable.of_not_not n_B)
 clear n_B
 have t_B : ∀ w, (binOp .neq 64 (.agg #[.bool x.b.reg, .int .i64 x.b.n]) (.agg #[.bool false, .int .i64 0])).run Tryz.prog w = .ok (.bool false) w := fun w => by rw [q1s, q3i, t1_B.out]; rfl
 by_cases n_fn : ¬ x.fn = 0
 ·have e : insF u rg x = 5 := by unfold insF; rw [if_neg (by omega), if_pos (.inr (.inr (.inr ⟨by simpa using hc, .inl n_fn⟩)))]
  rw [e] at HR
  have t_fn : (x.fn != 0) = true := by simpa using n_fn
  clear e hop hc n_fn
  go_enter Tryz.func138, Tryz.ntmps138
  go_wp2_with fail
  refine qd _ _ _ _ _ ?_
  rw [hop']
  go_wp2_with fail
  refine qm _ _ _ (fun w1 hb1 => ?_)
  rw [hD, hA, hB]
  have hs1 := hb1.size
  obtain ⟨⟨x0, x1, x2, x3, x4, x5, x6, x7⟩, ⟨c0, c1, c2, c3, c4, c5, c6⟩, lx, lc, HXw, HCw, Hbw⟩ := insW (by exact bl0) hb1 HX.out HC.out
  have Hb1 := lh hb1
  clear hb1
  clear HX HC
  go_wp2
  exact HR.out _ (bzz Hbw bl0)
 have t1_fn := lh (Decidable.of_not_not n_fn)
 clear n_fn
 have t_fn : (x.fn != 0) = false := by simpa using t1_fn.out
 by_cases n_len : ¬ ¬ 0 < x.args.length
 ·have e : insF u rg x = 5 := by unfold insF; rw [if_neg (by omega), if_pos (.inr (.inr (.inr ⟨by simpa using hc, .inr (Decidable.of_not_not n_len)⟩)))]
  rw [e] at HR
  have t_len : (0 : Int) < (x.args.length : Int) := by omega
  clear e hop hc n_len
  go_enter Tryz.func138, Tryz.ntmps138
  go_wp2_with fail
  refine qd _ _ _ _ _ ?_
  rw [hop']
  go_wp2_with fail
  refine qm _ _ _ (fun w1 hb1 => ?_)
  rw [hD, hA, hB]
  have hs1 := hb1.size
  obtain ⟨⟨x0, x1, x2, x3, x4, x5, x6, x7⟩, ⟨c0, c1, c2, c3, c4, c5, c6⟩, lx, lc, HXw, HCw, Hbw⟩ := insW (by exact bl0) hb1 HX.out HC.out
  have Hb1 := lh hb1
  clear hb1
  clear HX HC
  go_wp2
  exact HR.out _ (bzz Hbw bl0)
 have t_len : ¬ (0 : Int) < (x.args.length : Int) := by omega
 have e0 : insF u rg x = if opDst x.op = true ∧ ¬ (x.op = 20 ∧ x.dst = -1) ∧ dstF rg x.dst ≠ 0 then dstF rg x.dst else fst0 [valF rg x.a, valF rg x.b, callF u rg x] := by
  unfold insF
  rw [if_neg (by omega), if_neg (by
   rintro (⟨h1, h2⟩ | ⟨h1, h2⟩ | ⟨h1, h2⟩ | ⟨h1, h2⟩)
   ·exact h2 t1_dst.out
   ·exact (by rw [hA] at h1; cases h1)
   ·exact (by rw [t1_B.out] at h2; cases h2)
   ·exact h2.elim (fun h => h t1_fn.out) (fun h => by omega))]
 rw [e0] at HR
 clear e0
 rw [if_neg (fun h => by rw [hD] at h; cases h.1)] at HR
 clear hop
 go_enter Tryz.func138, Tryz.ntmps138
 go_wp2_with fail
 refine qd _ _ _ _ _ ?_
 rw [hop']
 go_wp2_with fail
 refine qm _ _ _ (fun w1 hb1 => ?_)
 rw [hD, hA, hB]
 have hs1 := hb1.size
 obtain ⟨⟨x0, x1, x2, x3, x4, x5, x6, x7⟩, ⟨c0, c1, c2, c3, c4, c5, c6⟩, lx, lc, HXw, HCw, Hbw⟩ := insW (by exact bl0) hb1 HX.out HC.out
 have Hb1 := lh hb1
 clear hb1
 clear HX HC
 have hb12 : Below w1.heap.size w1 ((w1.alloc (Obj.cells #[.bool false, .bool true, .bool false] 148)).alloc (Obj.cells #[.bool false] 4)) := by exact bl0
 have hL2 : ((w1.alloc (Obj.cells #[.bool false, .bool true, .bool false] 148)).alloc (Obj.cells #[.bool false] 4)).heap[w1.heap.size + 1]? = some (.cells #[.bool false] 4 (0, 0)) := (by have := heap_alloc_new (w1.alloc (Obj.cells #[.bool false, .bool true, .bool false] 148)) (Obj.cells #[.bool false] 4); simpa using this)
 have hC2 := (hb12.block _ lc).trans HCw.out
 have hX2 := (hb12.block _ lx).trans HXw.out
 have hs12 := hb12.size
 have hB2 := Hbw.out.trans (hb12.mono Hbw.out.size)
 obtain ⟨HC3, HX3, HL3⟩ := bl3 (.cells #[.func (.func 155) #[] #[.pointer (some ⟨w.heap.size, 0, none⟩), .pointer (some ⟨w.heap.size + 1, 0, none⟩)], .func (.func 156) #[] #[.pointer (some ⟨w.heap.size, 0, none⟩), .pointer (some ⟨w.heap.size + 1, 0, none⟩)], .func (.func 157) #[] #[.pointer (some ⟨w1.heap.size + 1, 0, none⟩), .pointer (some ⟨w.heap.size + 1, 0, none⟩), .pointer (some ⟨w.heap.size, 0, none⟩)]] 173) hC2 hX2 hL2
 have HN3 := lh (heap_alloc_new ((w1.alloc (Obj.cells #[.bool false, .bool true, .bool false] 148)).alloc (Obj.cells #[.bool false] 4)) (Obj.cells #[.func (.func 155) #[] #[.pointer (some ⟨w.heap.size, 0, none⟩), .pointer (some ⟨w.heap.size + 1, 0, none⟩)], .func (.func 156) #[] #[.pointer (some ⟨w.heap.size, 0, none⟩), .pointer (some ⟨w.heap.size + 1, 0, none⟩)], .func (.func 157) #[] #[.pointer (some ⟨w1.heap.size + 1, 0, none⟩), .pointer (some ⟨w.heap.size + 1, 0, none⟩), .pointer (some ⟨w.heap.size, 0, none⟩)]] 173))
 have HB3 : Hid (Below w.heap.size w (((w1.alloc (Obj.cells #[.bool false, .bool true, .bool false] 148)).alloc (Obj.cells #[.bool false] 4)).alloc (Obj.cells #[.func (.func 155) #[] #[.pointer (some ⟨w.heap.size, 0, none⟩), .pointer (some ⟨w.heap.size + 1, 0, none⟩)], .func (.func 156) #[] #[.pointer (some ⟨w.heap.size, 0, none⟩), .pointer (some ⟨w.heap.size + 1, 0, none⟩)], .func (.func 157) #[] #[.pointer (some ⟨w1.heap.size + 1, 0, none⟩), .pointer (some ⟨w.heap.size + 1, 0, none⟩), .pointer (some ⟨w.heap.size, 0, none⟩)]] 173))) := lh (hB2.trans ((by exact bl0 : Below ((w1.alloc (Obj.cells #[.bool false, .bool true, .bool false] 148)).alloc (Obj.cells #[.bool false] 4)).heap.size ((w1.alloc (Obj.cells #[.bool false, .bool true, .bool false] 148)).alloc (Obj.cells #[.bool false] 4)) _).mono hB2.size))
 clear hC2 hX2 hL2 hb12 hB2
 go_wp2_with fail
 refine q1l _ (w1.heap.size + 1) w.heap.size (w.heap.size + 1) (valF rg x.a) (valF rg x.b) (callF u rg x) _ ?_ ?_ ?_ ?_ ?_ ?_ ?_ _ (fun w4 hb4 => ?_)
 ·first | (simp; done) | exact qc HN3.out
 ·rw [qe (by first | exact HN3.out | (simpa using HN3.out))]; rfl
 ·rw [qe (by first | exact HN3.out | (simpa using HN3.out))]; rfl
 ·rw [qe (by first | exact HN3.out | (simpa using HN3.out))]; rfl
 ·exact fun w5 hb5 R5 hR5 => q2j gA fA bA aA gn gc fn fc bn bc' an ac nm pr rg x (.slice A x.args.length c) hrg h0 w.heap.size (w.heap.size + 1) _ _ w5 ((hb5.block _ (qc HC3.out)).trans HC3.out) ((hb5.block _ (qc HX3.out)).trans HX3.out) R5 hR5
 ·exact fun w5 hb5 R5 hR5 => q1z gA fA bA aA gn gc fn fc bn bc' an ac nm pr rg x (.slice A x.args.length c) hrg h0 w.heap.size (w.heap.size + 1) _ _ w5 ((hb5.block _ (qc HC3.out)).trans HC3.out) ((hb5.block _ (qc HX3.out)).trans HX3.out) R5 hR5
 ·intro w5 hb5 R5 hR5
  have hB5 := HB3.out.trans (hb5.mono HB3.out.size)
  have hL5 := (hb5.block _ (qc HL3.out)).trans HL3.out
  rw [<- hc] at hL5
  exact q2a gA fA bA aA gn gc fn fc bn bc' an ac nm pr rg u x (.slice A x.args.length c) hrg h0 (w1.heap.size + 1) w.heap.size (w.heap.size + 1) _ _ _ w5 hL5 ((hb5.block _ (qc HC3.out)).trans HC3.out) ((hb5.block _ (qc HX3.out)).trans HX3.out) (Hf.out.up hB5 hB5.size) (Ha.out.up hB5 hB5.size) R5 hR5
 have Hfin := lh (HR.out _ (HB3.out.trans (hb4.mono HB3.out.size)))
 clear hb4
 go_wp2
 exact Hfin.out
end Go.Proofs.YtdanebboiekieaaGreatDoor
