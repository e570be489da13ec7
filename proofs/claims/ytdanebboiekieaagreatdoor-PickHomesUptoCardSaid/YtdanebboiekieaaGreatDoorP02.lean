/- The walks, part 2. -/
import Derived.Test.YtdanebboiekieaaGreatDoorP01
import Derived.Deep.CutBlock
import Derived.Deep.DeepCutAuto
set_option linter.unusedSimpArgs false
set_option linter.unusedVariables false
set_option maxRecDepth 100000
set_option maxHeartbeats 16000000
namespace Go.Proofs.YtdanebboiekieaaGreatDoor
open Go.RowKit
theorem qmc (w : World) (R : Ending -> World -> Prop) (hR : ∀ w', Below w.heap.size w w' -> R (.returned (.agg #[.bool true, .bool true, .bool false])) w') :
 Calls Tryz.prog 101 #[.int .i64 1] w R := by
 have HR := lh hR;clear hR
 go_enter Tryz.func101, Tryz.ntmps101
 go_wp2;refine bodyPost_ret (v := .agg #[.bool true, .bool true, .bool false]) (by simp [results, Tryz.results101, go_sem]) rfl ?_;exact HR.out _ bl0
theorem qk5 (w : World) (R : Ending -> World -> Prop) (hR : ∀ w', Below w.heap.size w w' -> R (.returned (.agg #[.bool true, .bool true, .bool false])) w') :
 Calls Tryz.prog 101 #[.int .i64 16] w R := by
 have HR := lh hR;clear hR
 go_enter Tryz.func101, Tryz.ntmps101
 go_wp2;refine bodyPost_ret (v := .agg #[.bool true, .bool true, .bool false]) (by simp [results, Tryz.results101, go_sem]) rfl ?_;exact HR.out _ bl0
theorem qk6 (w : World) (R : Ending -> World -> Prop) (hR : ∀ w', Below w.heap.size w w' -> R (.returned (.agg #[.bool true, .bool true, .bool false])) w') :
 Calls Tryz.prog 101 #[.int .i64 17] w R := by
 have HR := lh hR;clear hR
 go_enter Tryz.func101, Tryz.ntmps101
 go_wp2;refine bodyPost_ret (v := .agg #[.bool true, .bool true, .bool false]) (by simp [results, Tryz.results101, go_sem]) rfl ?_;exact HR.out _ bl0
theorem qk7 (w : World) (R : Ending -> World -> Prop) (hR : ∀ w', Below w.heap.size w w' -> R (.returned (.agg #[.bool true, .bool true, .bool false])) w') :
 Calls Tryz.prog 101 #[.int .i64 18] w R := by
 have HR := lh hR;clear hR
 go_enter Tryz.func101, Tryz.ntmps101
 go_wp2;refine bodyPost_ret (v := .agg #[.bool true, .bool true, .bool false]) (by simp [results, Tryz.results101, go_sem]) rfl ?_;exact HR.out _ bl0
theorem qhd (op : Int) (w : World) (h : 2 ≤ op ∧ op ≤ 15) (R : Ending -> World -> Prop) (hR : ∀ w', Below w.heap.size w w' -> R (.returned (.agg #[.bool true, .bool true, .bool true])) w') :
 Calls Tryz.prog 101 #[.int .i64 op] w R := by
 have HR := lh hR;clear hR;have a1 : (op == 1) = false := by simp; omega
 have a2 : (op == 16) = false := by simp; omega
 have a3 : (op == 17) = false := by simp; omega
 have a4 : (op == 18) = false := by simp; omega
 obtain ⟨h1, h2⟩ := h
 go_enter Tryz.func101, Tryz.ntmps101
 go_wp2;refine bodyPost_ret (v := .agg #[.bool true, .bool true, .bool true]) (by simp [results, Tryz.results101, go_sem]) rfl ?_;exact HR.out _ bl0
theorem qk8 (w : World) (R : Ending -> World -> Prop) (hR : ∀ w', Below w.heap.size w w' -> R (.returned (.agg #[.bool false, .bool true, .bool true])) w') :
 Calls Tryz.prog 101 #[.int .i64 19] w R := by
 have HR := lh hR;clear hR
 go_enter Tryz.func101, Tryz.ntmps101
 go_wp2;refine bodyPost_ret (v := .agg #[.bool false, .bool true, .bool true]) (by simp [results, Tryz.results101, go_sem]) rfl ?_;exact HR.out _ bl0
theorem qk9 (w : World) (R : Ending -> World -> Prop) (hR : ∀ w', Below w.heap.size w w' -> R (.returned (.agg #[.bool true, .bool false, .bool false])) w') :
 Calls Tryz.prog 101 #[.int .i64 20] w R := by
 have HR := lh hR;clear hR
 go_enter Tryz.func101, Tryz.ntmps101
 go_wp2;refine bodyPost_ret (v := .agg #[.bool true, .bool false, .bool false]) (by simp [results, Tryz.results101, go_sem]) rfl ?_;exact HR.out _ bl0
theorem qka (w : World) (R : Ending -> World -> Prop) (hR : ∀ w', Below w.heap.size w w' -> R (.returned (.agg #[.bool true, .bool false, .bool false])) w') :
 Calls Tryz.prog 101 #[.int .i64 21] w R := by
 have HR := lh hR;clear hR
 go_enter Tryz.func101, Tryz.ntmps101
 go_wp2;refine bodyPost_ret (v := .agg #[.bool true, .bool false, .bool false]) (by simp [results, Tryz.results101, go_sem]) rfl ?_;exact HR.out _ bl0
theorem qkb (w : World) (R : Ending -> World -> Prop) (hR : ∀ w', Below w.heap.size w w' -> R (.returned (.agg #[.bool false, .bool true, .bool false])) w') :
 Calls Tryz.prog 101 #[.int .i64 22] w R := by
 have HR := lh hR;clear hR
 go_enter Tryz.func101, Tryz.ntmps101
 go_wp2;refine bodyPost_ret (v := .agg #[.bool false, .bool true, .bool false]) (by simp [results, Tryz.results101, go_sem]) rfl ?_;exact HR.out _ bl0
theorem qkd (op : Int) (w : World) (h : op < 1) (R : Ending -> World -> Prop) (hR : ∀ w', Below w.heap.size w w' -> R (.returned (.agg #[.bool false, .bool false, .bool false])) w') :
 Calls Tryz.prog 101 #[.int .i64 op] w R := by
 have HR := lh hR;clear hR;have a1 : (op == 1) = false := by simp; omega
 have a2 : (op == 16) = false := by simp; omega
 have a3 : (op == 17) = false := by simp; omega
 have a4 : (op == 18) = false := by simp; omega
 have a5 : (op == 19) = false := by simp; omega
 have a6 : (op == 20) = false := by simp; omega
 have a7 : (op == 21) = false := by simp; omega
 have a8 : (op == 22) = false := by simp; omega
 have a9 : ¬ 2 ≤ op := by omega
 go_enter Tryz.func101, Tryz.ntmps101
 go_wp2;refine bodyPost_ret (v := .agg #[.bool false, .bool false, .bool false]) (by simp [results, Tryz.results101, go_sem]) rfl ?_;exact HR.out _ bl0
theorem qkc (op : Int) (w : World) (h : 22 < op) (R : Ending -> World -> Prop) (hR : ∀ w', Below w.heap.size w w' -> R (.returned (.agg #[.bool false, .bool false, .bool false])) w') :
 Calls Tryz.prog 101 #[.int .i64 op] w R := by
 have HR := lh hR;clear hR;have a1 : (op == 1) = false := by simp; omega
 have a2 : (op == 16) = false := by simp; omega
 have a3 : (op == 17) = false := by simp; omega
 have a4 : (op == 18) = false := by simp; omega
 have a5 : (op == 19) = false := by simp; omega
 have a6 : (op == 20) = false := by simp; omega
 have a7 : (op == 21) = false := by simp; omega
 have a8 : (op == 22) = false := by simp; omega
 have a9 : 2 ≤ op := by omega
 have a10 : ¬ op ≤ 15 := by omega
 go_enter Tryz.func101, Tryz.ntmps101
 go_wp2;refine bodyPost_ret (v := .agg #[.bool false, .bool false, .bool false]) (by simp [results, Tryz.results101, go_sem]) rfl ?_;exact HR.out _ bl0
theorem q2p (op : Int) (w : World) (R : Ending -> World -> Prop) (hR : ∀ w', Below w.heap.size w w' -> R (.returned (.agg #[.bool (opDst op), .bool (opA op), .bool (opB op)])) w') :
 Calls Tryz.prog 101 #[.int .i64 op] w R := by
 have key : ∀ d a b, opDst op = d -> opA op = a -> opB op = b -> ∀ w', Below w.heap.size w w' -> R (.returned (.agg #[.bool d, .bool a, .bool b])) w' := by
  rintro d a b rfl rfl rfl;exact hR
 by_cases h1 : op = 1
 ·subst h1; exact qmc w R (key _ _ _ (by decide) (by decide) (by decide))
 by_cases h2 : 2 ≤ op ∧ op ≤ 15
 ·exact qhd op w h2 R (key _ _ _ (by unfold opDst; simp; omega) (by unfold opA; simp; omega) (by unfold opB; simp; omega))
 by_cases h16 : op = 16
 ·subst h16; exact qk5 w R (key _ _ _ (by decide) (by decide) (by decide))
 by_cases h17 : op = 17
 ·subst h17; exact qk6 w R (key _ _ _ (by decide) (by decide) (by decide))
 by_cases h18 : op = 18
 ·subst h18; exact qk7 w R (key _ _ _ (by decide) (by decide) (by decide))
 by_cases h19 : op = 19
 ·subst h19; exact qk8 w R (key _ _ _ (by decide) (by decide) (by decide))
 by_cases h20 : op = 20
 ·subst h20; exact qk9 w R (key _ _ _ (by decide) (by decide) (by decide))
 by_cases h21 : op = 21
 ·subst h21; exact qka w R (key _ _ _ (by decide) (by decide) (by decide))
 by_cases h22 : op = 22
 ·subst h22; exact qkb w R (key _ _ _ (by decide) (by decide) (by decide))
 by_cases h3 : op < 1
 ·exact qkd op w h3 R (key _ _ _ (by unfold opDst; simp; omega) (by unfold opA; simp; omega) (by unfold opB; simp; omega))
 ·exact qkc op w (by omega) R (key _ _ _ (by unfold opDst; simp; omega) (by unfold opA; simp; omega) (by unfold opB; simp; omega))
theorem q3p (gA fA bA aA : Option Addr) (gn gc fn fc bn bc' an ac : Nat) (nm : ByteArray) (pr rg : Int) (v : UVal) (hrg : I64 rg) (w : World) (h0 : -9223372036854775807 ≤ rg) (R : Ending -> World -> Prop) (hR : ∀ w', Below w.heap.size w w' -> R (.returned (.int .i64 (valF rg v))) w') :
 Calls Tryz.prog 152 #[(.agg #[.slice gA gn gc, .slice fA fn fc, .string nm, .int .i64 pr, .int .i64 rg, .slice bA bn bc', .slice aA an ac]), .agg #[.bool v.reg, .int .i64 v.n]] w R := by
 obtain ⟨r, n⟩ := v;obtain ⟨i1, i2⟩ := hrg;have HR := lh hR;clear hR
 cases r
 ·have e : valF rg ⟨false, n⟩ = 0 := by simp [valF]
  rw [e] at HR;clear e
  go_enter Tryz.func152, Tryz.ntmps152
  go_wp2;exact HR.out _ bl0
 by_cases hw : 0 ≤ n ∧ n ≤ rg - 1
 ·have e : valF rg ⟨true, n⟩ = 0 := by simp [valF]; omega
  rw [e] at HR;have hd : decide (0 ≤ n ∧ n ≤ rg - 1) = true := by simpa using hw
  clear e hw
  go_enter Tryz.func152, Tryz.ntmps152
  go_wp2_with (refine qd _ _ _ _ _ ?_; rw [hd])
  exact HR.out _ bl0
 ·have e : valF rg ⟨true, n⟩ = 3 := by simp [valF]; omega
  rw [e] at HR;have hd : decide (0 ≤ n ∧ n ≤ rg - 1) = false := by simpa using hw
  clear e hw
  go_enter Tryz.func152, Tryz.ntmps152
  go_wp2_with (refine qd _ _ _ _ _ ?_; rw [hd])
  exact HR.out _ bl0
theorem q67 (gA fA bA aA : Option Addr) (gn gc fn fc bn bc' an ac : Nat) (nm : ByteArray) (pr rg : Int) (n : Int) (hrg : I64 rg) (w : World) (h0 : -9223372036854775807 ≤ rg) (R : Ending -> World -> Prop) (hR : ∀ w', Below w.heap.size w w' -> R (.returned (.int .i64 (dstF rg n))) w') :
 Calls Tryz.prog 153 #[(.agg #[.slice gA gn gc, .slice fA fn fc, .string nm, .int .i64 pr, .int .i64 rg, .slice bA bn bc', .slice aA an ac]), .int .i64 n] w R := by
 obtain ⟨i1, i2⟩ := hrg;have HR := lh hR;clear hR
 by_cases hw : 0 ≤ n ∧ n ≤ rg - 1
 ·have e : dstF rg n = 0 := by simp [dstF]; omega
  rw [e] at HR;have hd : decide (0 ≤ n ∧ n ≤ rg - 1) = true := by simpa using hw
  clear e hw
  go_enter Tryz.func153, Tryz.ntmps153
  go_wp2_with (refine qd _ _ _ _ _ ?_; rw [hd])
  exact HR.out _ bl0
 ·have e : dstF rg n = 3 := by simp [dstF]; omega
  rw [e] at HR;have hd : decide (0 ≤ n ∧ n ≤ rg - 1) = false := by simpa using hw
  clear e hw
  go_enter Tryz.func153, Tryz.ntmps153
  go_wp2_with (refine qd _ _ _ _ _ ?_; rw [hd])
  exact HR.out _ bl0
theorem qa9 {regs : Int} {l : List UVal} {k : Nat} (h : k < l.length) (h0 : valsF regs (l.take k) = 0) (hv : valF regs l[k] = 0) : valsF regs (l.take (k + 1)) = 0 := by
 unfold valsF at *;rw [List.map_take] at *;exact q3e (by rw [List.getElem?_map, List.getElem?_eq_getElem h]; rfl) hv h0
theorem qfy {regs : Int} {l : List UVal} {k : Nat} (h : k < l.length) (h0 : valsF regs (l.take k) = 0) (hv : valF regs l[k] ≠ 0) : valsF regs l = valF regs l[k] := by
 unfold valsF at *;rw [List.map_take] at h0;exact q5q (by rw [List.getElem?_map, List.getElem?_eq_getElem h]; rfl) hv h0
theorem qr {w : World} {b : Nat} {v0 v1 v2 v3 v4 v5 v6 : Value} {T : TypeId} (h : w.heap[b]? = some (.cells #[v0, v1, v2, v3, v4, v5, v6] T (0, 0))) :
 w.cell? ⟨b, 0, none⟩ = some v0 ∧ w.cell? ⟨b, 1, none⟩ = some v1 ∧ w.cell? ⟨b, 2, none⟩ = some v2 ∧ w.cell? ⟨b, 3, none⟩ = some v3 ∧ w.cell? ⟨b, 4, none⟩ = some v4 ∧ w.cell? ⟨b, 5, none⟩ = some v5 ∧ w.cell? ⟨b, 6, none⟩ = some v6 := by
 refine ⟨?_, ?_, ?_, ?_, ?_, ?_, ?_⟩ <;> (rw [qb h]; rfl)
theorem qe {w : World} {b : Nat} {v0 v1 v2 v3 v4 v5 v6 v7 : Value} {T : TypeId} (h : w.heap[b]? = some (.cells #[v0, v1, v2, v3, v4, v5, v6, v7] T (0, 0))) :
 w.cell? ⟨b, 0, none⟩ = some v0 ∧ w.cell? ⟨b, 1, none⟩ = some v1 ∧ w.cell? ⟨b, 2, none⟩ = some v2 ∧ w.cell? ⟨b, 3, none⟩ = some v3 ∧ w.cell? ⟨b, 4, none⟩ = some v4 ∧ w.cell? ⟨b, 5, none⟩ = some v5 ∧ w.cell? ⟨b, 6, none⟩ = some v6 ∧ w.cell? ⟨b, 7, none⟩ = some v7 := by
 refine ⟨?_, ?_, ?_, ?_, ?_, ?_, ?_, ?_⟩ <;> (rw [qb h]; rfl)
theorem qgo (gA fA bA aA : Option Addr) (gn gc fn fc bn bc' an ac : Nat) (nm : ByteArray) (pr rg : Int) (x : UIns) (vargs : Value) (hrg : I64 rg) (h0 : -9223372036854775807 ≤ rg) (bc bx : Nat) (Tc Tx : TypeId) (w : World) (hc : w.heap[bc]? = some (.cells #[.slice gA gn gc, .slice fA fn fc, .string nm, .int .i64 pr, .int .i64 rg, .slice bA bn bc', .slice aA an ac] Tc (0, 0)))
 (hx : w.heap[bx]? = some (.cells #[.int .i64 x.op, .int .i64 x.dst, .bool x.a.reg, .int .i64 x.a.n, .bool x.b.reg, .int .i64 x.b.n, .int .i64 x.fn, vargs] Tx (0, 0))) (R : Ending -> World -> Prop) (hR : ∀ w', Below w.heap.size w w' -> R (.returned (.int .i64 (valF rg x.a))) w') :
 Calls Tryz.prog 155 #[.pointer (some ⟨bc, 0, none⟩), .pointer (some ⟨bx, 0, none⟩)] w R := by
 obtain ⟨c0, c1, c2, c3, c4, c5, c6⟩ := qr hc;obtain ⟨x0, x1, x2, x3, x4, x5, x6, x7⟩ := qe hx;have lc := (Array.getElem?_eq_some_iff.1 hc).1;have lx := (Array.getElem?_eq_some_iff.1 hx).1;have HR := lh hR;clear hR hc hx
 go_enter Tryz.func155, Tryz.ntmps155
 go_wp2_with fail
 refine q3p gA fA bA aA gn gc fn fc bn bc' an ac nm pr rg x.a hrg _ h0 _ ?_;intro w1 hb1;have Hfin := lh (HR.out w1 (by exact hb1));clear hb1;go_wp2;exact Hfin.out
theorem qgp (gA fA bA aA : Option Addr) (gn gc fn fc bn bc' an ac : Nat) (nm : ByteArray) (pr rg : Int) (x : UIns) (vargs : Value) (hrg : I64 rg) (h0 : -9223372036854775807 ≤ rg) (bc bx : Nat) (Tc Tx : TypeId) (w : World) (hc : w.heap[bc]? = some (.cells #[.slice gA gn gc, .slice fA fn fc, .string nm, .int .i64 pr, .int .i64 rg, .slice bA bn bc', .slice aA an ac] Tc (0, 0)))
 (hx : w.heap[bx]? = some (.cells #[.int .i64 x.op, .int .i64 x.dst, .bool x.a.reg, .int .i64 x.a.n, .bool x.b.reg, .int .i64 x.b.n, .int .i64 x.fn, vargs] Tx (0, 0))) (R : Ending -> World -> Prop) (hR : ∀ w', Below w.heap.size w w' -> R (.returned (.int .i64 (valF rg x.b))) w') :
 Calls Tryz.prog 156 #[.pointer (some ⟨bc, 0, none⟩), .pointer (some ⟨bx, 0, none⟩)] w R := by
 obtain ⟨c0, c1, c2, c3, c4, c5, c6⟩ := qr hc;obtain ⟨x0, x1, x2, x3, x4, x5, x6, x7⟩ := qe hx;have lc := (Array.getElem?_eq_some_iff.1 hc).1;have lx := (Array.getElem?_eq_some_iff.1 hx).1;have HR := lh hR;clear hR hc hx
 go_enter Tryz.func156, Tryz.ntmps156
 go_wp2_with fail
 refine q3p gA fA bA aA gn gc fn fc bn bc' an ac nm pr rg x.b hrg _ h0 _ ?_;intro w1 hb1;have Hfin := lh (HR.out w1 (by exact hb1));clear hb1;go_wp2;exact Hfin.out
theorem qgq (gA fA bA aA : Option Addr) (gn gc fn fc bn bc' an ac : Nat) (nm : ByteArray) (pr rg : Int) (u : Unt) (x : UIns) (vargs : Value) (hrg : I64 rg) (h0 : -9223372036854775807 ≤ rg) (bl bc bx : Nat) (Tl Tc Tx : TypeId) (w : World)
 (hl : w.heap[bl]? = some (.cells #[.bool (decide (x.op = 20))] Tl (0, 0)))
 (hc : w.heap[bc]? = some (.cells #[.slice gA gn gc, .slice fA fn fc, .string nm, .int .i64 pr, .int .i64 rg, .slice bA bn bc', .slice aA an ac] Tc (0, 0)))
 (hx : w.heap[bx]? = some (.cells #[.int .i64 x.op, .int .i64 x.dst, .bool x.a.reg, .int .i64 x.a.n, .bool x.b.reg, .int .i64 x.b.n, .int .i64 x.fn, vargs] Tx (0, 0)))
 (hf : rpFun.SL w w.heap.size u.funcs (.slice fA fn fc)) (ha : rpVal.SL w w.heap.size x.args vargs)
 (R : Ending -> World -> Prop) (hR : ∀ w', Below w.heap.size w w' -> R (.returned (.int .i64 (callF u rg x))) w') :
 Calls Tryz.prog 157 #[.pointer (some ⟨bl, 0, none⟩), .pointer (some ⟨bx, 0, none⟩), .pointer (some ⟨bc, 0, none⟩)] w R := by
 obtain ⟨c0, c1, c2, c3, c4, c5, c6⟩ := qr hc;obtain ⟨x0, x1, x2, x3, x4, x5, x6, x7⟩ := qe hx;have l0 : w.cell? ⟨bl, 0, none⟩ = some (.bool (decide (x.op = 20))) := cqq hl;have lc := (Array.getElem?_eq_some_iff.1 hc).1;have lx := (Array.getElem?_eq_some_iff.1 hx).1;have ll := (Array.getElem?_eq_some_iff.1 hl).1;obtain ⟨HR, Hc⟩ := lh2 hR hc;clear hR hx hl hc
 by_cases hop : ¬ x.op = 20
 ·rw [decide_eq_false hop] at l0;have e : callF u rg x = 0 := by unfold callF; rw [if_pos hop]
  rw [e] at HR;clear e hop
  go_enter Tryz.func157, Tryz.ntmps157
  go_wp2;exact HR.out _ bl0
 have hop := Decidable.of_not_not hop;rw [decide_eq_true hop] at l0;obtain ⟨A, c, rfl, _, _, ha⟩ := ha.cases_;have hfn := hf.len;have hfm := hf.max;unfold maxLen at hfm;subst hfn
 by_cases hr : ¬ (0 ≤ x.fn ∧ x.fn ≤ (u.funcs.length : Int) - 1)
 ·have e : callF u rg x = 3 := by unfold callF; rw [if_neg (by omega), if_pos hr]
  rw [e] at HR;have hd : decide (0 ≤ x.fn ∧ x.fn ≤ (u.funcs.length : Int) - 1) = false := by simpa using hr
  clear e hop hr
  go_enter Tryz.func157, Tryz.ntmps157
  go_wp2_with (refine qd _ _ _ _ _ ?_; rw [hd])
  exact HR.out _ bl0
 have hr := Decidable.of_not_not hr;have hd : decide (0 ≤ x.fn ∧ x.fn ≤ (u.funcs.length : Int) - 1) = true := by simpa using hr
 have hk : x.fn.toNat < u.funcs.length := by omega
 obtain ⟨b, off, v, rfl, hb, hbs, q0, q1, q2, q3⟩ := hf.fun_at hk;have ek : (x.fn.toNat : Int) = x.fn := by omega
 have ef : u.funcs[x.fn.toNat]? = some u.funcs[x.fn.toNat] := List.getElem?_eq_getElem hk;have r1 : 0 ≤ x.fn := hr.1;have r2 : x.fn < (u.funcs.length : Int) := by omega
 by_cases hp : ¬ (x.args.length : Int) = u.funcs[x.fn.toNat].params
 ·have e : callF u rg x = 9 := by
   unfold callF;rw [if_neg (by omega), if_neg (by omega)];simp only [ef];rw [if_pos hp]
  rw [e] at HR;have hpb : ((x.args.length : Int) != u.funcs[x.fn.toNat].params) = true := by simpa using hp
  clear e hop hr ef
  go_enter Tryz.func157, Tryz.ntmps157
  go_wp2_with (refine qd _ _ _ _ _ ?_; rw [hd])
  go_quiet (fail)
  go_wp2;exact HR.out _ bl0
 have hp := Decidable.of_not_not hp
 have e : callF u rg x = valsF rg x.args := by
  unfold callF;rw [if_neg (by omega), if_neg (by omega)];simp only [ef];rw [if_neg (by omega)]
 rw [e] at HR;have hpb : ((x.args.length : Int) != u.funcs[x.fn.toNat].params) = false := by simpa using hp
 have Ha := lh ha;clear e hop hr ef ha
 go_enter Tryz.func157, Tryz.ntmps157
 go_wp2_with (refine qd _ _ _ _ _ ?_; rw [hd])
 go_quiet (fail)
 go_wp2;have hbel0 : Below w.heap.size w w := Below.refl _ _
 go_loopg [5, 6, 36] x.args.length (fun gh s5 s6 s36 wr => ∃ k : Nat, k ≤ x.args.length ∧ gh = x.args.length - k ∧ s36 = .int .i64 (k : Int) ∧ valsF rg (x.args.take k) = 0 ∧ Below w.heap.size w wr)
 case atStart => exact ⟨0, Nat.zero_le _, rfl, rfl, rfl, bl0⟩
 case round =>
  obtain ⟨k, hk, rfl, rfl, hz, hbel⟩ := hrel;obtain ⟨Hz, Hbel⟩ := lh2 hz hbel;have hsz := hbel.size;clear hz hbel
  by_cases hlt : k < x.args.length
  ·obtain ⟨ba, oa, rfl, hba, a0, a1⟩ := Ha.out.val_at hlt;have k1 := nnn k;have k2 : (k : Int) < (x.args.length : Int) := by omega
   have a0' := (Hbel.out.cell (p := ⟨ba, oa + k * 2, none⟩) hba).trans a0;have a1' := (Hbel.out.cell (p := ⟨ba, oa + k * 2 + 1, none⟩) hba).trans a1;have lba : ba < wr.heap.size := by omega
   obtain ⟨m0, m1, m2, m3, m4, m5, m6⟩ := qr ((Hbel.out.block _ lc).trans Hc.out);have lcr : bc < wr.heap.size := by omega
   have Hyes : Hid (valF rg x.args[k] = 0 -> valsF rg (x.args.take (k + 1)) = 0) := lh fun h => qa9 hlt Hz.out h;have Hno : Hid (valF rg x.args[k] ≠ 0 -> valsF rg x.args = valF rg x.args[k]) := lh fun h => qfy hlt Hz.out h;generalize x.args[k] = a at *;clear c0 c1 c2 c3 c4 c5 c6 x0 x1 x2 x3 x4 x5 x6 x7 l0 q0 q1 q2 q3
   go_wp2_with fail
   refine q3p _ (some ⟨b, off, none⟩) bA aA gn gc _ fc bn bc' an ac nm pr rg a hrg _ h0 _ ?_;intro w1 hb1;have Hb1 := lh (Hbel.out.trans ((by exact bl0 : Below wr.heap.size wr (wr.alloc (Obj.cells #[.bool a.reg, .int .i64 a.n] 64))).trans (hb1.mono (by simp)) |>.mono hsz));clear hb1
   by_cases hv : valF rg a = 0
   ·have hvb : (valF rg a != 0) = false := by simp [hv]
    have hy := lh (Hyes.out hv);clear Hyes Hno;go_wp2
    go_roundg (x.args.length - (k + 1))
    case measure => omega
    case rel => exact ⟨k + 1, by omega, rfl, by go_num, hy.out, Hb1.out⟩
   ·have hvb : (valF rg a != 0) = true := by simp [hv]
    have hy := lh (Hno.out hv);have Hfin := lh (HR.out _ Hb1.out);rw [hy.out] at Hfin;clear Hyes Hno;go_wp2;exact Hfin.out
  ·obtain rfl : k = x.args.length := by omega
   have k2 : ¬ ((x.args.length : Int) < (x.args.length : Int)) := by omega
   have Hfin := lh (HR.out _ Hbel.out);rw [show valsF rg x.args = 0 from by have := Hz.out; rwa [List.take_length] at this] at Hfin;go_wp2;exact Hfin.out
theorem qdx (b bl bc bx : Nat) (e1 e2 e3 : Int) (w : World) (lb : b < w.heap.size)
 (g1 : w.cell? ⟨b, 0, none⟩ = some (.func (.func 155) #[] #[.pointer (some ⟨bc, 0, none⟩), .pointer (some ⟨bx, 0, none⟩)]))
 (g2 : w.cell? ⟨b, 1, none⟩ = some (.func (.func 156) #[] #[.pointer (some ⟨bc, 0, none⟩), .pointer (some ⟨bx, 0, none⟩)]))
 (g3 : w.cell? ⟨b, 2, none⟩ = some (.func (.func 157) #[] #[.pointer (some ⟨bl, 0, none⟩), .pointer (some ⟨bx, 0, none⟩), .pointer (some ⟨bc, 0, none⟩)]))
 (q1 : ∀ w1, Below w.heap.size w w1 -> ∀ R : Ending -> World -> Prop, (∀ w2, Below w1.heap.size w1 w2 -> R (.returned (.int .i64 e1)) w2) -> Calls Tryz.prog 155 #[.pointer (some ⟨bc, 0, none⟩), .pointer (some ⟨bx, 0, none⟩)] w1 R)
 (q2 : ∀ w1, Below w.heap.size w w1 -> ∀ R : Ending -> World -> Prop, (∀ w2, Below w1.heap.size w1 w2 -> R (.returned (.int .i64 e2)) w2) -> Calls Tryz.prog 156 #[.pointer (some ⟨bc, 0, none⟩), .pointer (some ⟨bx, 0, none⟩)] w1 R)
 (q3 : ∀ w1, Below w.heap.size w w1 -> ∀ R : Ending -> World -> Prop, (∀ w2, Below w1.heap.size w1 w2 -> R (.returned (.int .i64 e3)) w2) -> Calls Tryz.prog 157 #[.pointer (some ⟨bl, 0, none⟩), .pointer (some ⟨bx, 0, none⟩), .pointer (some ⟨bc, 0, none⟩)] w1 R)
 (R : Ending -> World -> Prop) (hR : ∀ w', Below w.heap.size w w' -> R (.returned (.int .i64 (fst0 [e1, e2, e3]))) w') :
 Calls Tryz.prog 154 #[.slice (some ⟨b, 0, none⟩) 3 3] w R := by
 obtain ⟨HR, Q1, Q2, Q3, G1, G2, G3⟩ := lh7 hR q1 q2 q3 g1 g2 g3;clear hR q1 q2 q3 g1 g2 g3
 go_enter Tryz.func154, Tryz.ntmps154
 go_wp2
 go_loopg [4, 5, 8] 3 (fun gh s4 s5 s8 wr => ∃ k : Nat, k ≤ 3 ∧ gh = 3 - k ∧ s8 = .int .i64 (k : Int) ∧ (0 < k -> e1 = 0) ∧ (1 < k -> e2 = 0) ∧ (2 < k -> e3 = 0) ∧ Below w.heap.size w wr)
 case atStart => exact ⟨0, Nat.zero_le _, rfl, rfl, by omega, by omega, by omega, Below.refl _ _⟩
 case round =>
  obtain ⟨k, hk, rfl, rfl, z1, z2, z3, hbel⟩ := hrel;have Hbel := lh hbel;have hsz := hbel.size;have lbr : b < wr.heap.size := by omega
  obtain ⟨Z1, Z2, Z3⟩ := lh3 z1 z2 z3;clear hbel z1 z2 z3
  rcases (by omega : k = 0 ∨ k = 1 ∨ k = 2 ∨ k = 3) with rfl | rfl | rfl | rfl
  ·have g := (Hbel.out.cell (p := ⟨b, 0, none⟩) lb).trans G1.out
   go_wp2_with fail
   refine Q1.out wr Hbel.out _ (fun w1 hb1 => ?_);have Hb1 := btt Hbel hb1 hsz;clear hb1 g
   by_cases hv : e1 = 0
   ·have hvb : (e1 != 0) = false := by simp [hv]
    go_wp2
    go_roundg 2
    case measure => omega
    case rel => exact ⟨1, by omega, rfl, by go_num, fun _ => hv, by omega, by omega, Hb1.out⟩
   ·have hvb : (e1 != 0) = true := by simp [hv]
    have Hfin := lh (HR.out _ Hb1.out);rw [show fst0 [e1, e2, e3] = e1 from by simp [fst0, hv]] at Hfin;go_wp2;exact Hfin.out
  ·have g := (Hbel.out.cell (p := ⟨b, 1, none⟩) lb).trans G2.out
   go_wp2_with fail
   refine Q2.out wr Hbel.out _ (fun w1 hb1 => ?_);have Hb1 := btt Hbel hb1 hsz;clear hb1 g
   by_cases hv : e2 = 0
   ·have hvb : (e2 != 0) = false := by simp [hv]
    go_wp2
    go_roundg 1
    case measure => omega
    case rel => exact ⟨2, by omega, rfl, by go_num, fun _ => Z1.out (by omega), fun _ => hv, by omega, Hb1.out⟩
   ·have hvb : (e2 != 0) = true := by simp [hv]
    have Hfin := lh (HR.out _ Hb1.out);rw [show fst0 [e1, e2, e3] = e2 from by simp [fst0, hv, Z1.out (by omega)]] at Hfin;go_wp2;exact Hfin.out
  ·have g := (Hbel.out.cell (p := ⟨b, 2, none⟩) lb).trans G3.out
   go_wp2_with fail
   refine Q3.out wr Hbel.out _ (fun w1 hb1 => ?_);have Hb1 := btt Hbel hb1 hsz;clear hb1 g
   by_cases hv : e3 = 0
   ·have hvb : (e3 != 0) = false := by simp [hv]
    go_wp2
    go_roundg 0
    case measure => omega
    case rel => exact ⟨3, by omega, rfl, by go_num, fun _ => Z1.out (by omega), fun _ => Z2.out (by omega), fun _ => hv, Hb1.out⟩
   ·have hvb : (e3 != 0) = true := by simp [hv]
    have Hfin := lh (HR.out _ Hb1.out);rw [show fst0 [e1, e2, e3] = e3 from by simp [fst0, hv, Z1.out (by omega), Z2.out (by omega)]] at Hfin;go_wp2;exact Hfin.out
  ·have Hfin := lh (HR.out _ Hbel.out);rw [show fst0 [e1, e2, e3] = 0 from by simp [fst0, Z1.out (by omega), Z2.out (by omega), Z3.out (by omega)]] at Hfin;go_wp2;exact Hfin.out
end Go.Proofs.YtdanebboiekieaaGreatDoor
namespace Go.Proofs.YtdanebboiekieaaGreatDoor
open Go.RowKit
end Go.Proofs.YtdanebboiekieaaGreatDoor
namespace Go.Proofs.YtdanebboiekieaaGreatDoor
open Go.RowKit
theorem qdd (v : Value) (xs : List Int) (t : Int) (w : World) (h : rpInt.SL w w.heap.size xs v) (R : Ending -> World -> Prop)
 (hin : ∀ k : Nat, k < xs.length -> xs.getD k 0 = t -> R (.returned (.int .i64 (k : Int))) w) (hout : (∀ k, k < xs.length -> xs.getD k 0 ≠ t) -> R (.returned (.int .i64 (-1))) w) :
 Calls Tryz.prog 63 #[v, .int .i64 t] w R := by
 obtain ⟨A, c, rfl, hm, hcap, hs⟩ := h.cases_;obtain ⟨Hin, Hout⟩ := lh2 hin hout;clear hin hout h
 go_enter Tryz.func63, Tryz.ntmps63
 go_wp2
 go_loopg [5, 8] xs.length (fun g o i wr => ∃ k : Nat, k ≤ xs.length ∧ g = xs.length - k ∧ i = .int .i64 k ∧ (∀ j, j < k -> xs.getD j 0 ≠ t) ∧ wr = w)
 case atStart => exact ⟨0, Nat.zero_le _, rfl, rfl, (fun j hj => absurd hj (Nat.not_lt_zero _)), rfl⟩
 case round =>
  obtain ⟨k, hk, rfl, rfl, hne, rfl⟩ := hrel;have Hne := lh hne;clear hne
  by_cases hlt : k < xs.length
  ·obtain ⟨b, off, rfl, hb, p0⟩ := hs.int_at hlt;have i1 := nnn k;have i2 : (k : Int) < (xs.length : Int) := by omega
   have Hk : Hid (xs.getD k 0 = t -> R (.returned (.int .i64 (k : Int))) wr) := Hin.out k hlt;obtain ⟨x, hx⟩ : ∃ x, xs.getD k 0 = x := ⟨_, rfl⟩;rw [hx] at p0 Hk;have Hx := lh hx;clear hx
   by_cases hxt : t = x
   ·subst hxt;have HR : Hid (R (.returned (.int .i64 (k : Int))) wr) := Hk.out rfl;clear Hk Hin Hout;go_wp2;exact HR.out
   ·have hb' : (t == x) = false := by simp [hxt]
    go_wp2
    go_roundg (xs.length - (k + 1))
    case measure => omega
    case rel =>
     refine ⟨k + 1, by omega, rfl, by go_num, fun j hj => ?_, rfl⟩
     rcases Nat.lt_succ_iff_lt_or_eq.1 hj with h1 | rfl
     ·exact Hne.out j h1
     ·rw [Hx.out]; exact fun e => hxt e.symm
  ·obtain rfl : k = xs.length := by omega
   have HR : Hid (R (.returned (.int .i64 (-1))) wr) := Hout.out Hne.out;clear Hin Hout Hne;go_wp2;exact HR.out
theorem q97 (v : Value) (xs : List Int) (t : Int) (w : World) (h : rpInt.SL w w.heap.size xs v) (R : Ending -> World -> Prop)
 (hR : R (.returned (.bool (decide (t ∈ xs)))) w) :
 Calls Tryz.prog 30 #[v, .int .i64 t] w R := by
 have HR := lh hR;clear hR
 go_enter Tryz.func30, Tryz.ntmps30
 go_wp2_with fail
 refine qdd _ xs t _ h _ (fun k hk e => ?_) (fun hn => ?_)
 ·have hin : decide (t ∈ xs) = true := by
   have : t ∈ xs := by rw [<- e, List.getD_eq_getElem?_getD, List.getElem?_eq_getElem hk]; exact List.getElem_mem hk
   simp [this]
  rw [hin] at HR;have i1 := nnn k;clear hin;go_wp2;exact HR.out
 ·have hin : decide (t ∈ xs) = false := by
   have : t ∉ xs := by
    intro hm;obtain ⟨k, hk, e⟩ := List.getElem_of_mem hm;exact hn k hk (by rw [List.getD_eq_getElem?_getD, List.getElem?_eq_getElem hk]; exact e)
   simp [this]
  rw [hin] at HR;clear hin hn;go_wp2;exact HR.out
end Go.Proofs.YtdanebboiekieaaGreatDoor
namespace Go.Proofs.YtdanebboiekieaaGreatDoor
open Go.RowKit
end Go.Proofs.YtdanebboiekieaaGreatDoor
namespace Go.Proofs.YtdanebboiekieaaGreatDoor
open Go.RowKit
theorem qaq {l : List Mac} {k : Nat} {m : Mac} (h : l[k]? = some m) : q1i l (l.length - k) k = if macF m l.length ≠ 0 then (macF m l.length, (k : Int)) else q1i l (l.length - (k + 1)) (k + 1) := by
 have hk : k < l.length := (List.getElem?_eq_some_iff.1 h).1;rw [show l.length - k = (l.length - (k + 1)) + 1 from by omega, q1i, List.getD_eq_getElem?_getD, h];rfl
theorem qcc {l : List Mac} {m : Mac} (h : l[l.length - 1]? = some m) : q1i l (l.length - l.length) l.length = if m.op = 37 ∨ m.op = 45 then (0, 0) else (5, (l.length : Int) - 1) := by
 rw [Nat.sub_self, q1i, List.getD_eq_getElem?_getD, h];rfl
end Go.Proofs.YtdanebboiekieaaGreatDoor
namespace Go.Proofs.YtdanebboiekieaaGreatDoor
open Go.RowKit
theorem q5e {w : World} {p : Nat} {u v : Value} {T : TypeId} (h : w.heap[p]? = some (.cells #[u, v] T (0, 0))) : w.cell? ⟨p, 0, none⟩ = some u ∧ w.cell? ⟨p, 1, none⟩ = some v ∧ w.frozen? ⟨p, 0, none⟩ = false ∧ w.frozen? ⟨p, 1, none⟩ = false := by
 refine ⟨?_, ?_, ?_, ?_⟩ <;> simp [World.cell?, World.frozen?, h]
end Go.Proofs.YtdanebboiekieaaGreatDoor
namespace Go.Proofs.YtdanebboiekieaaGreatDoor
open Go.RowKit
def hasB (s : ByteArray) (c : UInt8) : Nat -> Nat -> Bool
 | 0, _ => false
 | m + 1, i => (s.get! i == c) || hasB s c m (i + 1)
theorem qio {s : ByteArray} {c : UInt8} {k : Nat} (h : k < s.size) : hasB s c (s.size - k) k = ((s.get! k == c) || hasB s c (s.size - (k + 1)) (k + 1)) := by
 rw [show s.size - k = (s.size - (k + 1)) + 1 from by omega, hasB]
theorem qev {s : ByteArray} {k : Nat} (h : k < s.size) : s[k] = s.get! k := by
 show s.data[k] = s.data[k]!;rw [getElem!_pos s.data k h]
theorem qi4 (a b : UInt8) : (((a.toNat : Nat) : Int) == ((b.toNat : Nat) : Int)) = (a == b) := by
 by_cases h : a = b
 ·subst h; simp
 ·have : a.toNat ≠ b.toNat := fun e => h (UInt8.toNat_inj.1 e);rw [beq_false_of_ne h, beq_false_of_ne (by omega)]
theorem q60 (s : ByteArray) (c : UInt8) (hs : s.size ≤ 100) (w : World) (R : Ending -> World -> Prop) (hR : R (.returned (.bool (hasB s c s.size 0))) w) :
 Calls Tryz.prog 18 #[.string s, .int .u8 c.toNat] w R := by
 have HR := lh hR;clear hR
 go_enter Tryz.func18, Tryz.ntmps18
 go_wp2
 go_loopg [5] s.size (fun g i wr => ∃ k : Nat, k ≤ s.size ∧ g = s.size - k ∧ i = .int .i64 k ∧ hasB s c (s.size - k) k = hasB s c s.size 0 ∧ wr = w)
 case atStart => exact ⟨0, Nat.zero_le _, rfl, rfl, rfl, rfl⟩
 case round =>
  obtain ⟨k, hk, rfl, rfl, ht, rfl⟩ := hrel;have Ht := lh ht;clear ht
  by_cases hlt : k < s.size
  ·have i1 := nnn k;have i2 : (k : Int) < (s.size : Int) := by omega
   have Hs := lh (qio (c := c) hlt);rw [<- qev hlt] at Hs
   cases hx : (s[k] == c)
   ·have hb : (((s[k].toNat : Nat) : Int) == ((c.toNat : Nat) : Int)) = false := (qi4 _ _).trans hx;rw [hx, Bool.false_or] at Hs;clear hx;go_wp2
    go_roundg (s.size - (k + 1))
    case measure => omega
    case rel => exact ⟨k + 1, by omega, rfl, by go_num, by rw [<- Ht.out, Hs.out], rfl⟩
   ·have hb : (((s[k].toNat : Nat) : Int) == ((c.toNat : Nat) : Int)) = true := (qi4 _ _).trans hx;rw [hx, Bool.true_or] at Hs;rw [<- Ht.out, Hs.out] at HR;clear hx;go_wp2;exact HR.out
  ·obtain rfl : k = s.size := by omega
   rw [Nat.sub_self, hasB] at Ht;rw [<- Ht.out] at HR;go_wp2;exact HR.out
def fieldsTab : List ByteArray :=
 [⟨#[63]⟩, ⟨#[100, 110]⟩, ⟨#[100, 97]⟩, ⟨#[100, 97]⟩, ⟨#[100, 97]⟩] ++ List.replicate 14 ⟨#[100, 97, 98]⟩ ++ List.replicate 14 ⟨#[100, 97, 110]⟩ ++ [⟨#[100, 97, 110]⟩, ⟨#[97, 98, 110]⟩, ⟨#[100, 119]⟩, ⟨#[97, 119]⟩, ⟨#[116]⟩, ⟨#[97, 116]⟩, ⟨#[97, 116]⟩] ++ List.replicate 4 ⟨#[97, 98, 116]⟩ ++ [⟨#[114]⟩, ⟨#[]⟩, ⟨#[100]⟩, ⟨#[97]⟩]
def fieldsOf (op : Int) : ByteArray := if 1 ≤ op ∧ op ≤ 47 then fieldsTab.getD op.toNat ⟨#[63]⟩ else ⟨#[63]⟩
theorem qdu (k : Nat) (h : 5 ≤ k) (h' : k ≤ 18) : fieldsTab.getD k ⟨#[63]⟩ = ⟨#[100, 97, 98]⟩ := by
 have key : ∀ k : Nat, k < 48 -> 5 ≤ k -> k ≤ 18 -> fieldsTab.getD k ⟨#[63]⟩ = ⟨#[100, 97, 98]⟩ := by decide
 exact key k (by omega) h h'
theorem qdv (k : Nat) (h : 19 ≤ k) (h' : k ≤ 32) : fieldsTab.getD k ⟨#[63]⟩ = ⟨#[100, 97, 110]⟩ := by
 have key : ∀ k : Nat, k < 48 -> 19 ≤ k -> k ≤ 32 -> fieldsTab.getD k ⟨#[63]⟩ = ⟨#[100, 97, 110]⟩ := by decide
 exact key k (by omega) h h'
theorem qdw (k : Nat) (h : 40 ≤ k) (h' : k ≤ 43) : fieldsTab.getD k ⟨#[63]⟩ = ⟨#[97, 98, 116]⟩ := by
 have key : ∀ k : Nat, k < 48 -> 40 ≤ k -> k ≤ 43 -> fieldsTab.getD k ⟨#[63]⟩ = ⟨#[97, 98, 116]⟩ := by decide
 exact key k (by omega) h h'
theorem q4l (op : Int) (w : World) (R : Ending -> World -> Prop) (hR : ∀ w', Below w.heap.size w w' -> R (.returned (.string (fieldsOf op))) w') :
 Calls Tryz.prog 17 #[.int .i64 op] w R := by
 by_cases h1 : op < 1
 ·have HR : Hid (∀ w', Below w.heap.size w w' -> R (.returned (.string ⟨#[63]⟩)) w') := by
   rw [show fieldsOf op = ⟨#[63]⟩ from by rw [fieldsOf, if_neg (by omega)]] at hR;exact hR
  clear hR
  go_enter Tryz.func17, Tryz.ntmps17
  go_wp2;exact HR.out _ bl0
 by_cases h2 : 47 < op
 ·have HR : Hid (∀ w', Below w.heap.size w w' -> R (.returned (.string ⟨#[63]⟩)) w') := by
   rw [show fieldsOf op = ⟨#[63]⟩ from by rw [fieldsOf, if_neg (by omega)]] at hR;exact hR
  clear hR;have h3 : 1 ≤ op := by omega
  go_enter Tryz.func17, Tryz.ntmps17
  go_wp2;exact HR.out _ bl0
 obtain ⟨k, rfl⟩ : ∃ k : Nat, op = (k : Int) := ⟨op.toNat, by omega⟩;have he : fieldsOf (k : Int) = fieldsTab.getD k ⟨#[63]⟩ := by rw [fieldsOf, if_pos (by omega)]; rfl
 rw [he] at hR;clear he
 by_cases hc1 : 5 ≤ (k : Int) ∧ (k : Int) ≤ 18
 ·have HR : Hid (∀ w', Below w.heap.size w w' -> R (.returned (.string ⟨#[100, 97, 98]⟩)) w') := by
   rw [qdu k (by omega) (by omega)] at hR;exact hR
  clear hR;have g1 : 5 ≤ (k : Int) := hc1.1;have g2 : (k : Int) ≤ 18 := hc1.2;clear hc1
  go_enter Tryz.func17, Tryz.ntmps17
  go_wp2;exact HR.out _ bl0
 by_cases hc2 : 19 ≤ (k : Int) ∧ (k : Int) ≤ 32
 ·have HR : Hid (∀ w', Below w.heap.size w w' -> R (.returned (.string ⟨#[100, 97, 110]⟩)) w') := by
   rw [qdv k (by omega) (by omega)] at hR;exact hR
  clear hR;have g1 : 19 ≤ (k : Int) := hc2.1;have g2 : (k : Int) ≤ 32 := hc2.2;clear hc2;have q1 : ¬ ((k : Int) ≤ 18) := by omega
  have q4 : 5 ≤ (k : Int) := by omega
  go_enter Tryz.func17, Tryz.ntmps17
  go_wp2;exact HR.out _ bl0
 by_cases hc3 : 40 ≤ (k : Int) ∧ (k : Int) ≤ 43
 ·have HR : Hid (∀ w', Below w.heap.size w w' -> R (.returned (.string ⟨#[97, 98, 116]⟩)) w') := by
   rw [qdw k (by omega) (by omega)] at hR;exact hR
  clear hR;have g1 : 40 ≤ (k : Int) := hc3.1;have g2 : (k : Int) ≤ 43 := hc3.2;clear hc3;have q1 : ¬ ((k : Int) ≤ 18) := by omega
  have q4 : 5 ≤ (k : Int) := by omega
  have q2 : ¬ ((k : Int) ≤ 32) := by omega
  have q5 : 19 ≤ (k : Int) := by omega
  go_enter Tryz.func17, Tryz.ntmps17
  go_wp2;exact HR.out _ bl0
 have hk : k = 1 ∨ k = 2 ∨ k = 3 ∨ k = 4 ∨ k = 33 ∨ k = 34 ∨ k = 35 ∨ k = 36 ∨ k = 37 ∨ k = 38 ∨ k = 39 ∨ k = 44 ∨ k = 45 ∨ k = 46 ∨ k = 47 := by omega
 have hl : ([.string ⟨#[63]⟩, .string ⟨#[100, 110]⟩, .string ⟨#[100, 97]⟩, .string ⟨#[100, 97]⟩, .string ⟨#[100, 97]⟩, .string ⟨#[]⟩, .string ⟨#[]⟩, .string ⟨#[]⟩, .string ⟨#[]⟩, .string ⟨#[]⟩, .string ⟨#[]⟩, .string ⟨#[]⟩, .string ⟨#[]⟩, .string ⟨#[]⟩, .string ⟨#[]⟩, .string ⟨#[]⟩, .string ⟨#[]⟩, .string ⟨#[]⟩, .string ⟨#[]⟩, .string ⟨#[]⟩, .string ⟨#[]⟩, .string ⟨#[]⟩, .string ⟨#[]⟩, .string ⟨#[]⟩, .string ⟨#[]⟩, .string ⟨#[]⟩, .string ⟨#[]⟩, .string ⟨#[]⟩, .string ⟨#[]⟩, .string ⟨#[]⟩, .string ⟨#[]⟩, .string ⟨#[]⟩, .string ⟨#[]⟩, .string ⟨#[100, 97, 110]⟩, .string ⟨#[97, 98, 110]⟩, .string ⟨#[100, 119]⟩, .string ⟨#[97, 119]⟩, .string ⟨#[116]⟩, .string ⟨#[97, 116]⟩, .string ⟨#[97, 116]⟩, .string ⟨#[]⟩, .string ⟨#[]⟩, .string ⟨#[]⟩, .string ⟨#[]⟩, .string ⟨#[114]⟩, .string ⟨#[]⟩, .string ⟨#[100]⟩, .string ⟨#[97]⟩] : List Value)[k]? = some (.string (fieldsTab.getD k ⟨#[63]⟩)) := by
  rcases hk with rfl | rfl | rfl | rfl | rfl | rfl | rfl | rfl | rfl | rfl | rfl | rfl | rfl | rfl | rfl <;> rfl
 have g1 : (k : Int) < 5 ∨ (32 < (k : Int) ∧ (k : Int) < 40) ∨ 43 < (k : Int) := by omega
 have HR := lh hR;have i0 := nnn k;have i1 : (k : Int) < 48 := by omega
 clear hR hc1 hc2 hc3 hk;generalize fieldsTab.getD k ⟨#[63]⟩ = s at *
 rcases g1 with g1 | ⟨g1, g2⟩ | g1
 ·have q1 : ¬ (5 ≤ (k : Int)) := by omega
  have q2 : ¬ (19 ≤ (k : Int)) := by omega
  have q3 : ¬ (40 ≤ (k : Int)) := by omega
  go_enter Tryz.func17, Tryz.ntmps17
  go_wp2;exact HR.out _ bl0
 ·have q1 : ¬ ((k : Int) ≤ 18) := by omega
  have q2 : ¬ ((k : Int) ≤ 32) := by omega
  have q3 : ¬ (40 ≤ (k : Int)) := by omega
  have q4 : 5 ≤ (k : Int) := by omega
  have q5 : 19 ≤ (k : Int) := by omega
  go_enter Tryz.func17, Tryz.ntmps17
  go_wp2;exact HR.out _ bl0
 ·have q1 : ¬ ((k : Int) ≤ 18) := by omega
  have q2 : ¬ ((k : Int) ≤ 32) := by omega
  have q3 : ¬ ((k : Int) ≤ 43) := by omega
  have q4 : 5 ≤ (k : Int) := by omega
  have q5 : 19 ≤ (k : Int) := by omega
  have q6 : 40 ≤ (k : Int) := by omega
  go_enter Tryz.func17, Tryz.ntmps17
  go_wp2;exact HR.out _ bl0
end Go.Proofs.YtdanebboiekieaaGreatDoor
namespace Go.Proofs.YtdanebboiekieaaGreatDoor
open Go.RowKit
end Go.Proofs.YtdanebboiekieaaGreatDoor
namespace Go.Proofs.YtdanebboiekieaaGreatDoor
open Go.RowKit
end Go.Proofs.YtdanebboiekieaaGreatDoor
namespace Go.Proofs.YtdanebboiekieaaGreatDoor
open Go.RowKit
end Go.Proofs.YtdanebboiekieaaGreatDoor
namespace Go.Proofs.YtdanebboiekieaaGreatDoor
open Go.RowKit
end Go.Proofs.YtdanebboiekieaaGreatDoor
namespace Go.Proofs.YtdanebboiekieaaGreatDoor
end Go.Proofs.YtdanebboiekieaaGreatDoor
namespace Go.Proofs.YtdanebboiekieaaGreatDoor
open Go.RowKit
def qh (n : Int) : List Value := [.int .i64 n]
theorem qis : (Tryz.prog.info? 3).map (fun i => (i.zero, i.size, i.bytes)) = some (some (.int .i64 0), 1, 8) := by kernel_rfl
theorem qni (xs : List Int) : ∀ u ∈ xs.flatMap qh, u.oneCell' = true := by
 intro u hu;obtain ⟨m, _, hm⟩ := List.mem_flatMap.1 hu;simp [qh] at hm;subst hm;rfl
theorem q4n {w : World} {B base : Nat} {e : TypeId} {v : Value} {xs : List Int} (h : w.ownsRow base e 1 v xs.length (xs.flatMap qh)) (hB : w.heap.size ≤ B) : rpInt.SL w B xs v :=
 Rp.SL.of_own (r := rpInt) (fun _ _ _ => rfl) (fun _ => rfl) h hB
end Go.Proofs.YtdanebboiekieaaGreatDoor
namespace Go.Proofs.YtdanebboiekieaaGreatDoor
open Go.RowKit
theorem ql1 {w : World} {b : Nat} {X : Obj} (h : w.heap[b]? = some X) : w.drew.heap[b]? = some X := h
theorem qi1 {w : World} {b : Nat} {X : Obj} (h : w.heap[b]? = some X) (n : Nat) : (w.drewN n).heap[b]? = some X := h
theorem qf {w : World} {b : Nat} {X : Obj} (h : w.heap[b]? = some X) (o : Obj) : (w.alloc o).heap[b]? = some X :=
 (Below.heap_alloc w o b (Array.getElem?_eq_some_iff.1 h).1).trans h
theorem qeq {w : World} {b : Nat} {x y : Value} {T : TypeId} (h : w.heap[b]? = some (.cells #[x, y] T (0, 0))) (u : Value) : (w.setCell ⟨b, 0, none⟩ u).heap[b]? = some (.cells #[u, y] T (0, 0)) := by
 rw [q0h h];rfl
theorem qer {w : World} {b : Nat} {x y : Value} {T : TypeId} (h : w.heap[b]? = some (.cells #[x, y] T (0, 0))) (u : Value) : (w.setCell ⟨b, 1, none⟩ u).heap[b]? = some (.cells #[x, u] T (0, 0)) := by
 rw [q0h h];rfl
theorem qi2 {w : World} {b c j : Nat} {X : Obj} (h : w.heap[b]? = some X) (hne : b ≠ c) (u : Value) : (w.setCell ⟨c, j, none⟩ u).heap[b]? = some X :=
 (Below.heap_setCell _ _ _ _ hne).trans h
theorem blkp {P Q : Prop} (h0 : P) (h : P -> Q := by intro hX; repeat (first | with_reducible exact hX | with_reducible refine ql1 ?_ | with_reducible refine qi1 ?_ _ | with_reducible refine qf ?_ _ | with_reducible apply qer | with_reducible apply qeq | with_reducible refine qi2 ?_ (by first | (simp; done) | omega | (simp; omega)) _)) : Q := h h0
theorem qa {w : World} {b : Nat} {X : Obj} (h : w.heap[b]? = some X) : b < w.heap.size := (Array.getElem?_eq_some_iff.1 h).1
theorem qi {w : World} {p : Nat} {u v : Value} {T : TypeId} (h : w.heap[p]? = some (.cells #[u, v] T (0, 0))) : w.cell? ⟨p, 0, none⟩ = some u ∧ w.cell? ⟨p, 1, none⟩ = some v :=
 ⟨(q5e h).1, (q5e h).2.1⟩
end Go.Proofs.YtdanebboiekieaaGreatDoor
namespace Go.Proofs.YtdanebboiekieaaGreatDoor
open Go.RowKit
end Go.Proofs.YtdanebboiekieaaGreatDoor
namespace Go.Proofs.YtdanebboiekieaaGreatDoor
open Go.RowKit
theorem al12 (w : World) (o p : Obj) : RowKit.Hid (((w.alloc o).alloc p).heap[w.heap.size]? = some o) ∧ RowKit.Hid (((w.alloc o).alloc p).heap[w.heap.size + 1]? = some p) := ⟨qf (heap_alloc_new _ _) _, by have h := heap_alloc_new (w.alloc o) p; exact (by simpa using h : ((w.alloc o).alloc p).heap[w.heap.size + 1]? = some p)⟩
theorem bl2 {w : World} {i j : Nat} {X Y : Obj} (o : Obj) (h1 : w.heap[i]? = some X) (h2 : w.heap[j]? = some Y) : RowKit.Hid ((w.alloc o).heap[i]? = some X) ∧ RowKit.Hid ((w.alloc o).heap[j]? = some Y) := ⟨qf h1 o, qf h2 o⟩
theorem bl3 {w : World} {i j k : Nat} {X Y Z : Obj} (o : Obj) (h1 : w.heap[i]? = some X) (h2 : w.heap[j]? = some Y) (h3 : w.heap[k]? = some Z) : RowKit.Hid ((w.alloc o).heap[i]? = some X) ∧ RowKit.Hid ((w.alloc o).heap[j]? = some Y) ∧ RowKit.Hid ((w.alloc o).heap[k]? = some Z) := ⟨qf h1 o, qf h2 o, qf h3 o⟩
theorem bkk {w w' : World} {i : Nat} {o : Obj} (hb : Below w.heap.size w w') (H : RowKit.Hid (w.heap[i]? = some o)) : RowKit.Hid (w'.heap[i]? = some o) := (hb.block _ (qa H.out)).trans H.out
theorem cbl {w : World} {b : Nat} {x y : Value} {T : TypeId} (h : w.heap[b]? = some (.cells #[x, y] T (0, 0))) : w.cell? ⟨b, 0, none⟩ = some x ∧ w.cell? ⟨b, 1, none⟩ = some y ∧ b < w.heap.size := ⟨(qi h).1, (qi h).2, qa h⟩
theorem box2 (w : World) (o p : Obj) {E : Nat} (e : E = w.heap.size) : ∃ W, W = (w.alloc o).alloc p ∧ Below w.heap.size w W ∧ W.heap[E]? = some o ∧ W.heap[E + 1]? = some p := ⟨_, rfl, ((Below.refl _ _).alloc (Nat.le_refl _) o).alloc (by simp) p, by subst e; exact qf (heap_alloc_new _ _) _, by subst e; have := heap_alloc_new (w.alloc o) p; simpa using this⟩
end Go.Proofs.YtdanebboiekieaaGreatDoor
