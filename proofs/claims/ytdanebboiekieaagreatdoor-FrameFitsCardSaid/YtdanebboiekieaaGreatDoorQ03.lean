/- Units: what an Op has (core.Shapes); values and registers (code.checker). code.checker: an instruction. Package mac: what an Op speaks of; what is wrong with a field. slices.Contains, slices.Max at numbers; what is wrong with an instruction. What is wrong with an instruction. mac.Check: what is wrong with a list of instructions. The reader of bytes: its state, its next byte. The document's answer: which fields an Op speaks of. math/bits.Len at what is less than 128. The reader's numbers. The reader's numbers. Which registers an instruction speaks of: pointers to its fields. What bytes tell of registers, as the reader takes them. slices.Clone, at three types. Words for variables of two cells: blocks known whole, behind stores; the results Object and Fault. object.Copy: the same object, in memory of its own. -/
import Derived.Test.YtdanebboiekieaaGreatDoorQ01
import Derived.Test.YtdanebboiekieaaGreatDoorRows
import Derived.IntWalk
import Derived.Outline
import Derived.Test.YtdanebboiekieaaGreatDoorQ02
import Derived.Deep.LoopGhost
import Derived.StillTailTactics
import Derived.Laws.BitsLemmas
import Derived.Laws.Bits64
import Derived.Laws.Bits64b
import Derived.Deep.CutBlock
import Derived.Deep.DeepCutAuto
namespace Go.Proofs.YtdanebboiekieaaGreatDoor
open Go.RowKit
set_option linter.unusedSimpArgs false
set_option linter.unusedVariables false

set_option maxRecDepth 100000 in
set_option maxHeartbeats 1000000 in
theorem shapes_1 (w : World) (R : Ending → World → Prop) (hR : ∀ w', Below w.heap.size w w' → R (.returned (.agg #[.bool true, .bool true, .bool false])) w') :
 Calls Tryz.prog 101 #[.int .i64 1] w R := by
 have HR := Lib.hid hR
 clear hR
 go_enter Tryz.func101, Tryz.ntmps101
 go_wp2
 refine bodyPost_ret (v := .agg #[.bool true, .bool true, .bool false]) (by simp [results, Tryz.results101, go_sem]) rfl ?_
 exact HR.out _ bl0
set_option maxRecDepth 100000 in
set_option maxHeartbeats 1000000 in
theorem shapes_16 (w : World) (R : Ending → World → Prop) (hR : ∀ w', Below w.heap.size w w' → R (.returned (.agg #[.bool true, .bool true, .bool false])) w') :
 Calls Tryz.prog 101 #[.int .i64 16] w R := by
 have HR := Lib.hid hR
 clear hR
 go_enter Tryz.func101, Tryz.ntmps101
 go_wp2
 refine bodyPost_ret (v := .agg #[.bool true, .bool true, .bool false]) (by simp [results, Tryz.results101, go_sem]) rfl ?_
 exact HR.out _ bl0
set_option maxRecDepth 100000 in
set_option maxHeartbeats 1000000 in
theorem shapes_17 (w : World) (R : Ending → World → Prop) (hR : ∀ w', Below w.heap.size w w' → R (.returned (.agg #[.bool true, .bool true, .bool false])) w') :
 Calls Tryz.prog 101 #[.int .i64 17] w R := by
 have HR := Lib.hid hR
 clear hR
 go_enter Tryz.func101, Tryz.ntmps101
 go_wp2
 refine bodyPost_ret (v := .agg #[.bool true, .bool true, .bool false]) (by simp [results, Tryz.results101, go_sem]) rfl ?_
 exact HR.out _ bl0
set_option maxRecDepth 100000 in
set_option maxHeartbeats 1000000 in
theorem shapes_18 (w : World) (R : Ending → World → Prop) (hR : ∀ w', Below w.heap.size w w' → R (.returned (.agg #[.bool true, .bool true, .bool false])) w') :
 Calls Tryz.prog 101 #[.int .i64 18] w R := by
 have HR := Lib.hid hR
 clear hR
 go_enter Tryz.func101, Tryz.ntmps101
 go_wp2
 refine bodyPost_ret (v := .agg #[.bool true, .bool true, .bool false]) (by simp [results, Tryz.results101, go_sem]) rfl ?_
 exact HR.out _ bl0
set_option maxRecDepth 100000 in
set_option maxHeartbeats 1000000 in
theorem shapes_two (op : Int) (w : World) (h : 2 ≤ op ∧ op ≤ 15) (R : Ending → World → Prop) (hR : ∀ w', Below w.heap.size w w' → R (.returned (.agg #[.bool true, .bool true, .bool true])) w') :
 Calls Tryz.prog 101 #[.int .i64 op] w R := by
 have HR := Lib.hid hR
 clear hR
 have a1 : (op == 1) = false := by simp; omega
 have a2 : (op == 16) = false := by simp; omega
 have a3 : (op == 17) = false := by simp; omega
 have a4 : (op == 18) = false := by simp; omega
 obtain ⟨h1, h2⟩ := h
 go_enter Tryz.func101, Tryz.ntmps101
 go_wp2
 refine bodyPost_ret (v := .agg #[.bool true, .bool true, .bool true]) (by simp [results, Tryz.results101, go_sem]) rfl ?_
 exact HR.out _ bl0
set_option maxRecDepth 100000 in
set_option maxHeartbeats 1000000 in
theorem shapes_19 (w : World) (R : Ending → World → Prop) (hR : ∀ w', Below w.heap.size w w' → R (.returned (.agg #[.bool false, .bool true, .bool true])) w') :
 Calls Tryz.prog 101 #[.int .i64 19] w R := by
 have HR := Lib.hid hR
 clear hR
 go_enter Tryz.func101, Tryz.ntmps101
 go_wp2
 refine bodyPost_ret (v := .agg #[.bool false, .bool true, .bool true]) (by simp [results, Tryz.results101, go_sem]) rfl ?_
 exact HR.out _ bl0
set_option maxRecDepth 100000 in
set_option maxHeartbeats 1000000 in
theorem shapes_20 (w : World) (R : Ending → World → Prop) (hR : ∀ w', Below w.heap.size w w' → R (.returned (.agg #[.bool true, .bool false, .bool false])) w') :
 Calls Tryz.prog 101 #[.int .i64 20] w R := by
 have HR := Lib.hid hR
 clear hR
 go_enter Tryz.func101, Tryz.ntmps101
 go_wp2
 refine bodyPost_ret (v := .agg #[.bool true, .bool false, .bool false]) (by simp [results, Tryz.results101, go_sem]) rfl ?_
 exact HR.out _ bl0
set_option maxRecDepth 100000 in
set_option maxHeartbeats 1000000 in
theorem shapes_21 (w : World) (R : Ending → World → Prop) (hR : ∀ w', Below w.heap.size w w' → R (.returned (.agg #[.bool true, .bool false, .bool false])) w') :
 Calls Tryz.prog 101 #[.int .i64 21] w R := by
 have HR := Lib.hid hR
 clear hR
 go_enter Tryz.func101, Tryz.ntmps101
 go_wp2
 refine bodyPost_ret (v := .agg #[.bool true, .bool false, .bool false]) (by simp [results, Tryz.results101, go_sem]) rfl ?_
 exact HR.out _ bl0
set_option maxRecDepth 100000 in
set_option maxHeartbeats 1000000 in
theorem shapes_22 (w : World) (R : Ending → World → Prop) (hR : ∀ w', Below w.heap.size w w' → R (.returned (.agg #[.bool false, .bool true, .bool false])) w') :
 Calls Tryz.prog 101 #[.int .i64 22] w R := by
 have HR := Lib.hid hR
 clear hR
 go_enter Tryz.func101, Tryz.ntmps101
 go_wp2
 refine bodyPost_ret (v := .agg #[.bool false, .bool true, .bool false]) (by simp [results, Tryz.results101, go_sem]) rfl ?_
 exact HR.out _ bl0
set_option maxRecDepth 100000 in
set_option maxHeartbeats 1000000 in
theorem shapes_lo (op : Int) (w : World) (h : op < 1) (R : Ending → World → Prop) (hR : ∀ w', Below w.heap.size w w' → R (.returned (.agg #[.bool false, .bool false, .bool false])) w') :
 Calls Tryz.prog 101 #[.int .i64 op] w R := by
 have HR := Lib.hid hR
 clear hR
 have a1 : (op == 1) = false := by simp; omega
 have a2 : (op == 16) = false := by simp; omega
 have a3 : (op == 17) = false := by simp; omega
 have a4 : (op == 18) = false := by simp; omega
 have a5 : (op == 19) = false := by simp; omega
 have a6 : (op == 20) = false := by simp; omega
 have a7 : (op == 21) = false := by simp; omega
 have a8 : (op == 22) = false := by simp; omega
 have a9 : ¬ 2 ≤ op := by omega
 go_enter Tryz.func101, Tryz.ntmps101
 go_wp2
 refine bodyPost_ret (v := .agg #[.bool false, .bool false, .bool false]) (by simp [results, Tryz.results101, go_sem]) rfl ?_
 exact HR.out _ bl0
set_option maxRecDepth 100000 in
set_option maxHeartbeats 1000000 in
theorem shapes_hi (op : Int) (w : World) (h : 22 < op) (R : Ending → World → Prop) (hR : ∀ w', Below w.heap.size w w' → R (.returned (.agg #[.bool false, .bool false, .bool false])) w') :
 Calls Tryz.prog 101 #[.int .i64 op] w R := by
 have HR := Lib.hid hR
 clear hR
 have a1 : (op == 1) = false := by simp; omega
 have a2 : (op == 16) = false := by simp; omega
 have a3 : (op == 17) = false := by simp; omega
 have a4 : (op == 18) = false := by simp; omega
 have a5 : (op == 19) = false := by simp; omega
 have a6 : (op == 20) = false := by simp; omega
 have a7 : (op == 21) = false := by simp; omega
 have a8 : (op == 22) = false := by simp; omega
 have a9 : 2 ≤ op := by omega
 have a10 : ¬ op ≤ 15 := by omega
 go_enter Tryz.func101, Tryz.ntmps101
 go_wp2
 refine bodyPost_ret (v := .agg #[.bool false, .bool false, .bool false]) (by simp [results, Tryz.results101, go_sem]) rfl ?_
 exact HR.out _ bl0
theorem Shapes_calls (op : Int) (w : World) (R : Ending → World → Prop) (hR : ∀ w', Below w.heap.size w w' → R (.returned (.agg #[.bool (opDst op), .bool (opA op), .bool (opB op)])) w') :
 Calls Tryz.prog 101 #[.int .i64 op] w R := by
 have key : ∀ d a b, opDst op = d → opA op = a → opB op = b → ∀ w', Below w.heap.size w w' → R (.returned (.agg #[.bool d, .bool a, .bool b])) w' := by
  rintro d a b rfl rfl rfl
  exact hR
 by_cases h1 : op = 1
 ·subst h1; exact shapes_1 w R (key _ _ _ (by decide) (by decide) (by decide))
 by_cases h2 : 2 ≤ op ∧ op ≤ 15
 ·exact shapes_two op w h2 R (key _ _ _ (by unfold opDst; simp; omega) (by unfold opA; simp; omega) (by unfold opB; simp; omega))
 by_cases h16 : op = 16
 ·subst h16; exact shapes_16 w R (key _ _ _ (by decide) (by decide) (by decide))
 by_cases h17 : op = 17
 ·subst h17; exact shapes_17 w R (key _ _ _ (by decide) (by decide) (by decide))
 by_cases h18 : op = 18
 ·subst h18; exact shapes_18 w R (key _ _ _ (by decide) (by decide) (by decide))
 by_cases h19 : op = 19
 ·subst h19; exact shapes_19 w R (key _ _ _ (by decide) (by decide) (by decide))
 by_cases h20 : op = 20
 ·subst h20; exact shapes_20 w R (key _ _ _ (by decide) (by decide) (by decide))
 by_cases h21 : op = 21
 ·subst h21; exact shapes_21 w R (key _ _ _ (by decide) (by decide) (by decide))
 by_cases h22 : op = 22
 ·subst h22; exact shapes_22 w R (key _ _ _ (by decide) (by decide) (by decide))
 by_cases h3 : op < 1
 ·exact shapes_lo op w h3 R (key _ _ _ (by unfold opDst; simp; omega) (by unfold opA; simp; omega) (by unfold opB; simp; omega))
 ·exact shapes_hi op w (by omega) R (key _ _ _ (by unfold opDst; simp; omega) (by unfold opA; simp; omega) (by unfold opB; simp; omega))

set_option maxRecDepth 100000 in
set_option maxHeartbeats 1000000 in
theorem val_calls (gA fA bA aA : Option Addr) (gn gc fn fc bn bc' an ac : Nat) (nm : ByteArray) (pr rg : Int) (v : UVal) (hrg : I64 rg) (w : World) (h0 : -9223372036854775807 ≤ rg) (R : Ending → World → Prop) (hR : ∀ w', Below w.heap.size w w' → R (.returned (.int .i64 (valF rg v))) w') :
 Calls Tryz.prog 152 #[(.agg #[.slice gA gn gc, .slice fA fn fc, .string nm, .int .i64 pr, .int .i64 rg, .slice bA bn bc', .slice aA an ac]), .agg #[.bool v.reg, .int .i64 v.n]] w R := by
 obtain ⟨r, n⟩ := v
 obtain ⟨i1, i2⟩ := hrg
 have HR := Lib.hid hR
 clear hR
 cases r
 ·have e : valF rg ⟨false, n⟩ = 0 := by simp [valF]
  rw [e] at HR
  clear e
  go_enter Tryz.func152, Tryz.ntmps152
  go_wp2
  exact HR.out _ bl0
 by_cases hw : 0 ≤ n ∧ n ≤ rg - 1
 ·have e : valF rg ⟨true, n⟩ = 0 := by simp [valF]; omega
  rw [e] at HR
  have hd : decide (0 ≤ n ∧ n ≤ rg - 1) = true := by simpa using hw
  clear e hw
  go_enter Tryz.func152, Tryz.ntmps152
  go_wp2_with (refine Within_calls _ _ _ _ _ ?_; rw [hd])
  exact HR.out _ bl0
 ·have e : valF rg ⟨true, n⟩ = 3 := by simp [valF]; omega
  rw [e] at HR
  have hd : decide (0 ≤ n ∧ n ≤ rg - 1) = false := by simpa using hw
  clear e hw
  go_enter Tryz.func152, Tryz.ntmps152
  go_wp2_with (refine Within_calls _ _ _ _ _ ?_; rw [hd])
  exact HR.out _ bl0

set_option maxRecDepth 100000 in
set_option maxHeartbeats 1000000 in
theorem dst_calls (gA fA bA aA : Option Addr) (gn gc fn fc bn bc' an ac : Nat) (nm : ByteArray) (pr rg : Int) (n : Int) (hrg : I64 rg) (w : World) (h0 : -9223372036854775807 ≤ rg) (R : Ending → World → Prop) (hR : ∀ w', Below w.heap.size w w' → R (.returned (.int .i64 (dstF rg n))) w') :
 Calls Tryz.prog 153 #[(.agg #[.slice gA gn gc, .slice fA fn fc, .string nm, .int .i64 pr, .int .i64 rg, .slice bA bn bc', .slice aA an ac]), .int .i64 n] w R := by
 obtain ⟨i1, i2⟩ := hrg
 have HR := Lib.hid hR
 clear hR
 by_cases hw : 0 ≤ n ∧ n ≤ rg - 1
 ·have e : dstF rg n = 0 := by simp [dstF]; omega
  rw [e] at HR
  have hd : decide (0 ≤ n ∧ n ≤ rg - 1) = true := by simpa using hw
  clear e hw
  go_enter Tryz.func153, Tryz.ntmps153
  go_wp2_with (refine Within_calls _ _ _ _ _ ?_; rw [hd])
  exact HR.out _ bl0
 ·have e : dstF rg n = 3 := by simp [dstF]; omega
  rw [e] at HR
  have hd : decide (0 ≤ n ∧ n ≤ rg - 1) = false := by simpa using hw
  clear e hw
  go_enter Tryz.func153, Tryz.ntmps153
  go_wp2_with (refine Within_calls _ _ _ _ _ ?_; rw [hd])
  exact HR.out _ bl0
end Go.Proofs.YtdanebboiekieaaGreatDoor
namespace Go.Proofs.YtdanebboiekieaaGreatDoor
open Go.RowKit
set_option linter.unusedSimpArgs false
set_option linter.unusedVariables false

theorem valsF_take {regs : Int} {l : List UVal} {k : Nat} (h : k < l.length) (h0 : valsF regs (l.take k) = 0) (hv : valF regs l[k] = 0) : valsF regs (l.take (k + 1)) = 0 := by
 unfold valsF at *
 rw [List.map_take] at *
 exact fst0_snoc (by rw [List.getElem?_map, List.getElem?_eq_getElem h]; rfl) hv h0
theorem valsF_at {regs : Int} {l : List UVal} {k : Nat} (h : k < l.length) (h0 : valsF regs (l.take k) = 0) (hv : valF regs l[k] ≠ 0) : valsF regs l = valF regs l[k] := by
 unfold valsF at *
 rw [List.map_take] at h0
 exact fst0_at (by rw [List.getElem?_map, List.getElem?_eq_getElem h]; rfl) hv h0
/-- The checker's variable; an instruction's. -/
theorem ckr_cells {w : World} {b : Nat} {v0 v1 v2 v3 v4 v5 v6 : Value} {T : TypeId} (h : w.heap[b]? = some (.cells #[v0, v1, v2, v3, v4, v5, v6] T (0, 0))) :
 w.cell? ⟨b, 0, none⟩ = some v0 ∧ w.cell? ⟨b, 1, none⟩ = some v1 ∧ w.cell? ⟨b, 2, none⟩ = some v2 ∧ w.cell? ⟨b, 3, none⟩ = some v3 ∧ w.cell? ⟨b, 4, none⟩ = some v4 ∧ w.cell? ⟨b, 5, none⟩ = some v5 ∧ w.cell? ⟨b, 6, none⟩ = some v6 := by
 refine ⟨?_, ?_, ?_, ?_, ?_, ?_, ?_⟩ <;> (rw [blk_cells h]; rfl)
theorem ins_cells {w : World} {b : Nat} {v0 v1 v2 v3 v4 v5 v6 v7 : Value} {T : TypeId} (h : w.heap[b]? = some (.cells #[v0, v1, v2, v3, v4, v5, v6, v7] T (0, 0))) :
 w.cell? ⟨b, 0, none⟩ = some v0 ∧ w.cell? ⟨b, 1, none⟩ = some v1 ∧ w.cell? ⟨b, 2, none⟩ = some v2 ∧ w.cell? ⟨b, 3, none⟩ = some v3 ∧ w.cell? ⟨b, 4, none⟩ = some v4 ∧ w.cell? ⟨b, 5, none⟩ = some v5 ∧ w.cell? ⟨b, 6, none⟩ = some v6 ∧ w.cell? ⟨b, 7, none⟩ = some v7 := by
 refine ⟨?_, ?_, ?_, ?_, ?_, ?_, ?_, ?_⟩ <;> (rw [blk_cells h]; rfl)
set_option maxRecDepth 100000 in
set_option maxHeartbeats 1000000 in
theorem ins1_calls (gA fA bA aA : Option Addr) (gn gc fn fc bn bc' an ac : Nat) (nm : ByteArray) (pr rg : Int) (x : UIns) (vargs : Value) (hrg : I64 rg) (h0 : -9223372036854775807 ≤ rg) (bc bx : Nat) (Tc Tx : TypeId) (w : World) (hc : w.heap[bc]? = some (.cells #[.slice gA gn gc, .slice fA fn fc, .string nm, .int .i64 pr, .int .i64 rg, .slice bA bn bc', .slice aA an ac] Tc (0, 0)))
 (hx : w.heap[bx]? = some (.cells #[.int .i64 x.op, .int .i64 x.dst, .bool x.a.reg, .int .i64 x.a.n, .bool x.b.reg, .int .i64 x.b.n, .int .i64 x.fn, vargs] Tx (0, 0))) (R : Ending → World → Prop) (hR : ∀ w', Below w.heap.size w w' → R (.returned (.int .i64 (valF rg x.a))) w') :
 Calls Tryz.prog 155 #[.pointer (some ⟨bc, 0, none⟩), .pointer (some ⟨bx, 0, none⟩)] w R := by
 obtain ⟨c0, c1, c2, c3, c4, c5, c6⟩ := ckr_cells hc
 obtain ⟨x0, x1, x2, x3, x4, x5, x6, x7⟩ := ins_cells hx
 have lc := (Array.getElem?_eq_some_iff.1 hc).1
 have lx := (Array.getElem?_eq_some_iff.1 hx).1
 have HR := Lib.hid hR
 clear hR hc hx
 go_enter Tryz.func155, Tryz.ntmps155
 go_wp2_with fail
 refine val_calls gA fA bA aA gn gc fn fc bn bc' an ac nm pr rg x.a hrg _ h0 _ ?_
 intro w1 hb1
 have Hfin := Lib.hid (HR.out w1 (by exact hb1))
 clear hb1
 go_wp2
 exact Hfin.out
set_option maxRecDepth 100000 in
set_option maxHeartbeats 1000000 in
theorem ins2_calls (gA fA bA aA : Option Addr) (gn gc fn fc bn bc' an ac : Nat) (nm : ByteArray) (pr rg : Int) (x : UIns) (vargs : Value) (hrg : I64 rg) (h0 : -9223372036854775807 ≤ rg) (bc bx : Nat) (Tc Tx : TypeId) (w : World) (hc : w.heap[bc]? = some (.cells #[.slice gA gn gc, .slice fA fn fc, .string nm, .int .i64 pr, .int .i64 rg, .slice bA bn bc', .slice aA an ac] Tc (0, 0)))
 (hx : w.heap[bx]? = some (.cells #[.int .i64 x.op, .int .i64 x.dst, .bool x.a.reg, .int .i64 x.a.n, .bool x.b.reg, .int .i64 x.b.n, .int .i64 x.fn, vargs] Tx (0, 0))) (R : Ending → World → Prop) (hR : ∀ w', Below w.heap.size w w' → R (.returned (.int .i64 (valF rg x.b))) w') :
 Calls Tryz.prog 156 #[.pointer (some ⟨bc, 0, none⟩), .pointer (some ⟨bx, 0, none⟩)] w R := by
 obtain ⟨c0, c1, c2, c3, c4, c5, c6⟩ := ckr_cells hc
 obtain ⟨x0, x1, x2, x3, x4, x5, x6, x7⟩ := ins_cells hx
 have lc := (Array.getElem?_eq_some_iff.1 hc).1
 have lx := (Array.getElem?_eq_some_iff.1 hx).1
 have HR := Lib.hid hR
 clear hR hc hx
 go_enter Tryz.func156, Tryz.ntmps156
 go_wp2_with fail
 refine val_calls gA fA bA aA gn gc fn fc bn bc' an ac nm pr rg x.b hrg _ h0 _ ?_
 intro w1 hb1
 have Hfin := Lib.hid (HR.out w1 (by exact hb1))
 clear hb1
 go_wp2
 exact Hfin.out
set_option maxRecDepth 100000 in
set_option maxHeartbeats 2000000 in
theorem ins3_calls (gA fA bA aA : Option Addr) (gn gc fn fc bn bc' an ac : Nat) (nm : ByteArray) (pr rg : Int) (u : Unt) (x : UIns) (vargs : Value) (hrg : I64 rg) (h0 : -9223372036854775807 ≤ rg) (bl bc bx : Nat) (Tl Tc Tx : TypeId) (w : World)
 (hl : w.heap[bl]? = some (.cells #[.bool (decide (x.op = 20))] Tl (0, 0)))
 (hc : w.heap[bc]? = some (.cells #[.slice gA gn gc, .slice fA fn fc, .string nm, .int .i64 pr, .int .i64 rg, .slice bA bn bc', .slice aA an ac] Tc (0, 0)))
 (hx : w.heap[bx]? = some (.cells #[.int .i64 x.op, .int .i64 x.dst, .bool x.a.reg, .int .i64 x.a.n, .bool x.b.reg, .int .i64 x.b.n, .int .i64 x.fn, vargs] Tx (0, 0)))
 (hf : rpFun.SL w w.heap.size u.funcs (.slice fA fn fc)) (ha : rpVal.SL w w.heap.size x.args vargs)
 (R : Ending → World → Prop) (hR : ∀ w', Below w.heap.size w w' → R (.returned (.int .i64 (callF u rg x))) w') :
 Calls Tryz.prog 157 #[.pointer (some ⟨bl, 0, none⟩), .pointer (some ⟨bx, 0, none⟩), .pointer (some ⟨bc, 0, none⟩)] w R := by
 obtain ⟨c0, c1, c2, c3, c4, c5, c6⟩ := ckr_cells hc
 obtain ⟨x0, x1, x2, x3, x4, x5, x6, x7⟩ := ins_cells hx
 have l0 : w.cell? ⟨bl, 0, none⟩ = some (.bool (decide (x.op = 20))) := by rw [blk_cells hl]; rfl
 have lc := (Array.getElem?_eq_some_iff.1 hc).1
 have lx := (Array.getElem?_eq_some_iff.1 hx).1
 have ll := (Array.getElem?_eq_some_iff.1 hl).1
 have HR := Lib.hid hR
 have Hc := Lib.hid hc
 clear hR hx hl hc
 by_cases hop : ¬ x.op = 20
 ·rw [decide_eq_false hop] at l0
  have e : callF u rg x = 0 := by unfold callF; rw [if_pos hop]
  rw [e] at HR
  clear e hop
  go_enter Tryz.func157, Tryz.ntmps157
  go_wp2
  exact HR.out _ bl0
 have hop := Decidable.of_not_not hop
 rw [decide_eq_true hop] at l0
 obtain ⟨A, c, rfl, _, _, ha⟩ := ha.cases_
 have hfn := hf.len
 have hfm := hf.max
 unfold maxLen at hfm
 subst hfn
 by_cases hr : ¬ (0 ≤ x.fn ∧ x.fn ≤ (u.funcs.length : Int) - 1)
 ·have e : callF u rg x = 3 := by unfold callF; rw [if_neg (by omega), if_pos hr]
  rw [e] at HR
  have hd : decide (0 ≤ x.fn ∧ x.fn ≤ (u.funcs.length : Int) - 1) = false := by simpa using hr
  clear e hop hr
  go_enter Tryz.func157, Tryz.ntmps157
  go_wp2_with (refine Within_calls _ _ _ _ _ ?_; rw [hd])
  exact HR.out _ bl0
 have hr := Decidable.of_not_not hr
 have hd : decide (0 ≤ x.fn ∧ x.fn ≤ (u.funcs.length : Int) - 1) = true := by simpa using hr
 have hk : x.fn.toNat < u.funcs.length := by omega
 obtain ⟨b, off, v, rfl, hb, hbs, q0, q1, q2, q3⟩ := hf.fun_at hk
 have ek : (x.fn.toNat : Int) = x.fn := by omega
 have ef : u.funcs[x.fn.toNat]? = some u.funcs[x.fn.toNat] := List.getElem?_eq_getElem hk
 have r1 : 0 ≤ x.fn := hr.1
 have r2 : x.fn < (u.funcs.length : Int) := by omega
 by_cases hp : ¬ (x.args.length : Int) = u.funcs[x.fn.toNat].params
 ·have e : callF u rg x = 9 := by
   unfold callF
   rw [if_neg (by omega), if_neg (by omega)]
   simp only [ef]
   rw [if_pos hp]
  rw [e] at HR
  have hpb : ((x.args.length : Int) != u.funcs[x.fn.toNat].params) = true := by simpa using hp
  clear e hop hr ef
  go_enter Tryz.func157, Tryz.ntmps157
  go_wp2_with (refine Within_calls _ _ _ _ _ ?_; rw [hd])
  go_quiet (fail)
  go_wp2
  exact HR.out _ bl0
 have hp := Decidable.of_not_not hp
 have e : callF u rg x = valsF rg x.args := by
  unfold callF
  rw [if_neg (by omega), if_neg (by omega)]
  simp only [ef]
  rw [if_neg (by omega)]
 rw [e] at HR
 have hpb : ((x.args.length : Int) != u.funcs[x.fn.toNat].params) = false := by simpa using hp
 have Ha := Lib.hid ha
 clear e hop hr ef ha
 go_enter Tryz.func157, Tryz.ntmps157
 go_wp2_with (refine Within_calls _ _ _ _ _ ?_; rw [hd])
 go_quiet (fail)
 go_wp2
 have hbel0 : Below w.heap.size w w := Below.refl _ _
 go_loopg [5, 6, 36] x.args.length (fun gh s5 s6 s36 wr => ∃ k : Nat, k ≤ x.args.length ∧ gh = x.args.length - k ∧ s36 = .int .i64 (k : Int) ∧ valsF rg (x.args.take k) = 0 ∧ Below w.heap.size w wr)
 case atStart => exact ⟨0, Nat.zero_le _, rfl, rfl, rfl, bl0⟩
 case round =>
  obtain ⟨k, hk, rfl, rfl, hz, hbel⟩ := hrel
  have Hz := Lib.hid hz
  have Hbel := Lib.hid hbel
  have hsz := hbel.size
  clear hz hbel
  by_cases hlt : k < x.args.length
  ·obtain ⟨ba, oa, rfl, hba, a0, a1⟩ := Ha.out.val_at hlt
   have k1 : (0 : Int) ≤ (k : Int) := Int.natCast_nonneg _
   have k2 : (k : Int) < (x.args.length : Int) := by omega
   have a0' := (Hbel.out.cell (p := ⟨ba, oa + k * 2, none⟩) hba).trans a0
   have a1' := (Hbel.out.cell (p := ⟨ba, oa + k * 2 + 1, none⟩) hba).trans a1
   have lba : ba < wr.heap.size := by omega
   obtain ⟨m0, m1, m2, m3, m4, m5, m6⟩ := ckr_cells ((Hbel.out.block _ lc).trans Hc.out)
   have lcr : bc < wr.heap.size := by omega
   have Hyes : Hid (valF rg x.args[k] = 0 → valsF rg (x.args.take (k + 1)) = 0) := Lib.hid fun h => valsF_take hlt Hz.out h
   have Hno : Hid (valF rg x.args[k] ≠ 0 → valsF rg x.args = valF rg x.args[k]) := Lib.hid fun h => valsF_at hlt Hz.out h
   generalize x.args[k] = a at *
   clear c0 c1 c2 c3 c4 c5 c6 x0 x1 x2 x3 x4 x5 x6 x7 l0 q0 q1 q2 q3
   go_wp2_with fail
   refine val_calls _ (some ⟨b, off, none⟩) bA aA gn gc _ fc bn bc' an ac nm pr rg a hrg _ h0 _ ?_
   intro w1 hb1
   have Hb1 := Lib.hid (Hbel.out.trans ((by exact bl0 : Below wr.heap.size wr (wr.alloc (Obj.cells #[.bool a.reg, .int .i64 a.n] 64))).trans (hb1.mono (by simp)) |>.mono hsz))
   clear hb1
   by_cases hv : valF rg a = 0
   ·have hvb : (valF rg a != 0) = false := by simp [hv]
    have hy := Lib.hid (Hyes.out hv)
    clear Hyes Hno
    go_wp2
    go_roundg (x.args.length - (k + 1))
    case measure => omega
    case rel => exact ⟨k + 1, by omega, rfl, by go_num, hy.out, Hb1.out⟩
   ·have hvb : (valF rg a != 0) = true := by simp [hv]
    have hy := Lib.hid (Hno.out hv)
    have Hfin := Lib.hid (HR.out _ Hb1.out)
    rw [hy.out] at Hfin
    clear Hyes Hno
    go_wp2
    exact Hfin.out
  ·obtain rfl : k = x.args.length := by omega
   have k2 : ¬ ((x.args.length : Int) < (x.args.length : Int)) := by omega
   have Hfin := Lib.hid (HR.out _ Hbel.out)
   rw [show valsF rg x.args = 0 from by have := Hz.out; rwa [List.take_length] at this] at Hfin
   go_wp2
   exact Hfin.out
set_option maxRecDepth 100000 in
set_option maxHeartbeats 2000000 in
theorem first_calls (b bl bc bx : Nat) (e1 e2 e3 : Int) (w : World) (lb : b < w.heap.size)
 (g1 : w.cell? ⟨b, 0, none⟩ = some (.func (.func 155) #[] #[.pointer (some ⟨bc, 0, none⟩), .pointer (some ⟨bx, 0, none⟩)]))
 (g2 : w.cell? ⟨b, 1, none⟩ = some (.func (.func 156) #[] #[.pointer (some ⟨bc, 0, none⟩), .pointer (some ⟨bx, 0, none⟩)]))
 (g3 : w.cell? ⟨b, 2, none⟩ = some (.func (.func 157) #[] #[.pointer (some ⟨bl, 0, none⟩), .pointer (some ⟨bx, 0, none⟩), .pointer (some ⟨bc, 0, none⟩)]))
 (q1 : ∀ w1, Below w.heap.size w w1 → ∀ R : Ending → World → Prop, (∀ w2, Below w1.heap.size w1 w2 → R (.returned (.int .i64 e1)) w2) → Calls Tryz.prog 155 #[.pointer (some ⟨bc, 0, none⟩), .pointer (some ⟨bx, 0, none⟩)] w1 R)
 (q2 : ∀ w1, Below w.heap.size w w1 → ∀ R : Ending → World → Prop, (∀ w2, Below w1.heap.size w1 w2 → R (.returned (.int .i64 e2)) w2) → Calls Tryz.prog 156 #[.pointer (some ⟨bc, 0, none⟩), .pointer (some ⟨bx, 0, none⟩)] w1 R)
 (q3 : ∀ w1, Below w.heap.size w w1 → ∀ R : Ending → World → Prop, (∀ w2, Below w1.heap.size w1 w2 → R (.returned (.int .i64 e3)) w2) → Calls Tryz.prog 157 #[.pointer (some ⟨bl, 0, none⟩), .pointer (some ⟨bx, 0, none⟩), .pointer (some ⟨bc, 0, none⟩)] w1 R)
 (R : Ending → World → Prop) (hR : ∀ w', Below w.heap.size w w' → R (.returned (.int .i64 (fst0 [e1, e2, e3]))) w') :
 Calls Tryz.prog 154 #[.slice (some ⟨b, 0, none⟩) 3 3] w R := by
 have HR := Lib.hid hR
 have Q1 := Lib.hid q1
 have Q2 := Lib.hid q2
 have Q3 := Lib.hid q3
 have G1 := Lib.hid g1
 have G2 := Lib.hid g2
 have G3 := Lib.hid g3
 clear hR q1 q2 q3 g1 g2 g3
 go_enter Tryz.func154, Tryz.ntmps154
 go_wp2
 go_loopg [4, 5, 8] 3 (fun gh s4 s5 s8 wr => ∃ k : Nat, k ≤ 3 ∧ gh = 3 - k ∧ s8 = .int .i64 (k : Int) ∧ (0 < k → e1 = 0) ∧ (1 < k → e2 = 0) ∧ (2 < k → e3 = 0) ∧ Below w.heap.size w wr)
 case atStart => exact ⟨0, Nat.zero_le _, rfl, rfl, by omega, by omega, by omega, Below.refl _ _⟩
 case round =>
  obtain ⟨k, hk, rfl, rfl, z1, z2, z3, hbel⟩ := hrel
  have Hbel := Lib.hid hbel
  have hsz := hbel.size
  have lbr : b < wr.heap.size := by omega
  have Z1 := Lib.hid z1
  have Z2 := Lib.hid z2
  have Z3 := Lib.hid z3
  clear hbel z1 z2 z3
  rcases (by omega : k = 0 ∨ k = 1 ∨ k = 2 ∨ k = 3) with rfl | rfl | rfl | rfl
  ·have g := (Hbel.out.cell (p := ⟨b, 0, none⟩) lb).trans G1.out
   go_wp2_with fail
   refine Q1.out wr Hbel.out _ (fun w1 hb1 => ?_)
   have Hb1 := Lib.hid (Hbel.out.trans (hb1.mono hsz))
   clear hb1 g
   by_cases hv : e1 = 0
   ·have hvb : (e1 != 0) = false := by simp [hv]
    go_wp2
    go_roundg 2
    case measure => omega
    case rel => exact ⟨1, by omega, rfl, by go_num, fun _ => hv, by omega, by omega, Hb1.out⟩
   ·have hvb : (e1 != 0) = true := by simp [hv]
    have Hfin := Lib.hid (HR.out _ Hb1.out)
    rw [show fst0 [e1, e2, e3] = e1 from by simp [fst0, hv]] at Hfin
    go_wp2
    exact Hfin.out
  ·have g := (Hbel.out.cell (p := ⟨b, 1, none⟩) lb).trans G2.out
   go_wp2_with fail
   refine Q2.out wr Hbel.out _ (fun w1 hb1 => ?_)
   have Hb1 := Lib.hid (Hbel.out.trans (hb1.mono hsz))
   clear hb1 g
   by_cases hv : e2 = 0
   ·have hvb : (e2 != 0) = false := by simp [hv]
    go_wp2
    go_roundg 1
    case measure => omega
    case rel => exact ⟨2, by omega, rfl, by go_num, fun _ => Z1.out (by omega), fun _ => hv, by omega, Hb1.out⟩
   ·have hvb : (e2 != 0) = true := by simp [hv]
    have Hfin := Lib.hid (HR.out _ Hb1.out)
    rw [show fst0 [e1, e2, e3] = e2 from by simp [fst0, hv, Z1.out (by omega)]] at Hfin
    go_wp2
    exact Hfin.out
  ·have g := (Hbel.out.cell (p := ⟨b, 2, none⟩) lb).trans G3.out
   go_wp2_with fail
   refine Q3.out wr Hbel.out _ (fun w1 hb1 => ?_)
   have Hb1 := Lib.hid (Hbel.out.trans (hb1.mono hsz))
   clear hb1 g
   by_cases hv : e3 = 0
   ·have hvb : (e3 != 0) = false := by simp [hv]
    go_wp2
    go_roundg 0
    case measure => omega
    case rel => exact ⟨3, by omega, rfl, by go_num, fun _ => Z1.out (by omega), fun _ => Z2.out (by omega), fun _ => hv, Hb1.out⟩
   ·have hvb : (e3 != 0) = true := by simp [hv]
    have Hfin := Lib.hid (HR.out _ Hb1.out)
    rw [show fst0 [e1, e2, e3] = e3 from by simp [fst0, hv, Z1.out (by omega), Z2.out (by omega)]] at Hfin
    go_wp2
    exact Hfin.out
  ·have Hfin := Lib.hid (HR.out _ Hbel.out)
   rw [show fst0 [e1, e2, e3] = 0 from by simp [fst0, Z1.out (by omega), Z2.out (by omega), Z3.out (by omega)]] at Hfin
   go_wp2
   exact Hfin.out
end Go.Proofs.YtdanebboiekieaaGreatDoor
/- Package mac: what an Op speaks of; what is wrong with a field. -/
namespace Go.Proofs.YtdanebboiekieaaGreatDoor
open Go.RowKit
set_option linter.unusedSimpArgs false
set_option linter.unusedVariables false

end Go.Proofs.YtdanebboiekieaaGreatDoor

/- slices.Contains, slices.Max at numbers; what is wrong with an instruction. -/
namespace Go.Proofs.YtdanebboiekieaaGreatDoor
open Go.RowKit
set_option linter.unusedSimpArgs false
set_option linter.unusedVariables false

end Go.Proofs.YtdanebboiekieaaGreatDoor

/- What is wrong with an instruction. -/
namespace Go.Proofs.YtdanebboiekieaaGreatDoor
open Go.RowKit
set_option linter.unusedSimpArgs false
set_option linter.unusedVariables false

end Go.Proofs.YtdanebboiekieaaGreatDoor

/- mac.Check: what is wrong with a list of instructions. -/
namespace Go.Proofs.YtdanebboiekieaaGreatDoor
open Go.RowKit
set_option linter.unusedSimpArgs false
set_option linter.unusedVariables false

end Go.Proofs.YtdanebboiekieaaGreatDoor
/- The reader of bytes: its state, its next byte. -/
namespace Go.Proofs.YtdanebboiekieaaGreatDoor
open Go.RowKit
set_option linter.unusedSimpArgs false
set_option linter.unusedVariables false

theorem cells_of_block {w : World} {p : Nat} {u v : Value} {T : TypeId} (h : w.heap[p]? = some (.cells #[u, v] T (0, 0))) : w.cell? ⟨p, 0, none⟩ = some u ∧ w.cell? ⟨p, 1, none⟩ = some v ∧ w.frozen? ⟨p, 0, none⟩ = false ∧ w.frozen? ⟨p, 1, none⟩ = false := by
 refine ⟨?_, ?_, ?_, ?_⟩ <;> simp [World.cell?, World.frozen?, h]
end Go.Proofs.YtdanebboiekieaaGreatDoor

/- The document's answer: which fields an Op speaks of. -/
namespace Go.Proofs.YtdanebboiekieaaGreatDoor
open Go.RowKit
set_option linter.unusedSimpArgs false
set_option linter.unusedVariables false

theorem byte_get {s : ByteArray} {k : Nat} (h : k < s.size) : s[k] = s.get! k := by
 show s.data[k] = s.data[k]!
 rw [getElem!_pos s.data k h]
end Go.Proofs.YtdanebboiekieaaGreatDoor

/- math/bits.Len at what is less than 128. -/
namespace Go.Proofs.YtdanebboiekieaaGreatDoor
open Go.RowKit
set_option linter.unusedSimpArgs false
set_option linter.unusedVariables false

end Go.Proofs.YtdanebboiekieaaGreatDoor

/- The reader's numbers. -/
namespace Go.Proofs.YtdanebboiekieaaGreatDoor
open Go.RowKit
set_option linter.unusedSimpArgs false
set_option linter.unusedVariables false

end Go.Proofs.YtdanebboiekieaaGreatDoor

/- The reader's numbers. -/
namespace Go.Proofs.YtdanebboiekieaaGreatDoor
open Go.RowKit
set_option linter.unusedSimpArgs false
set_option linter.unusedVariables false

end Go.Proofs.YtdanebboiekieaaGreatDoor

/- Which registers an instruction speaks of: pointers to its fields. -/
namespace Go.Proofs.YtdanebboiekieaaGreatDoor
open Go.RowKit
set_option linter.unusedSimpArgs false
set_option linter.unusedVariables false

end Go.Proofs.YtdanebboiekieaaGreatDoor

/- What bytes tell of registers, as the reader takes them. -/
namespace Go.Proofs.YtdanebboiekieaaGreatDoor
set_option linter.unusedSimpArgs false
set_option linter.unusedVariables false

end Go.Proofs.YtdanebboiekieaaGreatDoor
/- slices.Clone, at three types. -/
namespace Go.Proofs.YtdanebboiekieaaGreatDoor
open Go.RowKit
set_option linter.unusedSimpArgs false
set_option linter.unusedVariables false

def intCells (n : Int) : List Value := [.int .i64 n]
theorem info_int3 : (Tryz.prog.info? 3).map (fun i => (i.zero, i.size, i.bytes)) = some (some (.int .i64 0), 1, 8) := by kernel_rfl
theorem one_int (xs : List Int) : ∀ u ∈ xs.flatMap intCells, u.oneCell' = true := by
 intro u hu
 obtain ⟨m, _, hm⟩ := List.mem_flatMap.1 hu
 simp [intCells] at hm
 subst hm
 rfl
theorem SLint_own {w : World} {B base : Nat} {e : TypeId} {v : Value} {xs : List Int} (h : w.ownsRow base e 1 v xs.length (xs.flatMap intCells)) (hB : w.heap.size ≤ B) : rpInt.SL w B xs v :=
 Rp.SL.of_own (r := rpInt) (fun _ _ _ => rfl) (fun _ => rfl) h hB
end Go.Proofs.YtdanebboiekieaaGreatDoor

/- Words for variables of two cells: blocks known whole, behind stores; the results Object and Fault. -/
namespace Go.Proofs.YtdanebboiekieaaGreatDoor
open Go.RowKit
set_option linter.unusedSimpArgs false
set_option linter.unusedVariables false

theorem blk_drew {w : World} {b : Nat} {X : Obj} (h : w.heap[b]? = some X) : w.drew.heap[b]? = some X := h
theorem blk_drewN {w : World} {b : Nat} {X : Obj} (h : w.heap[b]? = some X) (n : Nat) : (w.drewN n).heap[b]? = some X := h
theorem blk_alloc {w : World} {b : Nat} {X : Obj} (h : w.heap[b]? = some X) (o : Obj) : (w.alloc o).heap[b]? = some X :=
 (Below.heap_alloc w o b (Array.getElem?_eq_some_iff.1 h).1).trans h
theorem blk_set0 {w : World} {b : Nat} {x y : Value} {T : TypeId} (h : w.heap[b]? = some (.cells #[x, y] T (0, 0))) (u : Value) : (w.setCell ⟨b, 0, none⟩ u).heap[b]? = some (.cells #[u, y] T (0, 0)) := by
 rw [block_set h]
 rfl
theorem blk_set1 {w : World} {b : Nat} {x y : Value} {T : TypeId} (h : w.heap[b]? = some (.cells #[x, y] T (0, 0))) (u : Value) : (w.setCell ⟨b, 1, none⟩ u).heap[b]? = some (.cells #[x, u] T (0, 0)) := by
 rw [block_set h]
 rfl
theorem blk_other {w : World} {b c j : Nat} {X : Obj} (h : w.heap[b]? = some X) (hne : b ≠ c) (u : Value) : (w.setCell ⟨c, j, none⟩ u).heap[b]? = some X :=
 (Below.heap_setCell _ _ _ _ hne).trans h
theorem blkp {P Q : Prop} (h0 : P) (h : P → Q := by intro hX; repeat (first | with_reducible exact hX | with_reducible refine blk_drew ?_ | with_reducible refine blk_drewN ?_ _ | with_reducible refine blk_alloc ?_ _ | with_reducible apply blk_set1 | with_reducible apply blk_set0 | with_reducible refine blk_other ?_ (by first | (simp; done) | omega | (simp; omega)) _)) : Q := h h0
theorem blk_lt {w : World} {b : Nat} {X : Obj} (h : w.heap[b]? = some X) : b < w.heap.size := (Array.getElem?_eq_some_iff.1 h).1
theorem cells_blk {w : World} {p : Nat} {u v : Value} {T : TypeId} (h : w.heap[p]? = some (.cells #[u, v] T (0, 0))) : w.cell? ⟨p, 0, none⟩ = some u ∧ w.cell? ⟨p, 1, none⟩ = some v :=
 ⟨(cells_of_block h).1, (cells_of_block h).2.1⟩
end Go.Proofs.YtdanebboiekieaaGreatDoor

/- object.Copy: the same object, in memory of its own. -/
namespace Go.Proofs.YtdanebboiekieaaGreatDoor
open Go.RowKit
set_option linter.unusedSimpArgs false
set_option linter.unusedVariables false

end Go.Proofs.YtdanebboiekieaaGreatDoor
