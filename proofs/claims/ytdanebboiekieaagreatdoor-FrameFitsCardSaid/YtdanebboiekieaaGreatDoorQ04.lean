/- code.checker.ins; printed by genun3.py. -/
import Derived.Test.YtdanebboiekieaaGreatDoorQ01
import Derived.Test.YtdanebboiekieaaGreatDoorRows
import Derived.IntWalk
import Derived.Outline
import Derived.Deep.QuietTactic
import Derived.Test.YtdanebboiekieaaGreatDoorQ03
namespace Go.Proofs.YtdanebboiekieaaGreatDoor
open Go.RowKit
set_option linter.unusedSimpArgs false
set_option linter.unusedVariables false

theorem neq_Val (r s : Bool) (n m : Int) (w : World) : (binOp .neq 64 (.agg #[.bool r, .int .i64 n]) (.agg #[.bool s, .int .i64 m])).run Tryz.prog w = .ok (.bool (!decide (r = s ∧ n = m))) w := by
 have hp : Tryz.prog.stoodInHeld 64 = false := by kernel_rfl
 have ht : Tryz.prog.underlying 64 = some (.struct (Tryz.prog.fieldsOf 64)) := by kernel_rfl
 rw [run_neq_struct, run_equalIn_agg _ _ _ _ _ ht hp]
 have h3 := Tryz.underlying3
 have h4 := Tryz.underlying4
 simp [Tryz.underlying64, go_sem, h3, h4]
 by_cases h2 : n = m <;> cases r <;> cases s <;> simp [h2]
theorem isZ_eq (v : UVal) : decide (v.reg = false ∧ v.n = 0) = isZ v := by
 unfold isZ
 cases v.reg <;> simp
set_option maxRecDepth 100000 in
set_option maxHeartbeats 8000000 in
theorem ins_copy (gA fA bA aA : Option Addr) (gn gc fn fc bn bc' an ac : Nat) (nm : ByteArray) (pr rg : Int) (u : Unt) (x : UIns) (A : Option Addr) (c : Nat) (hrg : I64 rg) (h0 : -9223372036854775807 ≤ rg) (w : World)
 (hf : rpFun.SL w w.heap.size u.funcs (.slice fA fn fc)) (ha : rpVal.SL w w.heap.size x.args (.slice A x.args.length c)) (hop : 1 ≤ x.op ∧ x.op ≤ 22)
 (hD : opDst x.op = true) (hA : opA x.op = true) (hB : opB x.op = false) (hc : decide (x.op = 20) = false)
 (R : Ending → World → Prop) (hR : ∀ w', Below w.heap.size w w' → R (.returned (.int .i64 (insF u rg x))) w') :
 Calls Tryz.prog 138 #[(.agg #[.slice gA gn gc, .slice fA fn fc, .string nm, .int .i64 pr, .int .i64 rg, .slice bA bn bc', .slice aA an ac]), .agg #[.int .i64 x.op, .int .i64 x.dst, .bool x.a.reg, .int .i64 x.a.n, .bool x.b.reg, .int .i64 x.b.n, .int .i64 x.fn, .slice A x.args.length c]] w R := by
 have HR := Lib.hid hR
 have hop' : decide (1 ≤ x.op ∧ x.op ≤ 22) = true := by simpa using hop
 have hcb : (x.op == 20) = false := by simpa using hc
 have Hf := Lib.hid hf
 have Ha := Lib.hid ha
 have hal := ha.max
 unfold maxLen at hal
 clear hR hf ha
 have HC : Hid (((w.alloc (Obj.cells #[.slice gA gn gc, .slice fA fn fc, .string nm, .int .i64 pr, .int .i64 rg, .slice bA bn bc', .slice aA an ac] 171)).alloc (Obj.cells #[.int .i64 x.op, .int .i64 x.dst, .bool x.a.reg, .int .i64 x.a.n, .bool x.b.reg, .int .i64 x.b.n, .int .i64 x.fn, .slice A x.args.length c] 71)).heap[w.heap.size]? = some (.cells #[.slice gA gn gc, .slice fA fn fc, .string nm, .int .i64 pr, .int .i64 rg, .slice bA bn bc', .slice aA an ac] 171 (0, 0))) := Lib.hid (blk_alloc (heap_alloc_new _ _) _)
 have HX : Hid (((w.alloc (Obj.cells #[.slice gA gn gc, .slice fA fn fc, .string nm, .int .i64 pr, .int .i64 rg, .slice bA bn bc', .slice aA an ac] 171)).alloc (Obj.cells #[.int .i64 x.op, .int .i64 x.dst, .bool x.a.reg, .int .i64 x.a.n, .bool x.b.reg, .int .i64 x.b.n, .int .i64 x.fn, .slice A x.args.length c] 71)).heap[w.heap.size + 1]? = some (.cells #[.int .i64 x.op, .int .i64 x.dst, .bool x.a.reg, .int .i64 x.a.n, .bool x.b.reg, .int .i64 x.b.n, .int .i64 x.fn, .slice A x.args.length c] 71 (0, 0))) := Lib.hid (by
  have := heap_alloc_new (w.alloc (Obj.cells #[.slice gA gn gc, .slice fA fn fc, .string nm, .int .i64 pr, .int .i64 rg, .slice bA bn bc', .slice aA an ac] 171)) (Obj.cells #[.int .i64 x.op, .int .i64 x.dst, .bool x.a.reg, .int .i64 x.a.n, .bool x.b.reg, .int .i64 x.b.n, .int .i64 x.fn, .slice A x.args.length c] 71)
  simpa using this)
 by_cases n_B : ¬ isZ x.b = true
 ·have e : insF u rg x = 5 := by unfold insF; rw [if_neg (by omega), if_pos (.inr (.inr (.inl ⟨hB, by simpa using n_B⟩)))]
  rw [e] at HR
  have t_B : ∀ w, (binOp .neq 64 (.agg #[.bool x.b.reg, .int .i64 x.b.n]) (.agg #[.bool false, .int .i64 0])).run Tryz.prog w = .ok (.bool true) w := fun w => by rw [neq_Val, isZ_eq, show isZ x.b = false from by simpa using n_B]; rfl
  clear e hop hc n_B
  go_enter Tryz.func138, Tryz.ntmps138
  go_wp2_with fail
  refine Within_calls _ _ _ _ _ ?_
  rw [hop']
  go_wp2_with fail
  refine Shapes_calls _ _ _ (fun w1 hb1 => ?_)
  rw [hD, hA, hB]
  have Hb1 := Lib.hid hb1
  have hs1 := hb1.size
  have hX := (hb1.block (w.heap.size + 1) (by simp)).trans HX.out
  have hCk := (hb1.block w.heap.size (by simp; omega)).trans HC.out
  clear hb1
  obtain ⟨x0, x1, x2, x3, x4, x5, x6, x7⟩ := ins_cells hX
  obtain ⟨c0, c1, c2, c3, c4, c5, c6⟩ := ckr_cells hCk
  have lx := blk_lt hX
  have lc := blk_lt hCk
  have HXw := Lib.hid hX
  have HCw := Lib.hid hCk
  clear hX hCk
  have Hbw := Lib.hid ((by exact bl0 : Below w.heap.size w _).trans (Hb1.out.mono (by simp; omega)))
  clear HX HC
  go_wp2
  exact HR.out _ (Hbw.out.trans ((by exact bl0 : Below w1.heap.size w1 _).mono Hbw.out.size))
 have t1_B := Lib.hid (Decidable.of_not_not n_B)
 clear n_B
 have t_B : ∀ w, (binOp .neq 64 (.agg #[.bool x.b.reg, .int .i64 x.b.n]) (.agg #[.bool false, .int .i64 0])).run Tryz.prog w = .ok (.bool false) w := fun w => by rw [neq_Val, isZ_eq, t1_B.out]; rfl
 by_cases n_fn : ¬ x.fn = 0
 ·have e : insF u rg x = 5 := by unfold insF; rw [if_neg (by omega), if_pos (.inr (.inr (.inr ⟨by simpa using hc, .inl n_fn⟩)))]
  rw [e] at HR
  have t_fn : (x.fn != 0) = true := by simpa using n_fn
  clear e hop hc n_fn
  go_enter Tryz.func138, Tryz.ntmps138
  go_wp2_with fail
  refine Within_calls _ _ _ _ _ ?_
  rw [hop']
  go_wp2_with fail
  refine Shapes_calls _ _ _ (fun w1 hb1 => ?_)
  rw [hD, hA, hB]
  have Hb1 := Lib.hid hb1
  have hs1 := hb1.size
  have hX := (hb1.block (w.heap.size + 1) (by simp)).trans HX.out
  have hCk := (hb1.block w.heap.size (by simp; omega)).trans HC.out
  clear hb1
  obtain ⟨x0, x1, x2, x3, x4, x5, x6, x7⟩ := ins_cells hX
  obtain ⟨c0, c1, c2, c3, c4, c5, c6⟩ := ckr_cells hCk
  have lx := blk_lt hX
  have lc := blk_lt hCk
  have HXw := Lib.hid hX
  have HCw := Lib.hid hCk
  clear hX hCk
  have Hbw := Lib.hid ((by exact bl0 : Below w.heap.size w _).trans (Hb1.out.mono (by simp; omega)))
  clear HX HC
  go_wp2
  exact HR.out _ (Hbw.out.trans ((by exact bl0 : Below w1.heap.size w1 _).mono Hbw.out.size))
 have t1_fn := Lib.hid (Decidable.of_not_not n_fn)
 clear n_fn
 have t_fn : (x.fn != 0) = false := by simpa using t1_fn.out
 by_cases n_len : ¬ ¬ 0 < x.args.length
 ·have e : insF u rg x = 5 := by unfold insF; rw [if_neg (by omega), if_pos (.inr (.inr (.inr ⟨by simpa using hc, .inr (Decidable.of_not_not n_len)⟩)))]
  rw [e] at HR
  have t_len : (0 : Int) < (x.args.length : Int) := by omega
  clear e hop hc n_len
  go_enter Tryz.func138, Tryz.ntmps138
  go_wp2_with fail
  refine Within_calls _ _ _ _ _ ?_
  rw [hop']
  go_wp2_with fail
  refine Shapes_calls _ _ _ (fun w1 hb1 => ?_)
  rw [hD, hA, hB]
  have Hb1 := Lib.hid hb1
  have hs1 := hb1.size
  have hX := (hb1.block (w.heap.size + 1) (by simp)).trans HX.out
  have hCk := (hb1.block w.heap.size (by simp; omega)).trans HC.out
  clear hb1
  obtain ⟨x0, x1, x2, x3, x4, x5, x6, x7⟩ := ins_cells hX
  obtain ⟨c0, c1, c2, c3, c4, c5, c6⟩ := ckr_cells hCk
  have lx := blk_lt hX
  have lc := blk_lt hCk
  have HXw := Lib.hid hX
  have HCw := Lib.hid hCk
  clear hX hCk
  have Hbw := Lib.hid ((by exact bl0 : Below w.heap.size w _).trans (Hb1.out.mono (by simp; omega)))
  clear HX HC
  go_wp2
  exact HR.out _ (Hbw.out.trans ((by exact bl0 : Below w1.heap.size w1 _).mono Hbw.out.size))
 have t_len : ¬ (0 : Int) < (x.args.length : Int) := by omega
 have e0 : insF u rg x = if opDst x.op = true ∧ ¬ (x.op = 20 ∧ x.dst = -1) ∧ dstF rg x.dst ≠ 0 then dstF rg x.dst else fst0 [valF rg x.a, valF rg x.b, callF u rg x] := by
  unfold insF
  rw [if_neg (by omega), if_neg (by
   rintro (⟨h1, h2⟩ | ⟨h1, h2⟩ | ⟨h1, h2⟩ | ⟨h1, h2⟩)
   ·exact (by rw [hD] at h1; cases h1)
   ·exact (by rw [hA] at h1; cases h1)
   ·exact (by rw [t1_B.out] at h2; cases h2)
   ·exact h2.elim (fun h => h t1_fn.out) (fun h => by omega))]
 rw [e0] at HR
 clear e0
 by_cases hdz : dstF rg x.dst = 0
 ·rw [if_neg (fun h => h.2.2 hdz)] at HR
  have hdb : (dstF rg x.dst != 0) = false := by simpa using hdz
  clear hop
  go_enter Tryz.func138, Tryz.ntmps138
  go_wp2_with fail
  refine Within_calls _ _ _ _ _ ?_
  rw [hop']
  go_wp2_with fail
  refine Shapes_calls _ _ _ (fun w1 hb1 => ?_)
  rw [hD, hA, hB]
  have Hb1 := Lib.hid hb1
  have hs1 := hb1.size
  have hX := (hb1.block (w.heap.size + 1) (by simp)).trans HX.out
  have hCk := (hb1.block w.heap.size (by simp; omega)).trans HC.out
  clear hb1
  obtain ⟨x0, x1, x2, x3, x4, x5, x6, x7⟩ := ins_cells hX
  obtain ⟨c0, c1, c2, c3, c4, c5, c6⟩ := ckr_cells hCk
  have lx := blk_lt hX
  have lc := blk_lt hCk
  have HXw := Lib.hid hX
  have HCw := Lib.hid hCk
  clear hX hCk
  have Hbw := Lib.hid ((by exact bl0 : Below w.heap.size w _).trans (Hb1.out.mono (by simp; omega)))
  clear HX HC
  go_wp2_with fail
  refine dst_calls gA fA bA aA gn gc fn fc bn bc' an ac nm pr rg x.dst hrg _ h0 _ (fun w2 hb2 => ?_)
  rw [hdz]
  have hb12 : Below w1.heap.size w1 w2 := (by exact bl0 : Below w1.heap.size w1 _).trans (hb2.mono (by simp; omega))
  have hL2 : w2.heap[w1.heap.size + 1]? = some (.cells #[.bool false] 4 (0, 0)) := (hb2.block _ (by simp)).trans (by have := heap_alloc_new (w1.alloc (Obj.cells #[.bool true, .bool true, .bool false] 148)) (Obj.cells #[.bool false] 4); simpa using this)
  clear hb2
  have hC2 := (hb12.block _ lc).trans HCw.out
  have hX2 := (hb12.block _ lx).trans HXw.out
  have hs12 := hb12.size
  have hB2 := Hbw.out.trans (hb12.mono Hbw.out.size)
  have HC3 := Lib.hid (blk_alloc hC2 (Obj.cells #[.func (.func 155) #[] #[.pointer (some ⟨w.heap.size, 0, none⟩), .pointer (some ⟨w.heap.size + 1, 0, none⟩)], .func (.func 156) #[] #[.pointer (some ⟨w.heap.size, 0, none⟩), .pointer (some ⟨w.heap.size + 1, 0, none⟩)], .func (.func 157) #[] #[.pointer (some ⟨w1.heap.size + 1, 0, none⟩), .pointer (some ⟨w.heap.size + 1, 0, none⟩), .pointer (some ⟨w.heap.size, 0, none⟩)]] 173))
  have HX3 := Lib.hid (blk_alloc hX2 (Obj.cells #[.func (.func 155) #[] #[.pointer (some ⟨w.heap.size, 0, none⟩), .pointer (some ⟨w.heap.size + 1, 0, none⟩)], .func (.func 156) #[] #[.pointer (some ⟨w.heap.size, 0, none⟩), .pointer (some ⟨w.heap.size + 1, 0, none⟩)], .func (.func 157) #[] #[.pointer (some ⟨w1.heap.size + 1, 0, none⟩), .pointer (some ⟨w.heap.size + 1, 0, none⟩), .pointer (some ⟨w.heap.size, 0, none⟩)]] 173))
  have HL3 := Lib.hid (blk_alloc hL2 (Obj.cells #[.func (.func 155) #[] #[.pointer (some ⟨w.heap.size, 0, none⟩), .pointer (some ⟨w.heap.size + 1, 0, none⟩)], .func (.func 156) #[] #[.pointer (some ⟨w.heap.size, 0, none⟩), .pointer (some ⟨w.heap.size + 1, 0, none⟩)], .func (.func 157) #[] #[.pointer (some ⟨w1.heap.size + 1, 0, none⟩), .pointer (some ⟨w.heap.size + 1, 0, none⟩), .pointer (some ⟨w.heap.size, 0, none⟩)]] 173))
  have HN3 := Lib.hid (heap_alloc_new w2 (Obj.cells #[.func (.func 155) #[] #[.pointer (some ⟨w.heap.size, 0, none⟩), .pointer (some ⟨w.heap.size + 1, 0, none⟩)], .func (.func 156) #[] #[.pointer (some ⟨w.heap.size, 0, none⟩), .pointer (some ⟨w.heap.size + 1, 0, none⟩)], .func (.func 157) #[] #[.pointer (some ⟨w1.heap.size + 1, 0, none⟩), .pointer (some ⟨w.heap.size + 1, 0, none⟩), .pointer (some ⟨w.heap.size, 0, none⟩)]] 173))
  have HB3 : Hid (Below w.heap.size w (w2.alloc (Obj.cells #[.func (.func 155) #[] #[.pointer (some ⟨w.heap.size, 0, none⟩), .pointer (some ⟨w.heap.size + 1, 0, none⟩)], .func (.func 156) #[] #[.pointer (some ⟨w.heap.size, 0, none⟩), .pointer (some ⟨w.heap.size + 1, 0, none⟩)], .func (.func 157) #[] #[.pointer (some ⟨w1.heap.size + 1, 0, none⟩), .pointer (some ⟨w.heap.size + 1, 0, none⟩), .pointer (some ⟨w.heap.size, 0, none⟩)]] 173))) := Lib.hid (hB2.trans ((by exact bl0 : Below w2.heap.size w2 _).mono hB2.size))
  clear hC2 hX2 hL2 hb12 hB2
  go_wp2_with fail
  refine first_calls _ (w1.heap.size + 1) w.heap.size (w.heap.size + 1) (valF rg x.a) (valF rg x.b) (callF u rg x) _ ?_ ?_ ?_ ?_ ?_ ?_ ?_ _ (fun w4 hb4 => ?_)
  ·first | (simp; done) | exact blk_lt HN3.out
  ·rw [blk_cells (by first | exact HN3.out | (simpa using HN3.out))]; rfl
  ·rw [blk_cells (by first | exact HN3.out | (simpa using HN3.out))]; rfl
  ·rw [blk_cells (by first | exact HN3.out | (simpa using HN3.out))]; rfl
  ·exact fun w5 hb5 R5 hR5 => ins1_calls gA fA bA aA gn gc fn fc bn bc' an ac nm pr rg x (.slice A x.args.length c) hrg h0 w.heap.size (w.heap.size + 1) _ _ w5 ((hb5.block _ (blk_lt HC3.out)).trans HC3.out) ((hb5.block _ (blk_lt HX3.out)).trans HX3.out) R5 hR5
  ·exact fun w5 hb5 R5 hR5 => ins2_calls gA fA bA aA gn gc fn fc bn bc' an ac nm pr rg x (.slice A x.args.length c) hrg h0 w.heap.size (w.heap.size + 1) _ _ w5 ((hb5.block _ (blk_lt HC3.out)).trans HC3.out) ((hb5.block _ (blk_lt HX3.out)).trans HX3.out) R5 hR5
  ·intro w5 hb5 R5 hR5
   have hB5 := HB3.out.trans (hb5.mono HB3.out.size)
   have hL5 := (hb5.block _ (blk_lt HL3.out)).trans HL3.out
   rw [← hc] at hL5
   exact ins3_calls gA fA bA aA gn gc fn fc bn bc' an ac nm pr rg u x (.slice A x.args.length c) hrg h0 (w1.heap.size + 1) w.heap.size (w.heap.size + 1) _ _ _ w5 hL5 ((hb5.block _ (blk_lt HC3.out)).trans HC3.out) ((hb5.block _ (blk_lt HX3.out)).trans HX3.out) (Hf.out.up hB5 hB5.size) (Ha.out.up hB5 hB5.size) R5 hR5
  have Hfin := Lib.hid (HR.out _ (HB3.out.trans (hb4.mono HB3.out.size)))
  clear hb4
  go_wp2
  exact Hfin.out
 ·rw [if_pos ⟨hD, fun h => by simp [h.1] at hc, hdz⟩] at HR
  have hdb : (dstF rg x.dst != 0) = true := by simpa using hdz
  clear hop hc
  go_enter Tryz.func138, Tryz.ntmps138
  go_wp2_with fail
  refine Within_calls _ _ _ _ _ ?_
  rw [hop']
  go_wp2_with fail
  refine Shapes_calls _ _ _ (fun w1 hb1 => ?_)
  rw [hD, hA, hB]
  have Hb1 := Lib.hid hb1
  have hs1 := hb1.size
  have hX := (hb1.block (w.heap.size + 1) (by simp)).trans HX.out
  have hCk := (hb1.block w.heap.size (by simp; omega)).trans HC.out
  clear hb1
  obtain ⟨x0, x1, x2, x3, x4, x5, x6, x7⟩ := ins_cells hX
  obtain ⟨c0, c1, c2, c3, c4, c5, c6⟩ := ckr_cells hCk
  have lx := blk_lt hX
  have lc := blk_lt hCk
  have HXw := Lib.hid hX
  have HCw := Lib.hid hCk
  clear hX hCk
  have Hbw := Lib.hid ((by exact bl0 : Below w.heap.size w _).trans (Hb1.out.mono (by simp; omega)))
  clear HX HC
  go_wp2_with fail
  refine dst_calls gA fA bA aA gn gc fn fc bn bc' an ac nm pr rg x.dst hrg _ h0 _ (fun w2 hb2 => ?_)
  have Hb2 := Lib.hid (Hbw.out.trans (((by exact bl0 : Below w1.heap.size w1 _).trans (hb2.mono (by simp; omega))).mono Hbw.out.size))
  clear hb2
  go_wp2
  exact HR.out _ Hb2.out
set_option maxRecDepth 100000 in
set_option maxHeartbeats 8000000 in
theorem ins_two (gA fA bA aA : Option Addr) (gn gc fn fc bn bc' an ac : Nat) (nm : ByteArray) (pr rg : Int) (u : Unt) (x : UIns) (A : Option Addr) (c : Nat) (hrg : I64 rg) (h0 : -9223372036854775807 ≤ rg) (w : World)
 (hf : rpFun.SL w w.heap.size u.funcs (.slice fA fn fc)) (ha : rpVal.SL w w.heap.size x.args (.slice A x.args.length c)) (hop : 1 ≤ x.op ∧ x.op ≤ 22)
 (hD : opDst x.op = true) (hA : opA x.op = true) (hB : opB x.op = true) (hc : decide (x.op = 20) = false)
 (R : Ending → World → Prop) (hR : ∀ w', Below w.heap.size w w' → R (.returned (.int .i64 (insF u rg x))) w') :
 Calls Tryz.prog 138 #[(.agg #[.slice gA gn gc, .slice fA fn fc, .string nm, .int .i64 pr, .int .i64 rg, .slice bA bn bc', .slice aA an ac]), .agg #[.int .i64 x.op, .int .i64 x.dst, .bool x.a.reg, .int .i64 x.a.n, .bool x.b.reg, .int .i64 x.b.n, .int .i64 x.fn, .slice A x.args.length c]] w R := by
 have HR := Lib.hid hR
 have hop' : decide (1 ≤ x.op ∧ x.op ≤ 22) = true := by simpa using hop
 have hcb : (x.op == 20) = false := by simpa using hc
 have Hf := Lib.hid hf
 have Ha := Lib.hid ha
 have hal := ha.max
 unfold maxLen at hal
 clear hR hf ha
 have HC : Hid (((w.alloc (Obj.cells #[.slice gA gn gc, .slice fA fn fc, .string nm, .int .i64 pr, .int .i64 rg, .slice bA bn bc', .slice aA an ac] 171)).alloc (Obj.cells #[.int .i64 x.op, .int .i64 x.dst, .bool x.a.reg, .int .i64 x.a.n, .bool x.b.reg, .int .i64 x.b.n, .int .i64 x.fn, .slice A x.args.length c] 71)).heap[w.heap.size]? = some (.cells #[.slice gA gn gc, .slice fA fn fc, .string nm, .int .i64 pr, .int .i64 rg, .slice bA bn bc', .slice aA an ac] 171 (0, 0))) := Lib.hid (blk_alloc (heap_alloc_new _ _) _)
 have HX : Hid (((w.alloc (Obj.cells #[.slice gA gn gc, .slice fA fn fc, .string nm, .int .i64 pr, .int .i64 rg, .slice bA bn bc', .slice aA an ac] 171)).alloc (Obj.cells #[.int .i64 x.op, .int .i64 x.dst, .bool x.a.reg, .int .i64 x.a.n, .bool x.b.reg, .int .i64 x.b.n, .int .i64 x.fn, .slice A x.args.length c] 71)).heap[w.heap.size + 1]? = some (.cells #[.int .i64 x.op, .int .i64 x.dst, .bool x.a.reg, .int .i64 x.a.n, .bool x.b.reg, .int .i64 x.b.n, .int .i64 x.fn, .slice A x.args.length c] 71 (0, 0))) := Lib.hid (by
  have := heap_alloc_new (w.alloc (Obj.cells #[.slice gA gn gc, .slice fA fn fc, .string nm, .int .i64 pr, .int .i64 rg, .slice bA bn bc', .slice aA an ac] 171)) (Obj.cells #[.int .i64 x.op, .int .i64 x.dst, .bool x.a.reg, .int .i64 x.a.n, .bool x.b.reg, .int .i64 x.b.n, .int .i64 x.fn, .slice A x.args.length c] 71)
  simpa using this)
 by_cases n_fn : ¬ x.fn = 0
 ·have e : insF u rg x = 5 := by unfold insF; rw [if_neg (by omega), if_pos (.inr (.inr (.inr ⟨by simpa using hc, .inl n_fn⟩)))]
  rw [e] at HR
  have t_fn : (x.fn != 0) = true := by simpa using n_fn
  clear e hop hc n_fn
  go_enter Tryz.func138, Tryz.ntmps138
  go_wp2_with fail
  refine Within_calls _ _ _ _ _ ?_
  rw [hop']
  go_wp2_with fail
  refine Shapes_calls _ _ _ (fun w1 hb1 => ?_)
  rw [hD, hA, hB]
  have Hb1 := Lib.hid hb1
  have hs1 := hb1.size
  have hX := (hb1.block (w.heap.size + 1) (by simp)).trans HX.out
  have hCk := (hb1.block w.heap.size (by simp; omega)).trans HC.out
  clear hb1
  obtain ⟨x0, x1, x2, x3, x4, x5, x6, x7⟩ := ins_cells hX
  obtain ⟨c0, c1, c2, c3, c4, c5, c6⟩ := ckr_cells hCk
  have lx := blk_lt hX
  have lc := blk_lt hCk
  have HXw := Lib.hid hX
  have HCw := Lib.hid hCk
  clear hX hCk
  have Hbw := Lib.hid ((by exact bl0 : Below w.heap.size w _).trans (Hb1.out.mono (by simp; omega)))
  clear HX HC
  go_wp2
  exact HR.out _ (Hbw.out.trans ((by exact bl0 : Below w1.heap.size w1 _).mono Hbw.out.size))
 have t1_fn := Lib.hid (Decidable.of_not_not n_fn)
 clear n_fn
 have t_fn : (x.fn != 0) = false := by simpa using t1_fn.out
 by_cases n_len : ¬ ¬ 0 < x.args.length
 ·have e : insF u rg x = 5 := by unfold insF; rw [if_neg (by omega), if_pos (.inr (.inr (.inr ⟨by simpa using hc, .inr (Decidable.of_not_not n_len)⟩)))]
  rw [e] at HR
  have t_len : (0 : Int) < (x.args.length : Int) := by omega
  clear e hop hc n_len
  go_enter Tryz.func138, Tryz.ntmps138
  go_wp2_with fail
  refine Within_calls _ _ _ _ _ ?_
  rw [hop']
  go_wp2_with fail
  refine Shapes_calls _ _ _ (fun w1 hb1 => ?_)
  rw [hD, hA, hB]
  have Hb1 := Lib.hid hb1
  have hs1 := hb1.size
  have hX := (hb1.block (w.heap.size + 1) (by simp)).trans HX.out
  have hCk := (hb1.block w.heap.size (by simp; omega)).trans HC.out
  clear hb1
  obtain ⟨x0, x1, x2, x3, x4, x5, x6, x7⟩ := ins_cells hX
  obtain ⟨c0, c1, c2, c3, c4, c5, c6⟩ := ckr_cells hCk
  have lx := blk_lt hX
  have lc := blk_lt hCk
  have HXw := Lib.hid hX
  have HCw := Lib.hid hCk
  clear hX hCk
  have Hbw := Lib.hid ((by exact bl0 : Below w.heap.size w _).trans (Hb1.out.mono (by simp; omega)))
  clear HX HC
  go_wp2
  exact HR.out _ (Hbw.out.trans ((by exact bl0 : Below w1.heap.size w1 _).mono Hbw.out.size))
 have t_len : ¬ (0 : Int) < (x.args.length : Int) := by omega
 have e0 : insF u rg x = if opDst x.op = true ∧ ¬ (x.op = 20 ∧ x.dst = -1) ∧ dstF rg x.dst ≠ 0 then dstF rg x.dst else fst0 [valF rg x.a, valF rg x.b, callF u rg x] := by
  unfold insF
  rw [if_neg (by omega), if_neg (by
   rintro (⟨h1, h2⟩ | ⟨h1, h2⟩ | ⟨h1, h2⟩ | ⟨h1, h2⟩)
   ·exact (by rw [hD] at h1; cases h1)
   ·exact (by rw [hA] at h1; cases h1)
   ·exact (by rw [hB] at h1; cases h1)
   ·exact h2.elim (fun h => h t1_fn.out) (fun h => by omega))]
 rw [e0] at HR
 clear e0
 by_cases hdz : dstF rg x.dst = 0
 ·rw [if_neg (fun h => h.2.2 hdz)] at HR
  have hdb : (dstF rg x.dst != 0) = false := by simpa using hdz
  clear hop
  go_enter Tryz.func138, Tryz.ntmps138
  go_wp2_with fail
  refine Within_calls _ _ _ _ _ ?_
  rw [hop']
  go_wp2_with fail
  refine Shapes_calls _ _ _ (fun w1 hb1 => ?_)
  rw [hD, hA, hB]
  have Hb1 := Lib.hid hb1
  have hs1 := hb1.size
  have hX := (hb1.block (w.heap.size + 1) (by simp)).trans HX.out
  have hCk := (hb1.block w.heap.size (by simp; omega)).trans HC.out
  clear hb1
  obtain ⟨x0, x1, x2, x3, x4, x5, x6, x7⟩ := ins_cells hX
  obtain ⟨c0, c1, c2, c3, c4, c5, c6⟩ := ckr_cells hCk
  have lx := blk_lt hX
  have lc := blk_lt hCk
  have HXw := Lib.hid hX
  have HCw := Lib.hid hCk
  clear hX hCk
  have Hbw := Lib.hid ((by exact bl0 : Below w.heap.size w _).trans (Hb1.out.mono (by simp; omega)))
  clear HX HC
  go_wp2_with fail
  refine dst_calls gA fA bA aA gn gc fn fc bn bc' an ac nm pr rg x.dst hrg _ h0 _ (fun w2 hb2 => ?_)
  rw [hdz]
  have hb12 : Below w1.heap.size w1 w2 := (by exact bl0 : Below w1.heap.size w1 _).trans (hb2.mono (by simp; omega))
  have hL2 : w2.heap[w1.heap.size + 1]? = some (.cells #[.bool false] 4 (0, 0)) := (hb2.block _ (by simp)).trans (by have := heap_alloc_new (w1.alloc (Obj.cells #[.bool true, .bool true, .bool true] 148)) (Obj.cells #[.bool false] 4); simpa using this)
  clear hb2
  have hC2 := (hb12.block _ lc).trans HCw.out
  have hX2 := (hb12.block _ lx).trans HXw.out
  have hs12 := hb12.size
  have hB2 := Hbw.out.trans (hb12.mono Hbw.out.size)
  have HC3 := Lib.hid (blk_alloc hC2 (Obj.cells #[.func (.func 155) #[] #[.pointer (some ⟨w.heap.size, 0, none⟩), .pointer (some ⟨w.heap.size + 1, 0, none⟩)], .func (.func 156) #[] #[.pointer (some ⟨w.heap.size, 0, none⟩), .pointer (some ⟨w.heap.size + 1, 0, none⟩)], .func (.func 157) #[] #[.pointer (some ⟨w1.heap.size + 1, 0, none⟩), .pointer (some ⟨w.heap.size + 1, 0, none⟩), .pointer (some ⟨w.heap.size, 0, none⟩)]] 173))
  have HX3 := Lib.hid (blk_alloc hX2 (Obj.cells #[.func (.func 155) #[] #[.pointer (some ⟨w.heap.size, 0, none⟩), .pointer (some ⟨w.heap.size + 1, 0, none⟩)], .func (.func 156) #[] #[.pointer (some ⟨w.heap.size, 0, none⟩), .pointer (some ⟨w.heap.size + 1, 0, none⟩)], .func (.func 157) #[] #[.pointer (some ⟨w1.heap.size + 1, 0, none⟩), .pointer (some ⟨w.heap.size + 1, 0, none⟩), .pointer (some ⟨w.heap.size, 0, none⟩)]] 173))
  have HL3 := Lib.hid (blk_alloc hL2 (Obj.cells #[.func (.func 155) #[] #[.pointer (some ⟨w.heap.size, 0, none⟩), .pointer (some ⟨w.heap.size + 1, 0, none⟩)], .func (.func 156) #[] #[.pointer (some ⟨w.heap.size, 0, none⟩), .pointer (some ⟨w.heap.size + 1, 0, none⟩)], .func (.func 157) #[] #[.pointer (some ⟨w1.heap.size + 1, 0, none⟩), .pointer (some ⟨w.heap.size + 1, 0, none⟩), .pointer (some ⟨w.heap.size, 0, none⟩)]] 173))
  have HN3 := Lib.hid (heap_alloc_new w2 (Obj.cells #[.func (.func 155) #[] #[.pointer (some ⟨w.heap.size, 0, none⟩), .pointer (some ⟨w.heap.size + 1, 0, none⟩)], .func (.func 156) #[] #[.pointer (some ⟨w.heap.size, 0, none⟩), .pointer (some ⟨w.heap.size + 1, 0, none⟩)], .func (.func 157) #[] #[.pointer (some ⟨w1.heap.size + 1, 0, none⟩), .pointer (some ⟨w.heap.size + 1, 0, none⟩), .pointer (some ⟨w.heap.size, 0, none⟩)]] 173))
  have HB3 : Hid (Below w.heap.size w (w2.alloc (Obj.cells #[.func (.func 155) #[] #[.pointer (some ⟨w.heap.size, 0, none⟩), .pointer (some ⟨w.heap.size + 1, 0, none⟩)], .func (.func 156) #[] #[.pointer (some ⟨w.heap.size, 0, none⟩), .pointer (some ⟨w.heap.size + 1, 0, none⟩)], .func (.func 157) #[] #[.pointer (some ⟨w1.heap.size + 1, 0, none⟩), .pointer (some ⟨w.heap.size + 1, 0, none⟩), .pointer (some ⟨w.heap.size, 0, none⟩)]] 173))) := Lib.hid (hB2.trans ((by exact bl0 : Below w2.heap.size w2 _).mono hB2.size))
  clear hC2 hX2 hL2 hb12 hB2
  go_wp2_with fail
  refine first_calls _ (w1.heap.size + 1) w.heap.size (w.heap.size + 1) (valF rg x.a) (valF rg x.b) (callF u rg x) _ ?_ ?_ ?_ ?_ ?_ ?_ ?_ _ (fun w4 hb4 => ?_)
  ·first | (simp; done) | exact blk_lt HN3.out
  ·rw [blk_cells (by first | exact HN3.out | (simpa using HN3.out))]; rfl
  ·rw [blk_cells (by first | exact HN3.out | (simpa using HN3.out))]; rfl
  ·rw [blk_cells (by first | exact HN3.out | (simpa using HN3.out))]; rfl
  ·exact fun w5 hb5 R5 hR5 => ins1_calls gA fA bA aA gn gc fn fc bn bc' an ac nm pr rg x (.slice A x.args.length c) hrg h0 w.heap.size (w.heap.size + 1) _ _ w5 ((hb5.block _ (blk_lt HC3.out)).trans HC3.out) ((hb5.block _ (blk_lt HX3.out)).trans HX3.out) R5 hR5
  ·exact fun w5 hb5 R5 hR5 => ins2_calls gA fA bA aA gn gc fn fc bn bc' an ac nm pr rg x (.slice A x.args.length c) hrg h0 w.heap.size (w.heap.size + 1) _ _ w5 ((hb5.block _ (blk_lt HC3.out)).trans HC3.out) ((hb5.block _ (blk_lt HX3.out)).trans HX3.out) R5 hR5
  ·intro w5 hb5 R5 hR5
   have hB5 := HB3.out.trans (hb5.mono HB3.out.size)
   have hL5 := (hb5.block _ (blk_lt HL3.out)).trans HL3.out
   rw [← hc] at hL5
   exact ins3_calls gA fA bA aA gn gc fn fc bn bc' an ac nm pr rg u x (.slice A x.args.length c) hrg h0 (w1.heap.size + 1) w.heap.size (w.heap.size + 1) _ _ _ w5 hL5 ((hb5.block _ (blk_lt HC3.out)).trans HC3.out) ((hb5.block _ (blk_lt HX3.out)).trans HX3.out) (Hf.out.up hB5 hB5.size) (Ha.out.up hB5 hB5.size) R5 hR5
  have Hfin := Lib.hid (HR.out _ (HB3.out.trans (hb4.mono HB3.out.size)))
  clear hb4
  go_wp2
  exact Hfin.out
 ·rw [if_pos ⟨hD, fun h => by simp [h.1] at hc, hdz⟩] at HR
  have hdb : (dstF rg x.dst != 0) = true := by simpa using hdz
  clear hop hc
  go_enter Tryz.func138, Tryz.ntmps138
  go_wp2_with fail
  refine Within_calls _ _ _ _ _ ?_
  rw [hop']
  go_wp2_with fail
  refine Shapes_calls _ _ _ (fun w1 hb1 => ?_)
  rw [hD, hA, hB]
  have Hb1 := Lib.hid hb1
  have hs1 := hb1.size
  have hX := (hb1.block (w.heap.size + 1) (by simp)).trans HX.out
  have hCk := (hb1.block w.heap.size (by simp; omega)).trans HC.out
  clear hb1
  obtain ⟨x0, x1, x2, x3, x4, x5, x6, x7⟩ := ins_cells hX
  obtain ⟨c0, c1, c2, c3, c4, c5, c6⟩ := ckr_cells hCk
  have lx := blk_lt hX
  have lc := blk_lt hCk
  have HXw := Lib.hid hX
  have HCw := Lib.hid hCk
  clear hX hCk
  have Hbw := Lib.hid ((by exact bl0 : Below w.heap.size w _).trans (Hb1.out.mono (by simp; omega)))
  clear HX HC
  go_wp2_with fail
  refine dst_calls gA fA bA aA gn gc fn fc bn bc' an ac nm pr rg x.dst hrg _ h0 _ (fun w2 hb2 => ?_)
  have Hb2 := Lib.hid (Hbw.out.trans (((by exact bl0 : Below w1.heap.size w1 _).trans (hb2.mono (by simp; omega))).mono Hbw.out.size))
  clear hb2
  go_wp2
  exact HR.out _ Hb2.out
set_option maxRecDepth 100000 in
set_option maxHeartbeats 8000000 in
theorem ins_store (gA fA bA aA : Option Addr) (gn gc fn fc bn bc' an ac : Nat) (nm : ByteArray) (pr rg : Int) (u : Unt) (x : UIns) (A : Option Addr) (c : Nat) (hrg : I64 rg) (h0 : -9223372036854775807 ≤ rg) (w : World)
 (hf : rpFun.SL w w.heap.size u.funcs (.slice fA fn fc)) (ha : rpVal.SL w w.heap.size x.args (.slice A x.args.length c)) (hop : 1 ≤ x.op ∧ x.op ≤ 22)
 (hD : opDst x.op = false) (hA : opA x.op = true) (hB : opB x.op = true) (hc : decide (x.op = 20) = false)
 (R : Ending → World → Prop) (hR : ∀ w', Below w.heap.size w w' → R (.returned (.int .i64 (insF u rg x))) w') :
 Calls Tryz.prog 138 #[(.agg #[.slice gA gn gc, .slice fA fn fc, .string nm, .int .i64 pr, .int .i64 rg, .slice bA bn bc', .slice aA an ac]), .agg #[.int .i64 x.op, .int .i64 x.dst, .bool x.a.reg, .int .i64 x.a.n, .bool x.b.reg, .int .i64 x.b.n, .int .i64 x.fn, .slice A x.args.length c]] w R := by
 have HR := Lib.hid hR
 have hop' : decide (1 ≤ x.op ∧ x.op ≤ 22) = true := by simpa using hop
 have hcb : (x.op == 20) = false := by simpa using hc
 have Hf := Lib.hid hf
 have Ha := Lib.hid ha
 have hal := ha.max
 unfold maxLen at hal
 clear hR hf ha
 have HC : Hid (((w.alloc (Obj.cells #[.slice gA gn gc, .slice fA fn fc, .string nm, .int .i64 pr, .int .i64 rg, .slice bA bn bc', .slice aA an ac] 171)).alloc (Obj.cells #[.int .i64 x.op, .int .i64 x.dst, .bool x.a.reg, .int .i64 x.a.n, .bool x.b.reg, .int .i64 x.b.n, .int .i64 x.fn, .slice A x.args.length c] 71)).heap[w.heap.size]? = some (.cells #[.slice gA gn gc, .slice fA fn fc, .string nm, .int .i64 pr, .int .i64 rg, .slice bA bn bc', .slice aA an ac] 171 (0, 0))) := Lib.hid (blk_alloc (heap_alloc_new _ _) _)
 have HX : Hid (((w.alloc (Obj.cells #[.slice gA gn gc, .slice fA fn fc, .string nm, .int .i64 pr, .int .i64 rg, .slice bA bn bc', .slice aA an ac] 171)).alloc (Obj.cells #[.int .i64 x.op, .int .i64 x.dst, .bool x.a.reg, .int .i64 x.a.n, .bool x.b.reg, .int .i64 x.b.n, .int .i64 x.fn, .slice A x.args.length c] 71)).heap[w.heap.size + 1]? = some (.cells #[.int .i64 x.op, .int .i64 x.dst, .bool x.a.reg, .int .i64 x.a.n, .bool x.b.reg, .int .i64 x.b.n, .int .i64 x.fn, .slice A x.args.length c] 71 (0, 0))) := Lib.hid (by
  have := heap_alloc_new (w.alloc (Obj.cells #[.slice gA gn gc, .slice fA fn fc, .string nm, .int .i64 pr, .int .i64 rg, .slice bA bn bc', .slice aA an ac] 171)) (Obj.cells #[.int .i64 x.op, .int .i64 x.dst, .bool x.a.reg, .int .i64 x.a.n, .bool x.b.reg, .int .i64 x.b.n, .int .i64 x.fn, .slice A x.args.length c] 71)
  simpa using this)
 by_cases n_dst : ¬ x.dst = -1
 ·have e : insF u rg x = 5 := by unfold insF; rw [if_neg (by omega), if_pos (.inl ⟨hD, n_dst⟩)]
  rw [e] at HR
  have t_dst : (x.dst != -1) = true := by simpa using n_dst
  clear e hop hc n_dst
  go_enter Tryz.func138, Tryz.ntmps138
  go_wp2_with fail
  refine Within_calls _ _ _ _ _ ?_
  rw [hop']
  go_wp2_with fail
  refine Shapes_calls _ _ _ (fun w1 hb1 => ?_)
  rw [hD, hA, hB]
  have Hb1 := Lib.hid hb1
  have hs1 := hb1.size
  have hX := (hb1.block (w.heap.size + 1) (by simp)).trans HX.out
  have hCk := (hb1.block w.heap.size (by simp; omega)).trans HC.out
  clear hb1
  obtain ⟨x0, x1, x2, x3, x4, x5, x6, x7⟩ := ins_cells hX
  obtain ⟨c0, c1, c2, c3, c4, c5, c6⟩ := ckr_cells hCk
  have lx := blk_lt hX
  have lc := blk_lt hCk
  have HXw := Lib.hid hX
  have HCw := Lib.hid hCk
  clear hX hCk
  have Hbw := Lib.hid ((by exact bl0 : Below w.heap.size w _).trans (Hb1.out.mono (by simp; omega)))
  clear HX HC
  go_wp2
  exact HR.out _ (Hbw.out.trans ((by exact bl0 : Below w1.heap.size w1 _).mono Hbw.out.size))
 have t1_dst := Lib.hid (Decidable.of_not_not n_dst)
 clear n_dst
 have t_dst : (x.dst != -1) = false := by simpa using t1_dst.out
 by_cases n_fn : ¬ x.fn = 0
 ·have e : insF u rg x = 5 := by unfold insF; rw [if_neg (by omega), if_pos (.inr (.inr (.inr ⟨by simpa using hc, .inl n_fn⟩)))]
  rw [e] at HR
  have t_fn : (x.fn != 0) = true := by simpa using n_fn
  clear e hop hc n_fn
  go_enter Tryz.func138, Tryz.ntmps138
  go_wp2_with fail
  refine Within_calls _ _ _ _ _ ?_
  rw [hop']
  go_wp2_with fail
  refine Shapes_calls _ _ _ (fun w1 hb1 => ?_)
  rw [hD, hA, hB]
  have Hb1 := Lib.hid hb1
  have hs1 := hb1.size
  have hX := (hb1.block (w.heap.size + 1) (by simp)).trans HX.out
  have hCk := (hb1.block w.heap.size (by simp; omega)).trans HC.out
  clear hb1
  obtain ⟨x0, x1, x2, x3, x4, x5, x6, x7⟩ := ins_cells hX
  obtain ⟨c0, c1, c2, c3, c4, c5, c6⟩ := ckr_cells hCk
  have lx := blk_lt hX
  have lc := blk_lt hCk
  have HXw := Lib.hid hX
  have HCw := Lib.hid hCk
  clear hX hCk
  have Hbw := Lib.hid ((by exact bl0 : Below w.heap.size w _).trans (Hb1.out.mono (by simp; omega)))
  clear HX HC
  go_wp2
  exact HR.out _ (Hbw.out.trans ((by exact bl0 : Below w1.heap.size w1 _).mono Hbw.out.size))
 have t1_fn := Lib.hid (Decidable.of_not_not n_fn)
 clear n_fn
 have t_fn : (x.fn != 0) = false := by simpa using t1_fn.out
 by_cases n_len : ¬ ¬ 0 < x.args.length
 ·have e : insF u rg x = 5 := by unfold insF; rw [if_neg (by omega), if_pos (.inr (.inr (.inr ⟨by simpa using hc, .inr (Decidable.of_not_not n_len)⟩)))]
  rw [e] at HR
  have t_len : (0 : Int) < (x.args.length : Int) := by omega
  clear e hop hc n_len
  go_enter Tryz.func138, Tryz.ntmps138
  go_wp2_with fail
  refine Within_calls _ _ _ _ _ ?_
  rw [hop']
  go_wp2_with fail
  refine Shapes_calls _ _ _ (fun w1 hb1 => ?_)
  rw [hD, hA, hB]
  have Hb1 := Lib.hid hb1
  have hs1 := hb1.size
  have hX := (hb1.block (w.heap.size + 1) (by simp)).trans HX.out
  have hCk := (hb1.block w.heap.size (by simp; omega)).trans HC.out
  clear hb1
  obtain ⟨x0, x1, x2, x3, x4, x5, x6, x7⟩ := ins_cells hX
  obtain ⟨c0, c1, c2, c3, c4, c5, c6⟩ := ckr_cells hCk
  have lx := blk_lt hX
  have lc := blk_lt hCk
  have HXw := Lib.hid hX
  have HCw := Lib.hid hCk
  clear hX hCk
  have Hbw := Lib.hid ((by exact bl0 : Below w.heap.size w _).trans (Hb1.out.mono (by simp; omega)))
  clear HX HC
  go_wp2
  exact HR.out _ (Hbw.out.trans ((by exact bl0 : Below w1.heap.size w1 _).mono Hbw.out.size))
 have t_len : ¬ (0 : Int) < (x.args.length : Int) := by omega
 have e0 : insF u rg x = if opDst x.op = true ∧ ¬ (x.op = 20 ∧ x.dst = -1) ∧ dstF rg x.dst ≠ 0 then dstF rg x.dst else fst0 [valF rg x.a, valF rg x.b, callF u rg x] := by
  unfold insF
  rw [if_neg (by omega), if_neg (by
   rintro (⟨h1, h2⟩ | ⟨h1, h2⟩ | ⟨h1, h2⟩ | ⟨h1, h2⟩)
   ·exact h2 t1_dst.out
   ·exact (by rw [hA] at h1; cases h1)
   ·exact (by rw [hB] at h1; cases h1)
   ·exact h2.elim (fun h => h t1_fn.out) (fun h => by omega))]
 rw [e0] at HR
 clear e0
 rw [if_neg (fun h => by rw [hD] at h; cases h.1)] at HR
 clear hop
 go_enter Tryz.func138, Tryz.ntmps138
 go_wp2_with fail
 refine Within_calls _ _ _ _ _ ?_
 rw [hop']
 go_wp2_with fail
 refine Shapes_calls _ _ _ (fun w1 hb1 => ?_)
 rw [hD, hA, hB]
 have Hb1 := Lib.hid hb1
 have hs1 := hb1.size
 have hX := (hb1.block (w.heap.size + 1) (by simp)).trans HX.out
 have hCk := (hb1.block w.heap.size (by simp; omega)).trans HC.out
 clear hb1
 obtain ⟨x0, x1, x2, x3, x4, x5, x6, x7⟩ := ins_cells hX
 obtain ⟨c0, c1, c2, c3, c4, c5, c6⟩ := ckr_cells hCk
 have lx := blk_lt hX
 have lc := blk_lt hCk
 have HXw := Lib.hid hX
 have HCw := Lib.hid hCk
 clear hX hCk
 have Hbw := Lib.hid ((by exact bl0 : Below w.heap.size w _).trans (Hb1.out.mono (by simp; omega)))
 clear HX HC
 have hb12 : Below w1.heap.size w1 ((w1.alloc (Obj.cells #[.bool false, .bool true, .bool true] 148)).alloc (Obj.cells #[.bool false] 4)) := by exact bl0
 have hL2 : ((w1.alloc (Obj.cells #[.bool false, .bool true, .bool true] 148)).alloc (Obj.cells #[.bool false] 4)).heap[w1.heap.size + 1]? = some (.cells #[.bool false] 4 (0, 0)) := (by have := heap_alloc_new (w1.alloc (Obj.cells #[.bool false, .bool true, .bool true] 148)) (Obj.cells #[.bool false] 4); simpa using this)
 have hC2 := (hb12.block _ lc).trans HCw.out
 have hX2 := (hb12.block _ lx).trans HXw.out
 have hs12 := hb12.size
 have hB2 := Hbw.out.trans (hb12.mono Hbw.out.size)
 have HC3 := Lib.hid (blk_alloc hC2 (Obj.cells #[.func (.func 155) #[] #[.pointer (some ⟨w.heap.size, 0, none⟩), .pointer (some ⟨w.heap.size + 1, 0, none⟩)], .func (.func 156) #[] #[.pointer (some ⟨w.heap.size, 0, none⟩), .pointer (some ⟨w.heap.size + 1, 0, none⟩)], .func (.func 157) #[] #[.pointer (some ⟨w1.heap.size + 1, 0, none⟩), .pointer (some ⟨w.heap.size + 1, 0, none⟩), .pointer (some ⟨w.heap.size, 0, none⟩)]] 173))
 have HX3 := Lib.hid (blk_alloc hX2 (Obj.cells #[.func (.func 155) #[] #[.pointer (some ⟨w.heap.size, 0, none⟩), .pointer (some ⟨w.heap.size + 1, 0, none⟩)], .func (.func 156) #[] #[.pointer (some ⟨w.heap.size, 0, none⟩), .pointer (some ⟨w.heap.size + 1, 0, none⟩)], .func (.func 157) #[] #[.pointer (some ⟨w1.heap.size + 1, 0, none⟩), .pointer (some ⟨w.heap.size + 1, 0, none⟩), .pointer (some ⟨w.heap.size, 0, none⟩)]] 173))
 have HL3 := Lib.hid (blk_alloc hL2 (Obj.cells #[.func (.func 155) #[] #[.pointer (some ⟨w.heap.size, 0, none⟩), .pointer (some ⟨w.heap.size + 1, 0, none⟩)], .func (.func 156) #[] #[.pointer (some ⟨w.heap.size, 0, none⟩), .pointer (some ⟨w.heap.size + 1, 0, none⟩)], .func (.func 157) #[] #[.pointer (some ⟨w1.heap.size + 1, 0, none⟩), .pointer (some ⟨w.heap.size + 1, 0, none⟩), .pointer (some ⟨w.heap.size, 0, none⟩)]] 173))
 have HN3 := Lib.hid (heap_alloc_new ((w1.alloc (Obj.cells #[.bool false, .bool true, .bool true] 148)).alloc (Obj.cells #[.bool false] 4)) (Obj.cells #[.func (.func 155) #[] #[.pointer (some ⟨w.heap.size, 0, none⟩), .pointer (some ⟨w.heap.size + 1, 0, none⟩)], .func (.func 156) #[] #[.pointer (some ⟨w.heap.size, 0, none⟩), .pointer (some ⟨w.heap.size + 1, 0, none⟩)], .func (.func 157) #[] #[.pointer (some ⟨w1.heap.size + 1, 0, none⟩), .pointer (some ⟨w.heap.size + 1, 0, none⟩), .pointer (some ⟨w.heap.size, 0, none⟩)]] 173))
 have HB3 : Hid (Below w.heap.size w (((w1.alloc (Obj.cells #[.bool false, .bool true, .bool true] 148)).alloc (Obj.cells #[.bool false] 4)).alloc (Obj.cells #[.func (.func 155) #[] #[.pointer (some ⟨w.heap.size, 0, none⟩), .pointer (some ⟨w.heap.size + 1, 0, none⟩)], .func (.func 156) #[] #[.pointer (some ⟨w.heap.size, 0, none⟩), .pointer (some ⟨w.heap.size + 1, 0, none⟩)], .func (.func 157) #[] #[.pointer (some ⟨w1.heap.size + 1, 0, none⟩), .pointer (some ⟨w.heap.size + 1, 0, none⟩), .pointer (some ⟨w.heap.size, 0, none⟩)]] 173))) := Lib.hid (hB2.trans ((by exact bl0 : Below ((w1.alloc (Obj.cells #[.bool false, .bool true, .bool true] 148)).alloc (Obj.cells #[.bool false] 4)).heap.size ((w1.alloc (Obj.cells #[.bool false, .bool true, .bool true] 148)).alloc (Obj.cells #[.bool false] 4)) _).mono hB2.size))
 clear hC2 hX2 hL2 hb12 hB2
 go_wp2_with fail
 refine first_calls _ (w1.heap.size + 1) w.heap.size (w.heap.size + 1) (valF rg x.a) (valF rg x.b) (callF u rg x) _ ?_ ?_ ?_ ?_ ?_ ?_ ?_ _ (fun w4 hb4 => ?_)
 ·first | (simp; done) | exact blk_lt HN3.out
 ·rw [blk_cells (by first | exact HN3.out | (simpa using HN3.out))]; rfl
 ·rw [blk_cells (by first | exact HN3.out | (simpa using HN3.out))]; rfl
 ·rw [blk_cells (by first | exact HN3.out | (simpa using HN3.out))]; rfl
 ·exact fun w5 hb5 R5 hR5 => ins1_calls gA fA bA aA gn gc fn fc bn bc' an ac nm pr rg x (.slice A x.args.length c) hrg h0 w.heap.size (w.heap.size + 1) _ _ w5 ((hb5.block _ (blk_lt HC3.out)).trans HC3.out) ((hb5.block _ (blk_lt HX3.out)).trans HX3.out) R5 hR5
 ·exact fun w5 hb5 R5 hR5 => ins2_calls gA fA bA aA gn gc fn fc bn bc' an ac nm pr rg x (.slice A x.args.length c) hrg h0 w.heap.size (w.heap.size + 1) _ _ w5 ((hb5.block _ (blk_lt HC3.out)).trans HC3.out) ((hb5.block _ (blk_lt HX3.out)).trans HX3.out) R5 hR5
 ·intro w5 hb5 R5 hR5
  have hB5 := HB3.out.trans (hb5.mono HB3.out.size)
  have hL5 := (hb5.block _ (blk_lt HL3.out)).trans HL3.out
  rw [← hc] at hL5
  exact ins3_calls gA fA bA aA gn gc fn fc bn bc' an ac nm pr rg u x (.slice A x.args.length c) hrg h0 (w1.heap.size + 1) w.heap.size (w.heap.size + 1) _ _ _ w5 hL5 ((hb5.block _ (blk_lt HC3.out)).trans HC3.out) ((hb5.block _ (blk_lt HX3.out)).trans HX3.out) (Hf.out.up hB5 hB5.size) (Ha.out.up hB5 hB5.size) R5 hR5
 have Hfin := Lib.hid (HR.out _ (HB3.out.trans (hb4.mono HB3.out.size)))
 clear hb4
 go_wp2
 exact Hfin.out
set_option maxRecDepth 100000 in
set_option maxHeartbeats 8000000 in
theorem ins_call (gA fA bA aA : Option Addr) (gn gc fn fc bn bc' an ac : Nat) (nm : ByteArray) (pr rg : Int) (u : Unt) (x : UIns) (A : Option Addr) (c : Nat) (hrg : I64 rg) (h0 : -9223372036854775807 ≤ rg) (w : World)
 (hf : rpFun.SL w w.heap.size u.funcs (.slice fA fn fc)) (ha : rpVal.SL w w.heap.size x.args (.slice A x.args.length c)) (hop : 1 ≤ x.op ∧ x.op ≤ 22)
 (hD : opDst x.op = true) (hA : opA x.op = false) (hB : opB x.op = false) (hc : decide (x.op = 20) = true)
 (R : Ending → World → Prop) (hR : ∀ w', Below w.heap.size w w' → R (.returned (.int .i64 (insF u rg x))) w') :
 Calls Tryz.prog 138 #[(.agg #[.slice gA gn gc, .slice fA fn fc, .string nm, .int .i64 pr, .int .i64 rg, .slice bA bn bc', .slice aA an ac]), .agg #[.int .i64 x.op, .int .i64 x.dst, .bool x.a.reg, .int .i64 x.a.n, .bool x.b.reg, .int .i64 x.b.n, .int .i64 x.fn, .slice A x.args.length c]] w R := by
 have HR := Lib.hid hR
 have hop' : decide (1 ≤ x.op ∧ x.op ≤ 22) = true := by simpa using hop
 have hcb : (x.op == 20) = true := by simpa using hc
 have Hf := Lib.hid hf
 have Ha := Lib.hid ha
 have hal := ha.max
 unfold maxLen at hal
 clear hR hf ha
 have HC : Hid (((w.alloc (Obj.cells #[.slice gA gn gc, .slice fA fn fc, .string nm, .int .i64 pr, .int .i64 rg, .slice bA bn bc', .slice aA an ac] 171)).alloc (Obj.cells #[.int .i64 x.op, .int .i64 x.dst, .bool x.a.reg, .int .i64 x.a.n, .bool x.b.reg, .int .i64 x.b.n, .int .i64 x.fn, .slice A x.args.length c] 71)).heap[w.heap.size]? = some (.cells #[.slice gA gn gc, .slice fA fn fc, .string nm, .int .i64 pr, .int .i64 rg, .slice bA bn bc', .slice aA an ac] 171 (0, 0))) := Lib.hid (blk_alloc (heap_alloc_new _ _) _)
 have HX : Hid (((w.alloc (Obj.cells #[.slice gA gn gc, .slice fA fn fc, .string nm, .int .i64 pr, .int .i64 rg, .slice bA bn bc', .slice aA an ac] 171)).alloc (Obj.cells #[.int .i64 x.op, .int .i64 x.dst, .bool x.a.reg, .int .i64 x.a.n, .bool x.b.reg, .int .i64 x.b.n, .int .i64 x.fn, .slice A x.args.length c] 71)).heap[w.heap.size + 1]? = some (.cells #[.int .i64 x.op, .int .i64 x.dst, .bool x.a.reg, .int .i64 x.a.n, .bool x.b.reg, .int .i64 x.b.n, .int .i64 x.fn, .slice A x.args.length c] 71 (0, 0))) := Lib.hid (by
  have := heap_alloc_new (w.alloc (Obj.cells #[.slice gA gn gc, .slice fA fn fc, .string nm, .int .i64 pr, .int .i64 rg, .slice bA bn bc', .slice aA an ac] 171)) (Obj.cells #[.int .i64 x.op, .int .i64 x.dst, .bool x.a.reg, .int .i64 x.a.n, .bool x.b.reg, .int .i64 x.b.n, .int .i64 x.fn, .slice A x.args.length c] 71)
  simpa using this)
 by_cases n_A : ¬ isZ x.a = true
 ·have e : insF u rg x = 5 := by unfold insF; rw [if_neg (by omega), if_pos (.inr (.inl ⟨hA, by simpa using n_A⟩))]
  rw [e] at HR
  have t_A : ∀ w, (binOp .neq 64 (.agg #[.bool x.a.reg, .int .i64 x.a.n]) (.agg #[.bool false, .int .i64 0])).run Tryz.prog w = .ok (.bool true) w := fun w => by rw [neq_Val, isZ_eq, show isZ x.a = false from by simpa using n_A]; rfl
  clear e hop hc n_A
  go_enter Tryz.func138, Tryz.ntmps138
  go_wp2_with fail
  refine Within_calls _ _ _ _ _ ?_
  rw [hop']
  go_wp2_with fail
  refine Shapes_calls _ _ _ (fun w1 hb1 => ?_)
  rw [hD, hA, hB]
  have Hb1 := Lib.hid hb1
  have hs1 := hb1.size
  have hX := (hb1.block (w.heap.size + 1) (by simp)).trans HX.out
  have hCk := (hb1.block w.heap.size (by simp; omega)).trans HC.out
  clear hb1
  obtain ⟨x0, x1, x2, x3, x4, x5, x6, x7⟩ := ins_cells hX
  obtain ⟨c0, c1, c2, c3, c4, c5, c6⟩ := ckr_cells hCk
  have lx := blk_lt hX
  have lc := blk_lt hCk
  have HXw := Lib.hid hX
  have HCw := Lib.hid hCk
  clear hX hCk
  have Hbw := Lib.hid ((by exact bl0 : Below w.heap.size w _).trans (Hb1.out.mono (by simp; omega)))
  clear HX HC
  go_wp2
  exact HR.out _ (Hbw.out.trans ((by exact bl0 : Below w1.heap.size w1 _).mono Hbw.out.size))
 have t1_A := Lib.hid (Decidable.of_not_not n_A)
 clear n_A
 have t_A : ∀ w, (binOp .neq 64 (.agg #[.bool x.a.reg, .int .i64 x.a.n]) (.agg #[.bool false, .int .i64 0])).run Tryz.prog w = .ok (.bool false) w := fun w => by rw [neq_Val, isZ_eq, t1_A.out]; rfl
 by_cases n_B : ¬ isZ x.b = true
 ·have e : insF u rg x = 5 := by unfold insF; rw [if_neg (by omega), if_pos (.inr (.inr (.inl ⟨hB, by simpa using n_B⟩)))]
  rw [e] at HR
  have t_B : ∀ w, (binOp .neq 64 (.agg #[.bool x.b.reg, .int .i64 x.b.n]) (.agg #[.bool false, .int .i64 0])).run Tryz.prog w = .ok (.bool true) w := fun w => by rw [neq_Val, isZ_eq, show isZ x.b = false from by simpa using n_B]; rfl
  clear e hop hc n_B
  go_enter Tryz.func138, Tryz.ntmps138
  go_wp2_with fail
  refine Within_calls _ _ _ _ _ ?_
  rw [hop']
  go_wp2_with fail
  refine Shapes_calls _ _ _ (fun w1 hb1 => ?_)
  rw [hD, hA, hB]
  have Hb1 := Lib.hid hb1
  have hs1 := hb1.size
  have hX := (hb1.block (w.heap.size + 1) (by simp)).trans HX.out
  have hCk := (hb1.block w.heap.size (by simp; omega)).trans HC.out
  clear hb1
  obtain ⟨x0, x1, x2, x3, x4, x5, x6, x7⟩ := ins_cells hX
  obtain ⟨c0, c1, c2, c3, c4, c5, c6⟩ := ckr_cells hCk
  have lx := blk_lt hX
  have lc := blk_lt hCk
  have HXw := Lib.hid hX
  have HCw := Lib.hid hCk
  clear hX hCk
  have Hbw := Lib.hid ((by exact bl0 : Below w.heap.size w _).trans (Hb1.out.mono (by simp; omega)))
  clear HX HC
  go_wp2
  exact HR.out _ (Hbw.out.trans ((by exact bl0 : Below w1.heap.size w1 _).mono Hbw.out.size))
 have t1_B := Lib.hid (Decidable.of_not_not n_B)
 clear n_B
 have t_B : ∀ w, (binOp .neq 64 (.agg #[.bool x.b.reg, .int .i64 x.b.n]) (.agg #[.bool false, .int .i64 0])).run Tryz.prog w = .ok (.bool false) w := fun w => by rw [neq_Val, isZ_eq, t1_B.out]; rfl
 have e0 : insF u rg x = if opDst x.op = true ∧ ¬ (x.op = 20 ∧ x.dst = -1) ∧ dstF rg x.dst ≠ 0 then dstF rg x.dst else fst0 [valF rg x.a, valF rg x.b, callF u rg x] := by
  unfold insF
  rw [if_neg (by omega), if_neg (by
   rintro (⟨h1, h2⟩ | ⟨h1, h2⟩ | ⟨h1, h2⟩ | ⟨h1, h2⟩)
   ·exact (by rw [hD] at h1; cases h1)
   ·exact (by rw [t1_A.out] at h2; cases h2)
   ·exact (by rw [t1_B.out] at h2; cases h2)
   ·exact h1 (by simpa using hc))]
 rw [e0] at HR
 clear e0
 by_cases hm1 : x.dst = -1
 ·rw [if_neg (fun h => h.2.1 ⟨by simpa using hc, hm1⟩)] at HR
  have hmb : (x.dst == -1) = true := by simpa using hm1
  clear hop hm1
  go_enter Tryz.func138, Tryz.ntmps138
  go_wp2_with fail
  refine Within_calls _ _ _ _ _ ?_
  rw [hop']
  go_wp2_with fail
  refine Shapes_calls _ _ _ (fun w1 hb1 => ?_)
  rw [hD, hA, hB]
  have Hb1 := Lib.hid hb1
  have hs1 := hb1.size
  have hX := (hb1.block (w.heap.size + 1) (by simp)).trans HX.out
  have hCk := (hb1.block w.heap.size (by simp; omega)).trans HC.out
  clear hb1
  obtain ⟨x0, x1, x2, x3, x4, x5, x6, x7⟩ := ins_cells hX
  obtain ⟨c0, c1, c2, c3, c4, c5, c6⟩ := ckr_cells hCk
  have lx := blk_lt hX
  have lc := blk_lt hCk
  have HXw := Lib.hid hX
  have HCw := Lib.hid hCk
  clear hX hCk
  have Hbw := Lib.hid ((by exact bl0 : Below w.heap.size w _).trans (Hb1.out.mono (by simp; omega)))
  clear HX HC
  have hb12 : Below w1.heap.size w1 ((w1.alloc (Obj.cells #[.bool true, .bool false, .bool false] 148)).alloc (Obj.cells #[.bool true] 4)) := by exact bl0
  have hL2 : ((w1.alloc (Obj.cells #[.bool true, .bool false, .bool false] 148)).alloc (Obj.cells #[.bool true] 4)).heap[w1.heap.size + 1]? = some (.cells #[.bool true] 4 (0, 0)) := (by have := heap_alloc_new (w1.alloc (Obj.cells #[.bool true, .bool false, .bool false] 148)) (Obj.cells #[.bool true] 4); simpa using this)
  have hC2 := (hb12.block _ lc).trans HCw.out
  have hX2 := (hb12.block _ lx).trans HXw.out
  have hs12 := hb12.size
  have hB2 := Hbw.out.trans (hb12.mono Hbw.out.size)
  have HC3 := Lib.hid (blk_alloc hC2 (Obj.cells #[.func (.func 155) #[] #[.pointer (some ⟨w.heap.size, 0, none⟩), .pointer (some ⟨w.heap.size + 1, 0, none⟩)], .func (.func 156) #[] #[.pointer (some ⟨w.heap.size, 0, none⟩), .pointer (some ⟨w.heap.size + 1, 0, none⟩)], .func (.func 157) #[] #[.pointer (some ⟨w1.heap.size + 1, 0, none⟩), .pointer (some ⟨w.heap.size + 1, 0, none⟩), .pointer (some ⟨w.heap.size, 0, none⟩)]] 173))
  have HX3 := Lib.hid (blk_alloc hX2 (Obj.cells #[.func (.func 155) #[] #[.pointer (some ⟨w.heap.size, 0, none⟩), .pointer (some ⟨w.heap.size + 1, 0, none⟩)], .func (.func 156) #[] #[.pointer (some ⟨w.heap.size, 0, none⟩), .pointer (some ⟨w.heap.size + 1, 0, none⟩)], .func (.func 157) #[] #[.pointer (some ⟨w1.heap.size + 1, 0, none⟩), .pointer (some ⟨w.heap.size + 1, 0, none⟩), .pointer (some ⟨w.heap.size, 0, none⟩)]] 173))
  have HL3 := Lib.hid (blk_alloc hL2 (Obj.cells #[.func (.func 155) #[] #[.pointer (some ⟨w.heap.size, 0, none⟩), .pointer (some ⟨w.heap.size + 1, 0, none⟩)], .func (.func 156) #[] #[.pointer (some ⟨w.heap.size, 0, none⟩), .pointer (some ⟨w.heap.size + 1, 0, none⟩)], .func (.func 157) #[] #[.pointer (some ⟨w1.heap.size + 1, 0, none⟩), .pointer (some ⟨w.heap.size + 1, 0, none⟩), .pointer (some ⟨w.heap.size, 0, none⟩)]] 173))
  have HN3 := Lib.hid (heap_alloc_new ((w1.alloc (Obj.cells #[.bool true, .bool false, .bool false] 148)).alloc (Obj.cells #[.bool true] 4)) (Obj.cells #[.func (.func 155) #[] #[.pointer (some ⟨w.heap.size, 0, none⟩), .pointer (some ⟨w.heap.size + 1, 0, none⟩)], .func (.func 156) #[] #[.pointer (some ⟨w.heap.size, 0, none⟩), .pointer (some ⟨w.heap.size + 1, 0, none⟩)], .func (.func 157) #[] #[.pointer (some ⟨w1.heap.size + 1, 0, none⟩), .pointer (some ⟨w.heap.size + 1, 0, none⟩), .pointer (some ⟨w.heap.size, 0, none⟩)]] 173))
  have HB3 : Hid (Below w.heap.size w (((w1.alloc (Obj.cells #[.bool true, .bool false, .bool false] 148)).alloc (Obj.cells #[.bool true] 4)).alloc (Obj.cells #[.func (.func 155) #[] #[.pointer (some ⟨w.heap.size, 0, none⟩), .pointer (some ⟨w.heap.size + 1, 0, none⟩)], .func (.func 156) #[] #[.pointer (some ⟨w.heap.size, 0, none⟩), .pointer (some ⟨w.heap.size + 1, 0, none⟩)], .func (.func 157) #[] #[.pointer (some ⟨w1.heap.size + 1, 0, none⟩), .pointer (some ⟨w.heap.size + 1, 0, none⟩), .pointer (some ⟨w.heap.size, 0, none⟩)]] 173))) := Lib.hid (hB2.trans ((by exact bl0 : Below ((w1.alloc (Obj.cells #[.bool true, .bool false, .bool false] 148)).alloc (Obj.cells #[.bool true] 4)).heap.size ((w1.alloc (Obj.cells #[.bool true, .bool false, .bool false] 148)).alloc (Obj.cells #[.bool true] 4)) _).mono hB2.size))
  clear hC2 hX2 hL2 hb12 hB2
  go_wp2_with fail
  refine first_calls _ (w1.heap.size + 1) w.heap.size (w.heap.size + 1) (valF rg x.a) (valF rg x.b) (callF u rg x) _ ?_ ?_ ?_ ?_ ?_ ?_ ?_ _ (fun w4 hb4 => ?_)
  ·first | (simp; done) | exact blk_lt HN3.out
  ·rw [blk_cells (by first | exact HN3.out | (simpa using HN3.out))]; rfl
  ·rw [blk_cells (by first | exact HN3.out | (simpa using HN3.out))]; rfl
  ·rw [blk_cells (by first | exact HN3.out | (simpa using HN3.out))]; rfl
  ·exact fun w5 hb5 R5 hR5 => ins1_calls gA fA bA aA gn gc fn fc bn bc' an ac nm pr rg x (.slice A x.args.length c) hrg h0 w.heap.size (w.heap.size + 1) _ _ w5 ((hb5.block _ (blk_lt HC3.out)).trans HC3.out) ((hb5.block _ (blk_lt HX3.out)).trans HX3.out) R5 hR5
  ·exact fun w5 hb5 R5 hR5 => ins2_calls gA fA bA aA gn gc fn fc bn bc' an ac nm pr rg x (.slice A x.args.length c) hrg h0 w.heap.size (w.heap.size + 1) _ _ w5 ((hb5.block _ (blk_lt HC3.out)).trans HC3.out) ((hb5.block _ (blk_lt HX3.out)).trans HX3.out) R5 hR5
  ·intro w5 hb5 R5 hR5
   have hB5 := HB3.out.trans (hb5.mono HB3.out.size)
   have hL5 := (hb5.block _ (blk_lt HL3.out)).trans HL3.out
   rw [← hc] at hL5
   exact ins3_calls gA fA bA aA gn gc fn fc bn bc' an ac nm pr rg u x (.slice A x.args.length c) hrg h0 (w1.heap.size + 1) w.heap.size (w.heap.size + 1) _ _ _ w5 hL5 ((hb5.block _ (blk_lt HC3.out)).trans HC3.out) ((hb5.block _ (blk_lt HX3.out)).trans HX3.out) (Hf.out.up hB5 hB5.size) (Ha.out.up hB5 hB5.size) R5 hR5
  have Hfin := Lib.hid (HR.out _ (HB3.out.trans (hb4.mono HB3.out.size)))
  clear hb4
  go_wp2
  exact Hfin.out
 ·have hmb : (x.dst == -1) = false := by simpa using hm1
  by_cases hdz : dstF rg x.dst = 0
  ·rw [if_neg (fun h => h.2.2 hdz)] at HR
   have hdb : (dstF rg x.dst != 0) = false := by simpa using hdz
   clear hop
   go_enter Tryz.func138, Tryz.ntmps138
   go_wp2_with fail
   refine Within_calls _ _ _ _ _ ?_
   rw [hop']
   go_wp2_with fail
   refine Shapes_calls _ _ _ (fun w1 hb1 => ?_)
   rw [hD, hA, hB]
   have Hb1 := Lib.hid hb1
   have hs1 := hb1.size
   have hX := (hb1.block (w.heap.size + 1) (by simp)).trans HX.out
   have hCk := (hb1.block w.heap.size (by simp; omega)).trans HC.out
   clear hb1
   obtain ⟨x0, x1, x2, x3, x4, x5, x6, x7⟩ := ins_cells hX
   obtain ⟨c0, c1, c2, c3, c4, c5, c6⟩ := ckr_cells hCk
   have lx := blk_lt hX
   have lc := blk_lt hCk
   have HXw := Lib.hid hX
   have HCw := Lib.hid hCk
   clear hX hCk
   have Hbw := Lib.hid ((by exact bl0 : Below w.heap.size w _).trans (Hb1.out.mono (by simp; omega)))
   clear HX HC
   go_wp2_with fail
   refine dst_calls gA fA bA aA gn gc fn fc bn bc' an ac nm pr rg x.dst hrg _ h0 _ (fun w2 hb2 => ?_)
   rw [hdz]
   have hb12 : Below w1.heap.size w1 w2 := (by exact bl0 : Below w1.heap.size w1 _).trans (hb2.mono (by simp; omega))
   have hL2 : w2.heap[w1.heap.size + 1]? = some (.cells #[.bool true] 4 (0, 0)) := (hb2.block _ (by simp)).trans (by have := heap_alloc_new (w1.alloc (Obj.cells #[.bool true, .bool false, .bool false] 148)) (Obj.cells #[.bool true] 4); simpa using this)
   clear hb2
   have hC2 := (hb12.block _ lc).trans HCw.out
   have hX2 := (hb12.block _ lx).trans HXw.out
   have hs12 := hb12.size
   have hB2 := Hbw.out.trans (hb12.mono Hbw.out.size)
   have HC3 := Lib.hid (blk_alloc hC2 (Obj.cells #[.func (.func 155) #[] #[.pointer (some ⟨w.heap.size, 0, none⟩), .pointer (some ⟨w.heap.size + 1, 0, none⟩)], .func (.func 156) #[] #[.pointer (some ⟨w.heap.size, 0, none⟩), .pointer (some ⟨w.heap.size + 1, 0, none⟩)], .func (.func 157) #[] #[.pointer (some ⟨w1.heap.size + 1, 0, none⟩), .pointer (some ⟨w.heap.size + 1, 0, none⟩), .pointer (some ⟨w.heap.size, 0, none⟩)]] 173))
   have HX3 := Lib.hid (blk_alloc hX2 (Obj.cells #[.func (.func 155) #[] #[.pointer (some ⟨w.heap.size, 0, none⟩), .pointer (some ⟨w.heap.size + 1, 0, none⟩)], .func (.func 156) #[] #[.pointer (some ⟨w.heap.size, 0, none⟩), .pointer (some ⟨w.heap.size + 1, 0, none⟩)], .func (.func 157) #[] #[.pointer (some ⟨w1.heap.size + 1, 0, none⟩), .pointer (some ⟨w.heap.size + 1, 0, none⟩), .pointer (some ⟨w.heap.size, 0, none⟩)]] 173))
   have HL3 := Lib.hid (blk_alloc hL2 (Obj.cells #[.func (.func 155) #[] #[.pointer (some ⟨w.heap.size, 0, none⟩), .pointer (some ⟨w.heap.size + 1, 0, none⟩)], .func (.func 156) #[] #[.pointer (some ⟨w.heap.size, 0, none⟩), .pointer (some ⟨w.heap.size + 1, 0, none⟩)], .func (.func 157) #[] #[.pointer (some ⟨w1.heap.size + 1, 0, none⟩), .pointer (some ⟨w.heap.size + 1, 0, none⟩), .pointer (some ⟨w.heap.size, 0, none⟩)]] 173))
   have HN3 := Lib.hid (heap_alloc_new w2 (Obj.cells #[.func (.func 155) #[] #[.pointer (some ⟨w.heap.size, 0, none⟩), .pointer (some ⟨w.heap.size + 1, 0, none⟩)], .func (.func 156) #[] #[.pointer (some ⟨w.heap.size, 0, none⟩), .pointer (some ⟨w.heap.size + 1, 0, none⟩)], .func (.func 157) #[] #[.pointer (some ⟨w1.heap.size + 1, 0, none⟩), .pointer (some ⟨w.heap.size + 1, 0, none⟩), .pointer (some ⟨w.heap.size, 0, none⟩)]] 173))
   have HB3 : Hid (Below w.heap.size w (w2.alloc (Obj.cells #[.func (.func 155) #[] #[.pointer (some ⟨w.heap.size, 0, none⟩), .pointer (some ⟨w.heap.size + 1, 0, none⟩)], .func (.func 156) #[] #[.pointer (some ⟨w.heap.size, 0, none⟩), .pointer (some ⟨w.heap.size + 1, 0, none⟩)], .func (.func 157) #[] #[.pointer (some ⟨w1.heap.size + 1, 0, none⟩), .pointer (some ⟨w.heap.size + 1, 0, none⟩), .pointer (some ⟨w.heap.size, 0, none⟩)]] 173))) := Lib.hid (hB2.trans ((by exact bl0 : Below w2.heap.size w2 _).mono hB2.size))
   clear hC2 hX2 hL2 hb12 hB2
   go_wp2_with fail
   refine first_calls _ (w1.heap.size + 1) w.heap.size (w.heap.size + 1) (valF rg x.a) (valF rg x.b) (callF u rg x) _ ?_ ?_ ?_ ?_ ?_ ?_ ?_ _ (fun w4 hb4 => ?_)
   ·first | (simp; done) | exact blk_lt HN3.out
   ·rw [blk_cells (by first | exact HN3.out | (simpa using HN3.out))]; rfl
   ·rw [blk_cells (by first | exact HN3.out | (simpa using HN3.out))]; rfl
   ·rw [blk_cells (by first | exact HN3.out | (simpa using HN3.out))]; rfl
   ·exact fun w5 hb5 R5 hR5 => ins1_calls gA fA bA aA gn gc fn fc bn bc' an ac nm pr rg x (.slice A x.args.length c) hrg h0 w.heap.size (w.heap.size + 1) _ _ w5 ((hb5.block _ (blk_lt HC3.out)).trans HC3.out) ((hb5.block _ (blk_lt HX3.out)).trans HX3.out) R5 hR5
   ·exact fun w5 hb5 R5 hR5 => ins2_calls gA fA bA aA gn gc fn fc bn bc' an ac nm pr rg x (.slice A x.args.length c) hrg h0 w.heap.size (w.heap.size + 1) _ _ w5 ((hb5.block _ (blk_lt HC3.out)).trans HC3.out) ((hb5.block _ (blk_lt HX3.out)).trans HX3.out) R5 hR5
   ·intro w5 hb5 R5 hR5
    have hB5 := HB3.out.trans (hb5.mono HB3.out.size)
    have hL5 := (hb5.block _ (blk_lt HL3.out)).trans HL3.out
    rw [← hc] at hL5
    exact ins3_calls gA fA bA aA gn gc fn fc bn bc' an ac nm pr rg u x (.slice A x.args.length c) hrg h0 (w1.heap.size + 1) w.heap.size (w.heap.size + 1) _ _ _ w5 hL5 ((hb5.block _ (blk_lt HC3.out)).trans HC3.out) ((hb5.block _ (blk_lt HX3.out)).trans HX3.out) (Hf.out.up hB5 hB5.size) (Ha.out.up hB5 hB5.size) R5 hR5
   have Hfin := Lib.hid (HR.out _ (HB3.out.trans (hb4.mono HB3.out.size)))
   clear hb4
   go_wp2
   exact Hfin.out
  ·rw [if_pos ⟨hD, fun h => absurd h.2 hm1, hdz⟩] at HR
   have hdb : (dstF rg x.dst != 0) = true := by simpa using hdz
   clear hop hc
   go_enter Tryz.func138, Tryz.ntmps138
   go_wp2_with fail
   refine Within_calls _ _ _ _ _ ?_
   rw [hop']
   go_wp2_with fail
   refine Shapes_calls _ _ _ (fun w1 hb1 => ?_)
   rw [hD, hA, hB]
   have Hb1 := Lib.hid hb1
   have hs1 := hb1.size
   have hX := (hb1.block (w.heap.size + 1) (by simp)).trans HX.out
   have hCk := (hb1.block w.heap.size (by simp; omega)).trans HC.out
   clear hb1
   obtain ⟨x0, x1, x2, x3, x4, x5, x6, x7⟩ := ins_cells hX
   obtain ⟨c0, c1, c2, c3, c4, c5, c6⟩ := ckr_cells hCk
   have lx := blk_lt hX
   have lc := blk_lt hCk
   have HXw := Lib.hid hX
   have HCw := Lib.hid hCk
   clear hX hCk
   have Hbw := Lib.hid ((by exact bl0 : Below w.heap.size w _).trans (Hb1.out.mono (by simp; omega)))
   clear HX HC
   go_wp2_with fail
   refine dst_calls gA fA bA aA gn gc fn fc bn bc' an ac nm pr rg x.dst hrg _ h0 _ (fun w2 hb2 => ?_)
   have Hb2 := Lib.hid (Hbw.out.trans (((by exact bl0 : Below w1.heap.size w1 _).trans (hb2.mono (by simp; omega))).mono Hbw.out.size))
   clear hb2
   go_wp2
   exact HR.out _ Hb2.out
set_option maxRecDepth 100000 in
set_option maxHeartbeats 8000000 in
theorem ins_read (gA fA bA aA : Option Addr) (gn gc fn fc bn bc' an ac : Nat) (nm : ByteArray) (pr rg : Int) (u : Unt) (x : UIns) (A : Option Addr) (c : Nat) (hrg : I64 rg) (h0 : -9223372036854775807 ≤ rg) (w : World)
 (hf : rpFun.SL w w.heap.size u.funcs (.slice fA fn fc)) (ha : rpVal.SL w w.heap.size x.args (.slice A x.args.length c)) (hop : 1 ≤ x.op ∧ x.op ≤ 22)
 (hD : opDst x.op = true) (hA : opA x.op = false) (hB : opB x.op = false) (hc : decide (x.op = 20) = false)
 (R : Ending → World → Prop) (hR : ∀ w', Below w.heap.size w w' → R (.returned (.int .i64 (insF u rg x))) w') :
 Calls Tryz.prog 138 #[(.agg #[.slice gA gn gc, .slice fA fn fc, .string nm, .int .i64 pr, .int .i64 rg, .slice bA bn bc', .slice aA an ac]), .agg #[.int .i64 x.op, .int .i64 x.dst, .bool x.a.reg, .int .i64 x.a.n, .bool x.b.reg, .int .i64 x.b.n, .int .i64 x.fn, .slice A x.args.length c]] w R := by
 have HR := Lib.hid hR
 have hop' : decide (1 ≤ x.op ∧ x.op ≤ 22) = true := by simpa using hop
 have hcb : (x.op == 20) = false := by simpa using hc
 have Hf := Lib.hid hf
 have Ha := Lib.hid ha
 have hal := ha.max
 unfold maxLen at hal
 clear hR hf ha
 have HC : Hid (((w.alloc (Obj.cells #[.slice gA gn gc, .slice fA fn fc, .string nm, .int .i64 pr, .int .i64 rg, .slice bA bn bc', .slice aA an ac] 171)).alloc (Obj.cells #[.int .i64 x.op, .int .i64 x.dst, .bool x.a.reg, .int .i64 x.a.n, .bool x.b.reg, .int .i64 x.b.n, .int .i64 x.fn, .slice A x.args.length c] 71)).heap[w.heap.size]? = some (.cells #[.slice gA gn gc, .slice fA fn fc, .string nm, .int .i64 pr, .int .i64 rg, .slice bA bn bc', .slice aA an ac] 171 (0, 0))) := Lib.hid (blk_alloc (heap_alloc_new _ _) _)
 have HX : Hid (((w.alloc (Obj.cells #[.slice gA gn gc, .slice fA fn fc, .string nm, .int .i64 pr, .int .i64 rg, .slice bA bn bc', .slice aA an ac] 171)).alloc (Obj.cells #[.int .i64 x.op, .int .i64 x.dst, .bool x.a.reg, .int .i64 x.a.n, .bool x.b.reg, .int .i64 x.b.n, .int .i64 x.fn, .slice A x.args.length c] 71)).heap[w.heap.size + 1]? = some (.cells #[.int .i64 x.op, .int .i64 x.dst, .bool x.a.reg, .int .i64 x.a.n, .bool x.b.reg, .int .i64 x.b.n, .int .i64 x.fn, .slice A x.args.length c] 71 (0, 0))) := Lib.hid (by
  have := heap_alloc_new (w.alloc (Obj.cells #[.slice gA gn gc, .slice fA fn fc, .string nm, .int .i64 pr, .int .i64 rg, .slice bA bn bc', .slice aA an ac] 171)) (Obj.cells #[.int .i64 x.op, .int .i64 x.dst, .bool x.a.reg, .int .i64 x.a.n, .bool x.b.reg, .int .i64 x.b.n, .int .i64 x.fn, .slice A x.args.length c] 71)
  simpa using this)
 by_cases n_A : ¬ isZ x.a = true
 ·have e : insF u rg x = 5 := by unfold insF; rw [if_neg (by omega), if_pos (.inr (.inl ⟨hA, by simpa using n_A⟩))]
  rw [e] at HR
  have t_A : ∀ w, (binOp .neq 64 (.agg #[.bool x.a.reg, .int .i64 x.a.n]) (.agg #[.bool false, .int .i64 0])).run Tryz.prog w = .ok (.bool true) w := fun w => by rw [neq_Val, isZ_eq, show isZ x.a = false from by simpa using n_A]; rfl
  clear e hop hc n_A
  go_enter Tryz.func138, Tryz.ntmps138
  go_wp2_with fail
  refine Within_calls _ _ _ _ _ ?_
  rw [hop']
  go_wp2_with fail
  refine Shapes_calls _ _ _ (fun w1 hb1 => ?_)
  rw [hD, hA, hB]
  have Hb1 := Lib.hid hb1
  have hs1 := hb1.size
  have hX := (hb1.block (w.heap.size + 1) (by simp)).trans HX.out
  have hCk := (hb1.block w.heap.size (by simp; omega)).trans HC.out
  clear hb1
  obtain ⟨x0, x1, x2, x3, x4, x5, x6, x7⟩ := ins_cells hX
  obtain ⟨c0, c1, c2, c3, c4, c5, c6⟩ := ckr_cells hCk
  have lx := blk_lt hX
  have lc := blk_lt hCk
  have HXw := Lib.hid hX
  have HCw := Lib.hid hCk
  clear hX hCk
  have Hbw := Lib.hid ((by exact bl0 : Below w.heap.size w _).trans (Hb1.out.mono (by simp; omega)))
  clear HX HC
  go_wp2
  exact HR.out _ (Hbw.out.trans ((by exact bl0 : Below w1.heap.size w1 _).mono Hbw.out.size))
 have t1_A := Lib.hid (Decidable.of_not_not n_A)
 clear n_A
 have t_A : ∀ w, (binOp .neq 64 (.agg #[.bool x.a.reg, .int .i64 x.a.n]) (.agg #[.bool false, .int .i64 0])).run Tryz.prog w = .ok (.bool false) w := fun w => by rw [neq_Val, isZ_eq, t1_A.out]; rfl
 by_cases n_B : ¬ isZ x.b = true
 ·have e : insF u rg x = 5 := by unfold insF; rw [if_neg (by omega), if_pos (.inr (.inr (.inl ⟨hB, by simpa using n_B⟩)))]
  rw [e] at HR
  have t_B : ∀ w, (binOp .neq 64 (.agg #[.bool x.b.reg, .int .i64 x.b.n]) (.agg #[.bool false, .int .i64 0])).run Tryz.prog w = .ok (.bool true) w := fun w => by rw [neq_Val, isZ_eq, show isZ x.b = false from by simpa using n_B]; rfl
  clear e hop hc n_B
  go_enter Tryz.func138, Tryz.ntmps138
  go_wp2_with fail
  refine Within_calls _ _ _ _ _ ?_
  rw [hop']
  go_wp2_with fail
  refine Shapes_calls _ _ _ (fun w1 hb1 => ?_)
  rw [hD, hA, hB]
  have Hb1 := Lib.hid hb1
  have hs1 := hb1.size
  have hX := (hb1.block (w.heap.size + 1) (by simp)).trans HX.out
  have hCk := (hb1.block w.heap.size (by simp; omega)).trans HC.out
  clear hb1
  obtain ⟨x0, x1, x2, x3, x4, x5, x6, x7⟩ := ins_cells hX
  obtain ⟨c0, c1, c2, c3, c4, c5, c6⟩ := ckr_cells hCk
  have lx := blk_lt hX
  have lc := blk_lt hCk
  have HXw := Lib.hid hX
  have HCw := Lib.hid hCk
  clear hX hCk
  have Hbw := Lib.hid ((by exact bl0 : Below w.heap.size w _).trans (Hb1.out.mono (by simp; omega)))
  clear HX HC
  go_wp2
  exact HR.out _ (Hbw.out.trans ((by exact bl0 : Below w1.heap.size w1 _).mono Hbw.out.size))
 have t1_B := Lib.hid (Decidable.of_not_not n_B)
 clear n_B
 have t_B : ∀ w, (binOp .neq 64 (.agg #[.bool x.b.reg, .int .i64 x.b.n]) (.agg #[.bool false, .int .i64 0])).run Tryz.prog w = .ok (.bool false) w := fun w => by rw [neq_Val, isZ_eq, t1_B.out]; rfl
 by_cases n_fn : ¬ x.fn = 0
 ·have e : insF u rg x = 5 := by unfold insF; rw [if_neg (by omega), if_pos (.inr (.inr (.inr ⟨by simpa using hc, .inl n_fn⟩)))]
  rw [e] at HR
  have t_fn : (x.fn != 0) = true := by simpa using n_fn
  clear e hop hc n_fn
  go_enter Tryz.func138, Tryz.ntmps138
  go_wp2_with fail
  refine Within_calls _ _ _ _ _ ?_
  rw [hop']
  go_wp2_with fail
  refine Shapes_calls _ _ _ (fun w1 hb1 => ?_)
  rw [hD, hA, hB]
  have Hb1 := Lib.hid hb1
  have hs1 := hb1.size
  have hX := (hb1.block (w.heap.size + 1) (by simp)).trans HX.out
  have hCk := (hb1.block w.heap.size (by simp; omega)).trans HC.out
  clear hb1
  obtain ⟨x0, x1, x2, x3, x4, x5, x6, x7⟩ := ins_cells hX
  obtain ⟨c0, c1, c2, c3, c4, c5, c6⟩ := ckr_cells hCk
  have lx := blk_lt hX
  have lc := blk_lt hCk
  have HXw := Lib.hid hX
  have HCw := Lib.hid hCk
  clear hX hCk
  have Hbw := Lib.hid ((by exact bl0 : Below w.heap.size w _).trans (Hb1.out.mono (by simp; omega)))
  clear HX HC
  go_wp2
  exact HR.out _ (Hbw.out.trans ((by exact bl0 : Below w1.heap.size w1 _).mono Hbw.out.size))
 have t1_fn := Lib.hid (Decidable.of_not_not n_fn)
 clear n_fn
 have t_fn : (x.fn != 0) = false := by simpa using t1_fn.out
 by_cases n_len : ¬ ¬ 0 < x.args.length
 ·have e : insF u rg x = 5 := by unfold insF; rw [if_neg (by omega), if_pos (.inr (.inr (.inr ⟨by simpa using hc, .inr (Decidable.of_not_not n_len)⟩)))]
  rw [e] at HR
  have t_len : (0 : Int) < (x.args.length : Int) := by omega
  clear e hop hc n_len
  go_enter Tryz.func138, Tryz.ntmps138
  go_wp2_with fail
  refine Within_calls _ _ _ _ _ ?_
  rw [hop']
  go_wp2_with fail
  refine Shapes_calls _ _ _ (fun w1 hb1 => ?_)
  rw [hD, hA, hB]
  have Hb1 := Lib.hid hb1
  have hs1 := hb1.size
  have hX := (hb1.block (w.heap.size + 1) (by simp)).trans HX.out
  have hCk := (hb1.block w.heap.size (by simp; omega)).trans HC.out
  clear hb1
  obtain ⟨x0, x1, x2, x3, x4, x5, x6, x7⟩ := ins_cells hX
  obtain ⟨c0, c1, c2, c3, c4, c5, c6⟩ := ckr_cells hCk
  have lx := blk_lt hX
  have lc := blk_lt hCk
  have HXw := Lib.hid hX
  have HCw := Lib.hid hCk
  clear hX hCk
  have Hbw := Lib.hid ((by exact bl0 : Below w.heap.size w _).trans (Hb1.out.mono (by simp; omega)))
  clear HX HC
  go_wp2
  exact HR.out _ (Hbw.out.trans ((by exact bl0 : Below w1.heap.size w1 _).mono Hbw.out.size))
 have t_len : ¬ (0 : Int) < (x.args.length : Int) := by omega
 have e0 : insF u rg x = if opDst x.op = true ∧ ¬ (x.op = 20 ∧ x.dst = -1) ∧ dstF rg x.dst ≠ 0 then dstF rg x.dst else fst0 [valF rg x.a, valF rg x.b, callF u rg x] := by
  unfold insF
  rw [if_neg (by omega), if_neg (by
   rintro (⟨h1, h2⟩ | ⟨h1, h2⟩ | ⟨h1, h2⟩ | ⟨h1, h2⟩)
   ·exact (by rw [hD] at h1; cases h1)
   ·exact (by rw [t1_A.out] at h2; cases h2)
   ·exact (by rw [t1_B.out] at h2; cases h2)
   ·exact h2.elim (fun h => h t1_fn.out) (fun h => by omega))]
 rw [e0] at HR
 clear e0
 by_cases hdz : dstF rg x.dst = 0
 ·rw [if_neg (fun h => h.2.2 hdz)] at HR
  have hdb : (dstF rg x.dst != 0) = false := by simpa using hdz
  clear hop
  go_enter Tryz.func138, Tryz.ntmps138
  go_wp2_with fail
  refine Within_calls _ _ _ _ _ ?_
  rw [hop']
  go_wp2_with fail
  refine Shapes_calls _ _ _ (fun w1 hb1 => ?_)
  rw [hD, hA, hB]
  have Hb1 := Lib.hid hb1
  have hs1 := hb1.size
  have hX := (hb1.block (w.heap.size + 1) (by simp)).trans HX.out
  have hCk := (hb1.block w.heap.size (by simp; omega)).trans HC.out
  clear hb1
  obtain ⟨x0, x1, x2, x3, x4, x5, x6, x7⟩ := ins_cells hX
  obtain ⟨c0, c1, c2, c3, c4, c5, c6⟩ := ckr_cells hCk
  have lx := blk_lt hX
  have lc := blk_lt hCk
  have HXw := Lib.hid hX
  have HCw := Lib.hid hCk
  clear hX hCk
  have Hbw := Lib.hid ((by exact bl0 : Below w.heap.size w _).trans (Hb1.out.mono (by simp; omega)))
  clear HX HC
  go_wp2_with fail
  refine dst_calls gA fA bA aA gn gc fn fc bn bc' an ac nm pr rg x.dst hrg _ h0 _ (fun w2 hb2 => ?_)
  rw [hdz]
  have hb12 : Below w1.heap.size w1 w2 := (by exact bl0 : Below w1.heap.size w1 _).trans (hb2.mono (by simp; omega))
  have hL2 : w2.heap[w1.heap.size + 1]? = some (.cells #[.bool false] 4 (0, 0)) := (hb2.block _ (by simp)).trans (by have := heap_alloc_new (w1.alloc (Obj.cells #[.bool true, .bool false, .bool false] 148)) (Obj.cells #[.bool false] 4); simpa using this)
  clear hb2
  have hC2 := (hb12.block _ lc).trans HCw.out
  have hX2 := (hb12.block _ lx).trans HXw.out
  have hs12 := hb12.size
  have hB2 := Hbw.out.trans (hb12.mono Hbw.out.size)
  have HC3 := Lib.hid (blk_alloc hC2 (Obj.cells #[.func (.func 155) #[] #[.pointer (some ⟨w.heap.size, 0, none⟩), .pointer (some ⟨w.heap.size + 1, 0, none⟩)], .func (.func 156) #[] #[.pointer (some ⟨w.heap.size, 0, none⟩), .pointer (some ⟨w.heap.size + 1, 0, none⟩)], .func (.func 157) #[] #[.pointer (some ⟨w1.heap.size + 1, 0, none⟩), .pointer (some ⟨w.heap.size + 1, 0, none⟩), .pointer (some ⟨w.heap.size, 0, none⟩)]] 173))
  have HX3 := Lib.hid (blk_alloc hX2 (Obj.cells #[.func (.func 155) #[] #[.pointer (some ⟨w.heap.size, 0, none⟩), .pointer (some ⟨w.heap.size + 1, 0, none⟩)], .func (.func 156) #[] #[.pointer (some ⟨w.heap.size, 0, none⟩), .pointer (some ⟨w.heap.size + 1, 0, none⟩)], .func (.func 157) #[] #[.pointer (some ⟨w1.heap.size + 1, 0, none⟩), .pointer (some ⟨w.heap.size + 1, 0, none⟩), .pointer (some ⟨w.heap.size, 0, none⟩)]] 173))
  have HL3 := Lib.hid (blk_alloc hL2 (Obj.cells #[.func (.func 155) #[] #[.pointer (some ⟨w.heap.size, 0, none⟩), .pointer (some ⟨w.heap.size + 1, 0, none⟩)], .func (.func 156) #[] #[.pointer (some ⟨w.heap.size, 0, none⟩), .pointer (some ⟨w.heap.size + 1, 0, none⟩)], .func (.func 157) #[] #[.pointer (some ⟨w1.heap.size + 1, 0, none⟩), .pointer (some ⟨w.heap.size + 1, 0, none⟩), .pointer (some ⟨w.heap.size, 0, none⟩)]] 173))
  have HN3 := Lib.hid (heap_alloc_new w2 (Obj.cells #[.func (.func 155) #[] #[.pointer (some ⟨w.heap.size, 0, none⟩), .pointer (some ⟨w.heap.size + 1, 0, none⟩)], .func (.func 156) #[] #[.pointer (some ⟨w.heap.size, 0, none⟩), .pointer (some ⟨w.heap.size + 1, 0, none⟩)], .func (.func 157) #[] #[.pointer (some ⟨w1.heap.size + 1, 0, none⟩), .pointer (some ⟨w.heap.size + 1, 0, none⟩), .pointer (some ⟨w.heap.size, 0, none⟩)]] 173))
  have HB3 : Hid (Below w.heap.size w (w2.alloc (Obj.cells #[.func (.func 155) #[] #[.pointer (some ⟨w.heap.size, 0, none⟩), .pointer (some ⟨w.heap.size + 1, 0, none⟩)], .func (.func 156) #[] #[.pointer (some ⟨w.heap.size, 0, none⟩), .pointer (some ⟨w.heap.size + 1, 0, none⟩)], .func (.func 157) #[] #[.pointer (some ⟨w1.heap.size + 1, 0, none⟩), .pointer (some ⟨w.heap.size + 1, 0, none⟩), .pointer (some ⟨w.heap.size, 0, none⟩)]] 173))) := Lib.hid (hB2.trans ((by exact bl0 : Below w2.heap.size w2 _).mono hB2.size))
  clear hC2 hX2 hL2 hb12 hB2
  go_wp2_with fail
  refine first_calls _ (w1.heap.size + 1) w.heap.size (w.heap.size + 1) (valF rg x.a) (valF rg x.b) (callF u rg x) _ ?_ ?_ ?_ ?_ ?_ ?_ ?_ _ (fun w4 hb4 => ?_)
  ·first | (simp; done) | exact blk_lt HN3.out
  ·rw [blk_cells (by first | exact HN3.out | (simpa using HN3.out))]; rfl
  ·rw [blk_cells (by first | exact HN3.out | (simpa using HN3.out))]; rfl
  ·rw [blk_cells (by first | exact HN3.out | (simpa using HN3.out))]; rfl
  ·exact fun w5 hb5 R5 hR5 => ins1_calls gA fA bA aA gn gc fn fc bn bc' an ac nm pr rg x (.slice A x.args.length c) hrg h0 w.heap.size (w.heap.size + 1) _ _ w5 ((hb5.block _ (blk_lt HC3.out)).trans HC3.out) ((hb5.block _ (blk_lt HX3.out)).trans HX3.out) R5 hR5
  ·exact fun w5 hb5 R5 hR5 => ins2_calls gA fA bA aA gn gc fn fc bn bc' an ac nm pr rg x (.slice A x.args.length c) hrg h0 w.heap.size (w.heap.size + 1) _ _ w5 ((hb5.block _ (blk_lt HC3.out)).trans HC3.out) ((hb5.block _ (blk_lt HX3.out)).trans HX3.out) R5 hR5
  ·intro w5 hb5 R5 hR5
   have hB5 := HB3.out.trans (hb5.mono HB3.out.size)
   have hL5 := (hb5.block _ (blk_lt HL3.out)).trans HL3.out
   rw [← hc] at hL5
   exact ins3_calls gA fA bA aA gn gc fn fc bn bc' an ac nm pr rg u x (.slice A x.args.length c) hrg h0 (w1.heap.size + 1) w.heap.size (w.heap.size + 1) _ _ _ w5 hL5 ((hb5.block _ (blk_lt HC3.out)).trans HC3.out) ((hb5.block _ (blk_lt HX3.out)).trans HX3.out) (Hf.out.up hB5 hB5.size) (Ha.out.up hB5 hB5.size) R5 hR5
  have Hfin := Lib.hid (HR.out _ (HB3.out.trans (hb4.mono HB3.out.size)))
  clear hb4
  go_wp2
  exact Hfin.out
 ·rw [if_pos ⟨hD, fun h => by simp [h.1] at hc, hdz⟩] at HR
  have hdb : (dstF rg x.dst != 0) = true := by simpa using hdz
  clear hop hc
  go_enter Tryz.func138, Tryz.ntmps138
  go_wp2_with fail
  refine Within_calls _ _ _ _ _ ?_
  rw [hop']
  go_wp2_with fail
  refine Shapes_calls _ _ _ (fun w1 hb1 => ?_)
  rw [hD, hA, hB]
  have Hb1 := Lib.hid hb1
  have hs1 := hb1.size
  have hX := (hb1.block (w.heap.size + 1) (by simp)).trans HX.out
  have hCk := (hb1.block w.heap.size (by simp; omega)).trans HC.out
  clear hb1
  obtain ⟨x0, x1, x2, x3, x4, x5, x6, x7⟩ := ins_cells hX
  obtain ⟨c0, c1, c2, c3, c4, c5, c6⟩ := ckr_cells hCk
  have lx := blk_lt hX
  have lc := blk_lt hCk
  have HXw := Lib.hid hX
  have HCw := Lib.hid hCk
  clear hX hCk
  have Hbw := Lib.hid ((by exact bl0 : Below w.heap.size w _).trans (Hb1.out.mono (by simp; omega)))
  clear HX HC
  go_wp2_with fail
  refine dst_calls gA fA bA aA gn gc fn fc bn bc' an ac nm pr rg x.dst hrg _ h0 _ (fun w2 hb2 => ?_)
  have Hb2 := Lib.hid (Hbw.out.trans (((by exact bl0 : Below w1.heap.size w1 _).trans (hb2.mono (by simp; omega))).mono Hbw.out.size))
  clear hb2
  go_wp2
  exact HR.out _ Hb2.out
set_option maxRecDepth 100000 in
set_option maxHeartbeats 8000000 in
theorem ins_print (gA fA bA aA : Option Addr) (gn gc fn fc bn bc' an ac : Nat) (nm : ByteArray) (pr rg : Int) (u : Unt) (x : UIns) (A : Option Addr) (c : Nat) (hrg : I64 rg) (h0 : -9223372036854775807 ≤ rg) (w : World)
 (hf : rpFun.SL w w.heap.size u.funcs (.slice fA fn fc)) (ha : rpVal.SL w w.heap.size x.args (.slice A x.args.length c)) (hop : 1 ≤ x.op ∧ x.op ≤ 22)
 (hD : opDst x.op = false) (hA : opA x.op = true) (hB : opB x.op = false) (hc : decide (x.op = 20) = false)
 (R : Ending → World → Prop) (hR : ∀ w', Below w.heap.size w w' → R (.returned (.int .i64 (insF u rg x))) w') :
 Calls Tryz.prog 138 #[(.agg #[.slice gA gn gc, .slice fA fn fc, .string nm, .int .i64 pr, .int .i64 rg, .slice bA bn bc', .slice aA an ac]), .agg #[.int .i64 x.op, .int .i64 x.dst, .bool x.a.reg, .int .i64 x.a.n, .bool x.b.reg, .int .i64 x.b.n, .int .i64 x.fn, .slice A x.args.length c]] w R := by
 have HR := Lib.hid hR
 have hop' : decide (1 ≤ x.op ∧ x.op ≤ 22) = true := by simpa using hop
 have hcb : (x.op == 20) = false := by simpa using hc
 have Hf := Lib.hid hf
 have Ha := Lib.hid ha
 have hal := ha.max
 unfold maxLen at hal
 clear hR hf ha
 have HC : Hid (((w.alloc (Obj.cells #[.slice gA gn gc, .slice fA fn fc, .string nm, .int .i64 pr, .int .i64 rg, .slice bA bn bc', .slice aA an ac] 171)).alloc (Obj.cells #[.int .i64 x.op, .int .i64 x.dst, .bool x.a.reg, .int .i64 x.a.n, .bool x.b.reg, .int .i64 x.b.n, .int .i64 x.fn, .slice A x.args.length c] 71)).heap[w.heap.size]? = some (.cells #[.slice gA gn gc, .slice fA fn fc, .string nm, .int .i64 pr, .int .i64 rg, .slice bA bn bc', .slice aA an ac] 171 (0, 0))) := Lib.hid (blk_alloc (heap_alloc_new _ _) _)
 have HX : Hid (((w.alloc (Obj.cells #[.slice gA gn gc, .slice fA fn fc, .string nm, .int .i64 pr, .int .i64 rg, .slice bA bn bc', .slice aA an ac] 171)).alloc (Obj.cells #[.int .i64 x.op, .int .i64 x.dst, .bool x.a.reg, .int .i64 x.a.n, .bool x.b.reg, .int .i64 x.b.n, .int .i64 x.fn, .slice A x.args.length c] 71)).heap[w.heap.size + 1]? = some (.cells #[.int .i64 x.op, .int .i64 x.dst, .bool x.a.reg, .int .i64 x.a.n, .bool x.b.reg, .int .i64 x.b.n, .int .i64 x.fn, .slice A x.args.length c] 71 (0, 0))) := Lib.hid (by
  have := heap_alloc_new (w.alloc (Obj.cells #[.slice gA gn gc, .slice fA fn fc, .string nm, .int .i64 pr, .int .i64 rg, .slice bA bn bc', .slice aA an ac] 171)) (Obj.cells #[.int .i64 x.op, .int .i64 x.dst, .bool x.a.reg, .int .i64 x.a.n, .bool x.b.reg, .int .i64 x.b.n, .int .i64 x.fn, .slice A x.args.length c] 71)
  simpa using this)
 by_cases n_dst : ¬ x.dst = -1
 ·have e : insF u rg x = 5 := by unfold insF; rw [if_neg (by omega), if_pos (.inl ⟨hD, n_dst⟩)]
  rw [e] at HR
  have t_dst : (x.dst != -1) = true := by simpa using n_dst
  clear e hop hc n_dst
  go_enter Tryz.func138, Tryz.ntmps138
  go_wp2_with fail
  refine Within_calls _ _ _ _ _ ?_
  rw [hop']
  go_wp2_with fail
  refine Shapes_calls _ _ _ (fun w1 hb1 => ?_)
  rw [hD, hA, hB]
  have Hb1 := Lib.hid hb1
  have hs1 := hb1.size
  have hX := (hb1.block (w.heap.size + 1) (by simp)).trans HX.out
  have hCk := (hb1.block w.heap.size (by simp; omega)).trans HC.out
  clear hb1
  obtain ⟨x0, x1, x2, x3, x4, x5, x6, x7⟩ := ins_cells hX
  obtain ⟨c0, c1, c2, c3, c4, c5, c6⟩ := ckr_cells hCk
  have lx := blk_lt hX
  have lc := blk_lt hCk
  have HXw := Lib.hid hX
  have HCw := Lib.hid hCk
  clear hX hCk
  have Hbw := Lib.hid ((by exact bl0 : Below w.heap.size w _).trans (Hb1.out.mono (by simp; omega)))
  clear HX HC
  go_wp2
  exact HR.out _ (Hbw.out.trans ((by exact bl0 : Below w1.heap.size w1 _).mono Hbw.out.size))
 have t1_dst := Lib.hid (Decidable.of_not_not n_dst)
 clear n_dst
 have t_dst : (x.dst != -1) = false := by simpa using t1_dst.out
 by_cases n_B : ¬ isZ x.b = true
 ·have e : insF u rg x = 5 := by unfold insF; rw [if_neg (by omega), if_pos (.inr (.inr (.inl ⟨hB, by simpa using n_B⟩)))]
  rw [e] at HR
  have t_B : ∀ w, (binOp .neq 64 (.agg #[.bool x.b.reg, .int .i64 x.b.n]) (.agg #[.bool false, .int .i64 0])).run Tryz.prog w = .ok (.bool true) w := fun w => by rw [neq_Val, isZ_eq, show isZ x.b = false from by simpa using n_B]; rfl
  clear e hop hc n_B
  go_enter Tryz.func138, Tryz.ntmps138
  go_wp2_with fail
  refine Within_calls _ _ _ _ _ ?_
  rw [hop']
  go_wp2_with fail
  refine Shapes_calls _ _ _ (fun w1 hb1 => ?_)
  rw [hD, hA, hB]
  have Hb1 := Lib.hid hb1
  have hs1 := hb1.size
  have hX := (hb1.block (w.heap.size + 1) (by simp)).trans HX.out
  have hCk := (hb1.block w.heap.size (by simp; omega)).trans HC.out
  clear hb1
  obtain ⟨x0, x1, x2, x3, x4, x5, x6, x7⟩ := ins_cells hX
  obtain ⟨c0, c1, c2, c3, c4, c5, c6⟩ := ckr_cells hCk
  have lx := blk_lt hX
  have lc := blk_lt hCk
  have HXw := Lib.hid hX
  have HCw := Lib.hid hCk
  clear hX hCk
  have Hbw := Lib.hid ((by exact bl0 : Below w.heap.size w _).trans (Hb1.out.mono (by simp; omega)))
  clear HX HC
  go_wp2
  exact HR.out _ (Hbw.out.trans ((by exact bl0 : Below w1.heap.size w1 _).mono Hbw.out.size))
 have t1_B := Lib.hid (Decidable.of_not_not n_B)
 clear n_B
 have t_B : ∀ w, (binOp .neq 64 (.agg #[.bool x.b.reg, .int .i64 x.b.n]) (.agg #[.bool false, .int .i64 0])).run Tryz.prog w = .ok (.bool false) w := fun w => by rw [neq_Val, isZ_eq, t1_B.out]; rfl
 by_cases n_fn : ¬ x.fn = 0
 ·have e : insF u rg x = 5 := by unfold insF; rw [if_neg (by omega), if_pos (.inr (.inr (.inr ⟨by simpa using hc, .inl n_fn⟩)))]
  rw [e] at HR
  have t_fn : (x.fn != 0) = true := by simpa using n_fn
  clear e hop hc n_fn
  go_enter Tryz.func138, Tryz.ntmps138
  go_wp2_with fail
  refine Within_calls _ _ _ _ _ ?_
  rw [hop']
  go_wp2_with fail
  refine Shapes_calls _ _ _ (fun w1 hb1 => ?_)
  rw [hD, hA, hB]
  have Hb1 := Lib.hid hb1
  have hs1 := hb1.size
  have hX := (hb1.block (w.heap.size + 1) (by simp)).trans HX.out
  have hCk := (hb1.block w.heap.size (by simp; omega)).trans HC.out
  clear hb1
  obtain ⟨x0, x1, x2, x3, x4, x5, x6, x7⟩ := ins_cells hX
  obtain ⟨c0, c1, c2, c3, c4, c5, c6⟩ := ckr_cells hCk
  have lx := blk_lt hX
  have lc := blk_lt hCk
  have HXw := Lib.hid hX
  have HCw := Lib.hid hCk
  clear hX hCk
  have Hbw := Lib.hid ((by exact bl0 : Below w.heap.size w _).trans (Hb1.out.mono (by simp; omega)))
  clear HX HC
  go_wp2
  exact HR.out _ (Hbw.out.trans ((by exact bl0 : Below w1.heap.size w1 _).mono Hbw.out.size))
 have t1_fn := Lib.hid (Decidable.of_not_not n_fn)
 clear n_fn
 have t_fn : (x.fn != 0) = false := by simpa using t1_fn.out
 by_cases n_len : ¬ ¬ 0 < x.args.length
 ·have e : insF u rg x = 5 := by unfold insF; rw [if_neg (by omega), if_pos (.inr (.inr (.inr ⟨by simpa using hc, .inr (Decidable.of_not_not n_len)⟩)))]
  rw [e] at HR
  have t_len : (0 : Int) < (x.args.length : Int) := by omega
  clear e hop hc n_len
  go_enter Tryz.func138, Tryz.ntmps138
  go_wp2_with fail
  refine Within_calls _ _ _ _ _ ?_
  rw [hop']
  go_wp2_with fail
  refine Shapes_calls _ _ _ (fun w1 hb1 => ?_)
  rw [hD, hA, hB]
  have Hb1 := Lib.hid hb1
  have hs1 := hb1.size
  have hX := (hb1.block (w.heap.size + 1) (by simp)).trans HX.out
  have hCk := (hb1.block w.heap.size (by simp; omega)).trans HC.out
  clear hb1
  obtain ⟨x0, x1, x2, x3, x4, x5, x6, x7⟩ := ins_cells hX
  obtain ⟨c0, c1, c2, c3, c4, c5, c6⟩ := ckr_cells hCk
  have lx := blk_lt hX
  have lc := blk_lt hCk
  have HXw := Lib.hid hX
  have HCw := Lib.hid hCk
  clear hX hCk
  have Hbw := Lib.hid ((by exact bl0 : Below w.heap.size w _).trans (Hb1.out.mono (by simp; omega)))
  clear HX HC
  go_wp2
  exact HR.out _ (Hbw.out.trans ((by exact bl0 : Below w1.heap.size w1 _).mono Hbw.out.size))
 have t_len : ¬ (0 : Int) < (x.args.length : Int) := by omega
 have e0 : insF u rg x = if opDst x.op = true ∧ ¬ (x.op = 20 ∧ x.dst = -1) ∧ dstF rg x.dst ≠ 0 then dstF rg x.dst else fst0 [valF rg x.a, valF rg x.b, callF u rg x] := by
  unfold insF
  rw [if_neg (by omega), if_neg (by
   rintro (⟨h1, h2⟩ | ⟨h1, h2⟩ | ⟨h1, h2⟩ | ⟨h1, h2⟩)
   ·exact h2 t1_dst.out
   ·exact (by rw [hA] at h1; cases h1)
   ·exact (by rw [t1_B.out] at h2; cases h2)
   ·exact h2.elim (fun h => h t1_fn.out) (fun h => by omega))]
 rw [e0] at HR
 clear e0
 rw [if_neg (fun h => by rw [hD] at h; cases h.1)] at HR
 clear hop
 go_enter Tryz.func138, Tryz.ntmps138
 go_wp2_with fail
 refine Within_calls _ _ _ _ _ ?_
 rw [hop']
 go_wp2_with fail
 refine Shapes_calls _ _ _ (fun w1 hb1 => ?_)
 rw [hD, hA, hB]
 have Hb1 := Lib.hid hb1
 have hs1 := hb1.size
 have hX := (hb1.block (w.heap.size + 1) (by simp)).trans HX.out
 have hCk := (hb1.block w.heap.size (by simp; omega)).trans HC.out
 clear hb1
 obtain ⟨x0, x1, x2, x3, x4, x5, x6, x7⟩ := ins_cells hX
 obtain ⟨c0, c1, c2, c3, c4, c5, c6⟩ := ckr_cells hCk
 have lx := blk_lt hX
 have lc := blk_lt hCk
 have HXw := Lib.hid hX
 have HCw := Lib.hid hCk
 clear hX hCk
 have Hbw := Lib.hid ((by exact bl0 : Below w.heap.size w _).trans (Hb1.out.mono (by simp; omega)))
 clear HX HC
 have hb12 : Below w1.heap.size w1 ((w1.alloc (Obj.cells #[.bool false, .bool true, .bool false] 148)).alloc (Obj.cells #[.bool false] 4)) := by exact bl0
 have hL2 : ((w1.alloc (Obj.cells #[.bool false, .bool true, .bool false] 148)).alloc (Obj.cells #[.bool false] 4)).heap[w1.heap.size + 1]? = some (.cells #[.bool false] 4 (0, 0)) := (by have := heap_alloc_new (w1.alloc (Obj.cells #[.bool false, .bool true, .bool false] 148)) (Obj.cells #[.bool false] 4); simpa using this)
 have hC2 := (hb12.block _ lc).trans HCw.out
 have hX2 := (hb12.block _ lx).trans HXw.out
 have hs12 := hb12.size
 have hB2 := Hbw.out.trans (hb12.mono Hbw.out.size)
 have HC3 := Lib.hid (blk_alloc hC2 (Obj.cells #[.func (.func 155) #[] #[.pointer (some ⟨w.heap.size, 0, none⟩), .pointer (some ⟨w.heap.size + 1, 0, none⟩)], .func (.func 156) #[] #[.pointer (some ⟨w.heap.size, 0, none⟩), .pointer (some ⟨w.heap.size + 1, 0, none⟩)], .func (.func 157) #[] #[.pointer (some ⟨w1.heap.size + 1, 0, none⟩), .pointer (some ⟨w.heap.size + 1, 0, none⟩), .pointer (some ⟨w.heap.size, 0, none⟩)]] 173))
 have HX3 := Lib.hid (blk_alloc hX2 (Obj.cells #[.func (.func 155) #[] #[.pointer (some ⟨w.heap.size, 0, none⟩), .pointer (some ⟨w.heap.size + 1, 0, none⟩)], .func (.func 156) #[] #[.pointer (some ⟨w.heap.size, 0, none⟩), .pointer (some ⟨w.heap.size + 1, 0, none⟩)], .func (.func 157) #[] #[.pointer (some ⟨w1.heap.size + 1, 0, none⟩), .pointer (some ⟨w.heap.size + 1, 0, none⟩), .pointer (some ⟨w.heap.size, 0, none⟩)]] 173))
 have HL3 := Lib.hid (blk_alloc hL2 (Obj.cells #[.func (.func 155) #[] #[.pointer (some ⟨w.heap.size, 0, none⟩), .pointer (some ⟨w.heap.size + 1, 0, none⟩)], .func (.func 156) #[] #[.pointer (some ⟨w.heap.size, 0, none⟩), .pointer (some ⟨w.heap.size + 1, 0, none⟩)], .func (.func 157) #[] #[.pointer (some ⟨w1.heap.size + 1, 0, none⟩), .pointer (some ⟨w.heap.size + 1, 0, none⟩), .pointer (some ⟨w.heap.size, 0, none⟩)]] 173))
 have HN3 := Lib.hid (heap_alloc_new ((w1.alloc (Obj.cells #[.bool false, .bool true, .bool false] 148)).alloc (Obj.cells #[.bool false] 4)) (Obj.cells #[.func (.func 155) #[] #[.pointer (some ⟨w.heap.size, 0, none⟩), .pointer (some ⟨w.heap.size + 1, 0, none⟩)], .func (.func 156) #[] #[.pointer (some ⟨w.heap.size, 0, none⟩), .pointer (some ⟨w.heap.size + 1, 0, none⟩)], .func (.func 157) #[] #[.pointer (some ⟨w1.heap.size + 1, 0, none⟩), .pointer (some ⟨w.heap.size + 1, 0, none⟩), .pointer (some ⟨w.heap.size, 0, none⟩)]] 173))
 have HB3 : Hid (Below w.heap.size w (((w1.alloc (Obj.cells #[.bool false, .bool true, .bool false] 148)).alloc (Obj.cells #[.bool false] 4)).alloc (Obj.cells #[.func (.func 155) #[] #[.pointer (some ⟨w.heap.size, 0, none⟩), .pointer (some ⟨w.heap.size + 1, 0, none⟩)], .func (.func 156) #[] #[.pointer (some ⟨w.heap.size, 0, none⟩), .pointer (some ⟨w.heap.size + 1, 0, none⟩)], .func (.func 157) #[] #[.pointer (some ⟨w1.heap.size + 1, 0, none⟩), .pointer (some ⟨w.heap.size + 1, 0, none⟩), .pointer (some ⟨w.heap.size, 0, none⟩)]] 173))) := Lib.hid (hB2.trans ((by exact bl0 : Below ((w1.alloc (Obj.cells #[.bool false, .bool true, .bool false] 148)).alloc (Obj.cells #[.bool false] 4)).heap.size ((w1.alloc (Obj.cells #[.bool false, .bool true, .bool false] 148)).alloc (Obj.cells #[.bool false] 4)) _).mono hB2.size))
 clear hC2 hX2 hL2 hb12 hB2
 go_wp2_with fail
 refine first_calls _ (w1.heap.size + 1) w.heap.size (w.heap.size + 1) (valF rg x.a) (valF rg x.b) (callF u rg x) _ ?_ ?_ ?_ ?_ ?_ ?_ ?_ _ (fun w4 hb4 => ?_)
 ·first | (simp; done) | exact blk_lt HN3.out
 ·rw [blk_cells (by first | exact HN3.out | (simpa using HN3.out))]; rfl
 ·rw [blk_cells (by first | exact HN3.out | (simpa using HN3.out))]; rfl
 ·rw [blk_cells (by first | exact HN3.out | (simpa using HN3.out))]; rfl
 ·exact fun w5 hb5 R5 hR5 => ins1_calls gA fA bA aA gn gc fn fc bn bc' an ac nm pr rg x (.slice A x.args.length c) hrg h0 w.heap.size (w.heap.size + 1) _ _ w5 ((hb5.block _ (blk_lt HC3.out)).trans HC3.out) ((hb5.block _ (blk_lt HX3.out)).trans HX3.out) R5 hR5
 ·exact fun w5 hb5 R5 hR5 => ins2_calls gA fA bA aA gn gc fn fc bn bc' an ac nm pr rg x (.slice A x.args.length c) hrg h0 w.heap.size (w.heap.size + 1) _ _ w5 ((hb5.block _ (blk_lt HC3.out)).trans HC3.out) ((hb5.block _ (blk_lt HX3.out)).trans HX3.out) R5 hR5
 ·intro w5 hb5 R5 hR5
  have hB5 := HB3.out.trans (hb5.mono HB3.out.size)
  have hL5 := (hb5.block _ (blk_lt HL3.out)).trans HL3.out
  rw [← hc] at hL5
  exact ins3_calls gA fA bA aA gn gc fn fc bn bc' an ac nm pr rg u x (.slice A x.args.length c) hrg h0 (w1.heap.size + 1) w.heap.size (w.heap.size + 1) _ _ _ w5 hL5 ((hb5.block _ (blk_lt HC3.out)).trans HC3.out) ((hb5.block _ (blk_lt HX3.out)).trans HX3.out) (Hf.out.up hB5 hB5.size) (Ha.out.up hB5 hB5.size) R5 hR5
 have Hfin := Lib.hid (HR.out _ (HB3.out.trans (hb4.mono HB3.out.size)))
 clear hb4
 go_wp2
 exact Hfin.out
end Go.Proofs.YtdanebboiekieaaGreatDoor
