/- The walks, part 6. -/
import Derived.Test.YtdanebboiekieaaGreatDoorP05
set_option linter.unusedSimpArgs false
set_option linter.unusedVariables false
set_option maxRecDepth 100000
set_option maxHeartbeats 16000000
namespace Go.Proofs.YtdanebboiekieaaGreatDoor
open Go.RowKit Go.Shelf
attribute [local go_sem] Oper.semAt_some
theorem qfx (b : Bool) : ¬ (some undef = some (Value.bool b)) := fun h => by
 injection h with h
 cases h
theorem qfz {x : UIns} {ys : List (VX x)} {l : List UVal} (h : ys.map (·.1) = l) : ys.length = l.length := by rw [<- h, List.length_map]
theorem qkr (n : Nat) (hn : 1 ≤ n) (l Bx b0 g : Nat) (x : UIns) (A : Option Addr) (c : Nat) (ha : opA x.op = false) (hb : opB x.op = false) (J Jx : List (VX x) -> World -> Prop) (n₀ : Nat) (hJ : AbidesFrom n₀ J)
 (hY : ∀ (pre : List (VX x)) (v : VX x) W, J pre W -> pre.length < (qn x).length -> YieldAt Fence.wide (n - 1) Tryz.prog l (encV x v) W fun e W' => (e = .returned (.bool true) ∧ J (pre ++ [v]) W' ∧ CKeep g W W') ∨ (e = .returned (.bool false) ∧ Jx (pre ++ [v]) W'))
 (W : World) (hN : ValsNeed x (.slice A x.args.length c) Bx b0 g W) (h0 : J [] W) :
 CallsIn Fence.wide n Tryz.prog 100 #[.func (.yield l) #[] #[], .pointer (some ⟨Bx, 0, none⟩)] W fun e W' => (∃ v, e = .returned v) ∧
  ((∃ ys : List (VX x), ys.map (·.1) = qn x ∧ J ys W') ∨ (∃ pre : List (VX x), True ∧ Jx pre W')) := by
 obtain ⟨HJ, HY⟩ := lh2 hJ hY;have hAmem : opA x.op = true -> x.a ∈ qn x := fun h => by unfold qn; rw [if_pos h]; simp
 have hBmem : opB x.op = true -> x.b ∈ qn x := fun h => by unfold qn; rw [if_pos h]; simp
 have hCmem : ∀ v ∈ x.args, v ∈ qn x := fun v h => by unfold qn; simp [h]
 obtain ⟨HA, HB, HC⟩ := lh3 hAmem hBmem hCmem;have hv : qn x = [] ++ x.args := by unfold qn; simp [ha, hb]
 have Hv := lh hv;have hal := hN.args.max;unfold maxLen at hal;clear hv hJ hY hAmem hBmem hCmem;obtain ⟨x0, x1, x2, x3, x4, x5, x6, x7⟩ := qe hN.box;have lx := qa hN.box;refine callsIn_of_wp Tryz.func100 rfl trivial ?_ rfl;simp only [Tryz.ntmps100, List.size_toArray, List.length_cons, List.length_nil, Nat.reduceAdd, Nat.reduceSub, Array.replicate_succ, Array.replicate_zero, List.push_toArray, List.append_toArray, List.nil_append, List.cons_append]
 gi_wp2
 refine ⟨trivial, callsIn_wide.2 (q2p _ _ _ (fun w1 hb1 => ?_))⟩;rw [ha, hb];have hJ1 := qt HJ.out h0 hb1;have hN1 := hN.keep (CKeep.of_below hb1);have hb2 : Below w1.heap.size w1 (w1.alloc (Obj.cells #[.bool (opDst x.op), .bool false, .bool false] 148)) := by exact bl0
 have HN2 := lh (hN1.keep (CKeep.of_below hb2));have HJ2 := lh (qt HJ.out hJ1 hb2);have HS2 : Hid ((w1.alloc (Obj.cells #[.bool (opDst x.op), .bool false, .bool false] 148)).heap[w1.heap.size]? = some (.cells #[.bool (opDst x.op), .bool false, .bool false] 148 (0, 0))) := lh (heap_alloc_new _ _)
 obtain ⟨y0, y1, y2⟩ : (w1.alloc (Obj.cells #[.bool (opDst x.op), .bool false, .bool false] 148)).cell? ⟨w1.heap.size, 0, none⟩ = some (.bool (opDst x.op)) ∧ (w1.alloc (Obj.cells #[.bool (opDst x.op), .bool false, .bool false] 148)).cell? ⟨w1.heap.size, 1, none⟩ = some (.bool false) ∧ (w1.alloc (Obj.cells #[.bool (opDst x.op), .bool false, .bool false] 148)).cell? ⟨w1.heap.size, 2, none⟩ = some (.bool false) := by
  refine ⟨?_, ?_, ?_⟩ <;> (rw [qb HS2.out]; rfl)
 have hsg : w1.heap.size ≠ g := by have := hN1.lt; omega
 clear x0 x1 x2 x3 x4 x5 x6 x7 lx hb1 hN1 hJ1 hb2;obtain ⟨x0, x1, x2, x3, x4, x5, x6, x7⟩ := qe HN2.out.box;have lx := qa HN2.out.box;have ly := qa HS2.out
 gi_wp2
 refine ⟨fun _ h => (by cases h), ?_⟩
 gi_wp2
 gi_loopw [32] (fun i wr => ∃ (j : Nat) (ys : List (VX x)), j ≤ x.args.length ∧ i = .int .i64 (j : Int) ∧ ys.map (·.1) = [] ++ x.args.take j ∧ Hid (J ys wr) ∧ Hid (ValsNeed x (.slice A x.args.length c) Bx b0 g wr))
  (fun i _ => x.args.length - (intOf i).toNat)
 case atStart => exact ⟨0, ([] : List (VX x)), Nat.zero_le _, rfl, by simp, HJ2, HN2⟩
 case round =>
  obtain ⟨j, ys, hj, rfl, hys, HJr, HNr⟩ := hrel;have Hys := lh hys;clear hys x0 x1 x2 x3 x4 x5 x6 x7 lx y0 y1 y2 ly
  by_cases hlt : j < x.args.length
  ·obtain ⟨ba, oa, rfl, hba, a0, a1⟩ := HNr.out.args.val_at hlt;have j1 := nnn j;have j2 : (j : Int) < (x.args.length : Int) := by omega
   have lba : ba < wr.heap.size := World.block_lt_of_cell? wr _ a0
   have hlen : ys.length < (qn x).length := by
    rw [qfz Hys.out, Hv.out];simp;omega
   have hba2 : Below wr.heap.size wr (wr.alloc (Obj.cells #[.bool x.args[j].reg, .int .i64 x.args[j].n] 64)) := by exact bl0
   obtain ⟨fn5, tmps5, assign5, body5, hy5, hR5⟩ := HY.out ys ⟨x.args[j], HC.out _ (List.getElem_mem hlt)⟩ (wr.alloc (Obj.cells #[.bool x.args[j].reg, .int .i64 x.args[j].n] 64)) (qt HJ.out HJr.out hba2) hlen;dsimp only [encV] at hy5;have HR5 := lh hR5
   have Hnext : Hid ((ys ++ [(⟨x.args[j], HC.out _ (List.getElem_mem hlt)⟩ : VX x)]).map (fun v : VX x => v.1) = [] ++ x.args.take (j + 1)) := lh (by
    rw [List.map_append, Hys.out, List.take_succ_eq_append_getElem hlt, List.append_assoc];rfl)
   have HN5 := lh (HNr.out.keep (CKeep.of_below hba2));clear hR5 hba2
   gi_wp2
   refine HR5.out.mono ?_;rintro e W6 (⟨rfl, hJ6, hk6⟩ | ⟨rfl, hx6⟩)
   ·have HN6 := lh (HN5.out.keep hk6);have HJ6 := lh hJ6;clear hJ6 hk6 a0 a1 lba
    gi_wp2
    go_roundw
    case rel => exact ⟨j + 1, _, by omega, by go_num, Hnext.out, HJ6, HN6⟩
    case measure => simp [intOf]; omega
   ·gi_wp2
    refine bodyPost_ret (results_none rfl _ _ _) rfl ?_;exact ⟨⟨_, rfl⟩, .inr ⟨_, trivial, hx6⟩⟩
  ·obtain rfl : j = x.args.length := by omega
   have Hend : Hid (ys.map (·.1) = qn x) := lh (by rw [Hys.out, Hv.out, List.take_length])
   gi_wp2
   go_end0
   exact ⟨⟨_, rfl⟩, .inl ⟨ys, Hend.out, HJr.out⟩⟩
theorem qks (n : Nat) (hn : 1 ≤ n) (l Bx b0 g : Nat) (x : UIns) (A : Option Addr) (c : Nat) (ha : opA x.op = false) (hb : opB x.op = true) (J Jx : List (VX x) -> World -> Prop) (n₀ : Nat) (hJ : AbidesFrom n₀ J)
 (hY : ∀ (pre : List (VX x)) (v : VX x) W, J pre W -> pre.length < (qn x).length -> YieldAt Fence.wide (n - 1) Tryz.prog l (encV x v) W fun e W' => (e = .returned (.bool true) ∧ J (pre ++ [v]) W' ∧ CKeep g W W') ∨ (e = .returned (.bool false) ∧ Jx (pre ++ [v]) W'))
 (W : World) (hN : ValsNeed x (.slice A x.args.length c) Bx b0 g W) (h0 : J [] W) :
 CallsIn Fence.wide n Tryz.prog 100 #[.func (.yield l) #[] #[], .pointer (some ⟨Bx, 0, none⟩)] W fun e W' => (∃ v, e = .returned v) ∧
  ((∃ ys : List (VX x), ys.map (·.1) = qn x ∧ J ys W') ∨ (∃ pre : List (VX x), True ∧ Jx pre W')) := by
 obtain ⟨HJ, HY⟩ := lh2 hJ hY;have hAmem : opA x.op = true -> x.a ∈ qn x := fun h => by unfold qn; rw [if_pos h]; simp
 have hBmem : opB x.op = true -> x.b ∈ qn x := fun h => by unfold qn; rw [if_pos h]; simp
 have hCmem : ∀ v ∈ x.args, v ∈ qn x := fun v h => by unfold qn; simp [h]
 obtain ⟨HA, HB, HC⟩ := lh3 hAmem hBmem hCmem;have hv : qn x = [x.b] ++ x.args := by unfold qn; simp [ha, hb]
 have Hv := lh hv;have hal := hN.args.max;unfold maxLen at hal;clear hv hJ hY hAmem hBmem hCmem;obtain ⟨x0, x1, x2, x3, x4, x5, x6, x7⟩ := qe hN.box;have lx := qa hN.box;refine callsIn_of_wp Tryz.func100 rfl trivial ?_ rfl;simp only [Tryz.ntmps100, List.size_toArray, List.length_cons, List.length_nil, Nat.reduceAdd, Nat.reduceSub, Array.replicate_succ, Array.replicate_zero, List.push_toArray, List.append_toArray, List.nil_append, List.cons_append]
 gi_wp2
 refine ⟨trivial, callsIn_wide.2 (q2p _ _ _ (fun w1 hb1 => ?_))⟩;rw [ha, hb];have hJ1 := qt HJ.out h0 hb1;have hN1 := hN.keep (CKeep.of_below hb1);have hb2 : Below w1.heap.size w1 (w1.alloc (Obj.cells #[.bool (opDst x.op), .bool false, .bool true] 148)) := by exact bl0
 have HN2 := lh (hN1.keep (CKeep.of_below hb2));have HJ2 := lh (qt HJ.out hJ1 hb2);have HS2 : Hid ((w1.alloc (Obj.cells #[.bool (opDst x.op), .bool false, .bool true] 148)).heap[w1.heap.size]? = some (.cells #[.bool (opDst x.op), .bool false, .bool true] 148 (0, 0))) := lh (heap_alloc_new _ _)
 obtain ⟨y0, y1, y2⟩ : (w1.alloc (Obj.cells #[.bool (opDst x.op), .bool false, .bool true] 148)).cell? ⟨w1.heap.size, 0, none⟩ = some (.bool (opDst x.op)) ∧ (w1.alloc (Obj.cells #[.bool (opDst x.op), .bool false, .bool true] 148)).cell? ⟨w1.heap.size, 1, none⟩ = some (.bool false) ∧ (w1.alloc (Obj.cells #[.bool (opDst x.op), .bool false, .bool true] 148)).cell? ⟨w1.heap.size, 2, none⟩ = some (.bool true) := by
  refine ⟨?_, ?_, ?_⟩ <;> (rw [qb HS2.out]; rfl)
 have hsg : w1.heap.size ≠ g := by have := hN1.lt; omega
 clear x0 x1 x2 x3 x4 x5 x6 x7 lx hb1 hN1 hJ1 hb2;obtain ⟨x0, x1, x2, x3, x4, x5, x6, x7⟩ := qe HN2.out.box;have lx := qa HN2.out.box;have ly := qa HS2.out;obtain ⟨fn3, tmps3, assign3, body3, hy3, hR3⟩ := HY.out ([] : List (VX x)) ⟨x.b, HB.out hb⟩ _ HJ2.out (by have := congrArg List.length Hv.out; simp at this ⊢; omega);dsimp only [encV] at hy3;have HR3 := lh hR3;clear hR3
 gi_wp2
 refine ⟨fun _ h => (by cases h), ?_⟩
 gi_wp2
 refine HR3.out.mono ?_;rintro e W3 (⟨rfl, hJ3, hk3⟩ | ⟨rfl, hx3⟩)
 rotate_left
 ·gi_wp2
  refine bodyPost_ret (results_none rfl _ _ _) rfl ?_;exact ⟨⟨_, rfl⟩, .inr ⟨_, trivial, hx3⟩⟩
 have HN3 := lh (HN2.out.keep hk3);have HJ3 := lh hJ3;have HS3 := lh (hk3.blk HS2.out hsg);clear x0 x1 x2 x3 x4 x5 x6 x7 lx y0 y1 y2 ly hJ3 hk3 hy3 HR3;obtain ⟨x0, x1, x2, x3, x4, x5, x6, x7⟩ := qe HN3.out.box;have lx := qa HN3.out.box
 obtain ⟨y0, y1, y2⟩ : W3.cell? ⟨w1.heap.size, 0, none⟩ = some (.bool (opDst x.op)) ∧ W3.cell? ⟨w1.heap.size, 1, none⟩ = some (.bool false) ∧ W3.cell? ⟨w1.heap.size, 2, none⟩ = some (.bool true) := by
  refine ⟨?_, ?_, ?_⟩ <;> (rw [qb HS3.out]; rfl)
 have ly := qa HS3.out
 gi_wp2
 gi_loopw [32] (fun i wr => ∃ (j : Nat) (ys : List (VX x)), j ≤ x.args.length ∧ i = .int .i64 (j : Int) ∧ ys.map (·.1) = [x.b] ++ x.args.take j ∧ Hid (J ys wr) ∧ Hid (ValsNeed x (.slice A x.args.length c) Bx b0 g wr))
  (fun i _ => x.args.length - (intOf i).toNat)
 case atStart => exact ⟨0, ([⟨x.b, HB.out hb⟩] : List (VX x)), Nat.zero_le _, rfl, by simp, HJ3, HN3⟩
 case round =>
  obtain ⟨j, ys, hj, rfl, hys, HJr, HNr⟩ := hrel;have Hys := lh hys;clear hys x0 x1 x2 x3 x4 x5 x6 x7 lx y0 y1 y2 ly
  by_cases hlt : j < x.args.length
  ·obtain ⟨ba, oa, rfl, hba, a0, a1⟩ := HNr.out.args.val_at hlt;have j1 := nnn j;have j2 : (j : Int) < (x.args.length : Int) := by omega
   have lba : ba < wr.heap.size := World.block_lt_of_cell? wr _ a0
   have hlen : ys.length < (qn x).length := by
    rw [qfz Hys.out, Hv.out];simp;omega
   have hba2 : Below wr.heap.size wr (wr.alloc (Obj.cells #[.bool x.args[j].reg, .int .i64 x.args[j].n] 64)) := by exact bl0
   obtain ⟨fn5, tmps5, assign5, body5, hy5, hR5⟩ := HY.out ys ⟨x.args[j], HC.out _ (List.getElem_mem hlt)⟩ (wr.alloc (Obj.cells #[.bool x.args[j].reg, .int .i64 x.args[j].n] 64)) (qt HJ.out HJr.out hba2) hlen;dsimp only [encV] at hy5;have HR5 := lh hR5
   have Hnext : Hid ((ys ++ [(⟨x.args[j], HC.out _ (List.getElem_mem hlt)⟩ : VX x)]).map (fun v : VX x => v.1) = [x.b] ++ x.args.take (j + 1)) := lh (by
    rw [List.map_append, Hys.out, List.take_succ_eq_append_getElem hlt, List.append_assoc];rfl)
   have HN5 := lh (HNr.out.keep (CKeep.of_below hba2));clear hR5 hba2
   gi_wp2
   refine HR5.out.mono ?_;rintro e W6 (⟨rfl, hJ6, hk6⟩ | ⟨rfl, hx6⟩)
   ·have HN6 := lh (HN5.out.keep hk6);have HJ6 := lh hJ6;clear hJ6 hk6 a0 a1 lba
    gi_wp2
    go_roundw
    case rel => exact ⟨j + 1, _, by omega, by go_num, Hnext.out, HJ6, HN6⟩
    case measure => simp [intOf]; omega
   ·gi_wp2
    refine bodyPost_ret (results_none rfl _ _ _) rfl ?_;exact ⟨⟨_, rfl⟩, .inr ⟨_, trivial, hx6⟩⟩
  ·obtain rfl : j = x.args.length := by omega
   have Hend : Hid (ys.map (·.1) = qn x) := lh (by rw [Hys.out, Hv.out, List.take_length])
   gi_wp2
   go_end0
   exact ⟨⟨_, rfl⟩, .inl ⟨ys, Hend.out, HJr.out⟩⟩
theorem qkt (n : Nat) (hn : 1 ≤ n) (l Bx b0 g : Nat) (x : UIns) (A : Option Addr) (c : Nat) (ha : opA x.op = true) (hb : opB x.op = false) (J Jx : List (VX x) -> World -> Prop) (n₀ : Nat) (hJ : AbidesFrom n₀ J)
 (hY : ∀ (pre : List (VX x)) (v : VX x) W, J pre W -> pre.length < (qn x).length -> YieldAt Fence.wide (n - 1) Tryz.prog l (encV x v) W fun e W' => (e = .returned (.bool true) ∧ J (pre ++ [v]) W' ∧ CKeep g W W') ∨ (e = .returned (.bool false) ∧ Jx (pre ++ [v]) W'))
 (W : World) (hN : ValsNeed x (.slice A x.args.length c) Bx b0 g W) (h0 : J [] W) :
 CallsIn Fence.wide n Tryz.prog 100 #[.func (.yield l) #[] #[], .pointer (some ⟨Bx, 0, none⟩)] W fun e W' => (∃ v, e = .returned v) ∧
  ((∃ ys : List (VX x), ys.map (·.1) = qn x ∧ J ys W') ∨ (∃ pre : List (VX x), True ∧ Jx pre W')) := by
 obtain ⟨HJ, HY⟩ := lh2 hJ hY;have hAmem : opA x.op = true -> x.a ∈ qn x := fun h => by unfold qn; rw [if_pos h]; simp
 have hBmem : opB x.op = true -> x.b ∈ qn x := fun h => by unfold qn; rw [if_pos h]; simp
 have hCmem : ∀ v ∈ x.args, v ∈ qn x := fun v h => by unfold qn; simp [h]
 obtain ⟨HA, HB, HC⟩ := lh3 hAmem hBmem hCmem;have hv : qn x = [x.a] ++ x.args := by unfold qn; simp [ha, hb]
 have Hv := lh hv;have hal := hN.args.max;unfold maxLen at hal;clear hv hJ hY hAmem hBmem hCmem;obtain ⟨x0, x1, x2, x3, x4, x5, x6, x7⟩ := qe hN.box;have lx := qa hN.box;refine callsIn_of_wp Tryz.func100 rfl trivial ?_ rfl;simp only [Tryz.ntmps100, List.size_toArray, List.length_cons, List.length_nil, Nat.reduceAdd, Nat.reduceSub, Array.replicate_succ, Array.replicate_zero, List.push_toArray, List.append_toArray, List.nil_append, List.cons_append]
 gi_wp2
 refine ⟨trivial, callsIn_wide.2 (q2p _ _ _ (fun w1 hb1 => ?_))⟩;rw [ha, hb];have hJ1 := qt HJ.out h0 hb1;have hN1 := hN.keep (CKeep.of_below hb1);have hb2 : Below w1.heap.size w1 (w1.alloc (Obj.cells #[.bool (opDst x.op), .bool true, .bool false] 148)) := by exact bl0
 have HN2 := lh (hN1.keep (CKeep.of_below hb2));have HJ2 := lh (qt HJ.out hJ1 hb2);have HS2 : Hid ((w1.alloc (Obj.cells #[.bool (opDst x.op), .bool true, .bool false] 148)).heap[w1.heap.size]? = some (.cells #[.bool (opDst x.op), .bool true, .bool false] 148 (0, 0))) := lh (heap_alloc_new _ _)
 obtain ⟨y0, y1, y2⟩ : (w1.alloc (Obj.cells #[.bool (opDst x.op), .bool true, .bool false] 148)).cell? ⟨w1.heap.size, 0, none⟩ = some (.bool (opDst x.op)) ∧ (w1.alloc (Obj.cells #[.bool (opDst x.op), .bool true, .bool false] 148)).cell? ⟨w1.heap.size, 1, none⟩ = some (.bool true) ∧ (w1.alloc (Obj.cells #[.bool (opDst x.op), .bool true, .bool false] 148)).cell? ⟨w1.heap.size, 2, none⟩ = some (.bool false) := by
  refine ⟨?_, ?_, ?_⟩ <;> (rw [qb HS2.out]; rfl)
 have hsg : w1.heap.size ≠ g := by have := hN1.lt; omega
 clear x0 x1 x2 x3 x4 x5 x6 x7 lx hb1 hN1 hJ1 hb2;obtain ⟨x0, x1, x2, x3, x4, x5, x6, x7⟩ := qe HN2.out.box;have lx := qa HN2.out.box;have ly := qa HS2.out;obtain ⟨fn3, tmps3, assign3, body3, hy3, hR3⟩ := HY.out ([] : List (VX x)) ⟨x.a, HA.out ha⟩ _ HJ2.out (by have := congrArg List.length Hv.out; simp at this ⊢; omega);dsimp only [encV] at hy3;have HR3 := lh hR3;clear hR3
 gi_wp2
 refine HR3.out.mono ?_;rintro e W3 (⟨rfl, hJ3, hk3⟩ | ⟨rfl, hx3⟩)
 rotate_left
 ·gi_wp2
  all_goals try exact absurd ‹some undef = some (Value.bool _)› (qfx _)
  refine ⟨fun _ h => (by cases h), ?_⟩
  gi_wp2
  refine bodyPost_ret (results_none rfl _ _ _) rfl ?_;exact ⟨⟨_, rfl⟩, .inr ⟨_, trivial, hx3⟩⟩
 have HN3 := lh (HN2.out.keep hk3);have HJ3 := lh hJ3;have HS3 := lh (hk3.blk HS2.out hsg);clear x0 x1 x2 x3 x4 x5 x6 x7 lx y0 y1 y2 ly hJ3 hk3 hy3 HR3;obtain ⟨x0, x1, x2, x3, x4, x5, x6, x7⟩ := qe HN3.out.box;have lx := qa HN3.out.box
 obtain ⟨y0, y1, y2⟩ : W3.cell? ⟨w1.heap.size, 0, none⟩ = some (.bool (opDst x.op)) ∧ W3.cell? ⟨w1.heap.size, 1, none⟩ = some (.bool true) ∧ W3.cell? ⟨w1.heap.size, 2, none⟩ = some (.bool false) := by
  refine ⟨?_, ?_, ?_⟩ <;> (rw [qb HS3.out]; rfl)
 have ly := qa HS3.out
 gi_wp2
 refine ⟨fun _ h => (by cases h), ?_⟩
 gi_wp2
 gi_loopw [32] (fun i wr => ∃ (j : Nat) (ys : List (VX x)), j ≤ x.args.length ∧ i = .int .i64 (j : Int) ∧ ys.map (·.1) = [x.a] ++ x.args.take j ∧ Hid (J ys wr) ∧ Hid (ValsNeed x (.slice A x.args.length c) Bx b0 g wr))
  (fun i _ => x.args.length - (intOf i).toNat)
 case atStart => exact ⟨0, ([⟨x.a, HA.out ha⟩] : List (VX x)), Nat.zero_le _, rfl, by simp, HJ3, HN3⟩
 case round =>
  obtain ⟨j, ys, hj, rfl, hys, HJr, HNr⟩ := hrel;have Hys := lh hys;clear hys x0 x1 x2 x3 x4 x5 x6 x7 lx y0 y1 y2 ly
  by_cases hlt : j < x.args.length
  ·obtain ⟨ba, oa, rfl, hba, a0, a1⟩ := HNr.out.args.val_at hlt;have j1 := nnn j;have j2 : (j : Int) < (x.args.length : Int) := by omega
   have lba : ba < wr.heap.size := World.block_lt_of_cell? wr _ a0
   have hlen : ys.length < (qn x).length := by
    rw [qfz Hys.out, Hv.out];simp;omega
   have hba2 : Below wr.heap.size wr (wr.alloc (Obj.cells #[.bool x.args[j].reg, .int .i64 x.args[j].n] 64)) := by exact bl0
   obtain ⟨fn5, tmps5, assign5, body5, hy5, hR5⟩ := HY.out ys ⟨x.args[j], HC.out _ (List.getElem_mem hlt)⟩ (wr.alloc (Obj.cells #[.bool x.args[j].reg, .int .i64 x.args[j].n] 64)) (qt HJ.out HJr.out hba2) hlen;dsimp only [encV] at hy5;have HR5 := lh hR5
   have Hnext : Hid ((ys ++ [(⟨x.args[j], HC.out _ (List.getElem_mem hlt)⟩ : VX x)]).map (fun v : VX x => v.1) = [x.a] ++ x.args.take (j + 1)) := lh (by
    rw [List.map_append, Hys.out, List.take_succ_eq_append_getElem hlt, List.append_assoc];rfl)
   have HN5 := lh (HNr.out.keep (CKeep.of_below hba2));clear hR5 hba2
   gi_wp2
   refine HR5.out.mono ?_;rintro e W6 (⟨rfl, hJ6, hk6⟩ | ⟨rfl, hx6⟩)
   ·have HN6 := lh (HN5.out.keep hk6);have HJ6 := lh hJ6;clear hJ6 hk6 a0 a1 lba
    gi_wp2
    go_roundw
    case rel => exact ⟨j + 1, _, by omega, by go_num, Hnext.out, HJ6, HN6⟩
    case measure => simp [intOf]; omega
   ·gi_wp2
    refine bodyPost_ret (results_none rfl _ _ _) rfl ?_;exact ⟨⟨_, rfl⟩, .inr ⟨_, trivial, hx6⟩⟩
  ·obtain rfl : j = x.args.length := by omega
   have Hend : Hid (ys.map (·.1) = qn x) := lh (by rw [Hys.out, Hv.out, List.take_length])
   gi_wp2
   go_end0
   exact ⟨⟨_, rfl⟩, .inl ⟨ys, Hend.out, HJr.out⟩⟩
theorem qku (n : Nat) (hn : 1 ≤ n) (l Bx b0 g : Nat) (x : UIns) (A : Option Addr) (c : Nat) (ha : opA x.op = true) (hb : opB x.op = true) (J Jx : List (VX x) -> World -> Prop) (n₀ : Nat) (hJ : AbidesFrom n₀ J)
 (hY : ∀ (pre : List (VX x)) (v : VX x) W, J pre W -> pre.length < (qn x).length -> YieldAt Fence.wide (n - 1) Tryz.prog l (encV x v) W fun e W' => (e = .returned (.bool true) ∧ J (pre ++ [v]) W' ∧ CKeep g W W') ∨ (e = .returned (.bool false) ∧ Jx (pre ++ [v]) W'))
 (W : World) (hN : ValsNeed x (.slice A x.args.length c) Bx b0 g W) (h0 : J [] W) :
 CallsIn Fence.wide n Tryz.prog 100 #[.func (.yield l) #[] #[], .pointer (some ⟨Bx, 0, none⟩)] W fun e W' => (∃ v, e = .returned v) ∧
  ((∃ ys : List (VX x), ys.map (·.1) = qn x ∧ J ys W') ∨ (∃ pre : List (VX x), True ∧ Jx pre W')) := by
 obtain ⟨HJ, HY⟩ := lh2 hJ hY;have hAmem : opA x.op = true -> x.a ∈ qn x := fun h => by unfold qn; rw [if_pos h]; simp
 have hBmem : opB x.op = true -> x.b ∈ qn x := fun h => by unfold qn; rw [if_pos h]; simp
 have hCmem : ∀ v ∈ x.args, v ∈ qn x := fun v h => by unfold qn; simp [h]
 obtain ⟨HA, HB, HC⟩ := lh3 hAmem hBmem hCmem;have hv : qn x = [x.a, x.b] ++ x.args := by unfold qn; simp [ha, hb]
 have Hv := lh hv;have hal := hN.args.max;unfold maxLen at hal;clear hv hJ hY hAmem hBmem hCmem;obtain ⟨x0, x1, x2, x3, x4, x5, x6, x7⟩ := qe hN.box;have lx := qa hN.box;refine callsIn_of_wp Tryz.func100 rfl trivial ?_ rfl;simp only [Tryz.ntmps100, List.size_toArray, List.length_cons, List.length_nil, Nat.reduceAdd, Nat.reduceSub, Array.replicate_succ, Array.replicate_zero, List.push_toArray, List.append_toArray, List.nil_append, List.cons_append]
 gi_wp2
 refine ⟨trivial, callsIn_wide.2 (q2p _ _ _ (fun w1 hb1 => ?_))⟩;rw [ha, hb];have hJ1 := qt HJ.out h0 hb1;have hN1 := hN.keep (CKeep.of_below hb1);have hb2 : Below w1.heap.size w1 (w1.alloc (Obj.cells #[.bool (opDst x.op), .bool true, .bool true] 148)) := by exact bl0
 have HN2 := lh (hN1.keep (CKeep.of_below hb2));have HJ2 := lh (qt HJ.out hJ1 hb2);have HS2 : Hid ((w1.alloc (Obj.cells #[.bool (opDst x.op), .bool true, .bool true] 148)).heap[w1.heap.size]? = some (.cells #[.bool (opDst x.op), .bool true, .bool true] 148 (0, 0))) := lh (heap_alloc_new _ _)
 obtain ⟨y0, y1, y2⟩ : (w1.alloc (Obj.cells #[.bool (opDst x.op), .bool true, .bool true] 148)).cell? ⟨w1.heap.size, 0, none⟩ = some (.bool (opDst x.op)) ∧ (w1.alloc (Obj.cells #[.bool (opDst x.op), .bool true, .bool true] 148)).cell? ⟨w1.heap.size, 1, none⟩ = some (.bool true) ∧ (w1.alloc (Obj.cells #[.bool (opDst x.op), .bool true, .bool true] 148)).cell? ⟨w1.heap.size, 2, none⟩ = some (.bool true) := by
  refine ⟨?_, ?_, ?_⟩ <;> (rw [qb HS2.out]; rfl)
 have hsg : w1.heap.size ≠ g := by have := hN1.lt; omega
 clear x0 x1 x2 x3 x4 x5 x6 x7 lx hb1 hN1 hJ1 hb2;obtain ⟨x0, x1, x2, x3, x4, x5, x6, x7⟩ := qe HN2.out.box;have lx := qa HN2.out.box;have ly := qa HS2.out;obtain ⟨fn3, tmps3, assign3, body3, hy3, hR3⟩ := HY.out ([] : List (VX x)) ⟨x.a, HA.out ha⟩ _ HJ2.out (by have := congrArg List.length Hv.out; simp at this ⊢; omega);dsimp only [encV] at hy3;have HR3 := lh hR3;clear hR3
 gi_wp2
 refine HR3.out.mono ?_;rintro e W3 (⟨rfl, hJ3, hk3⟩ | ⟨rfl, hx3⟩)
 rotate_left
 ·gi_wp2
  all_goals try exact absurd ‹some undef = some (Value.bool _)› (qfx _)
  refine ⟨fun _ h => (by cases h), ?_⟩
  gi_wp2
  refine bodyPost_ret (results_none rfl _ _ _) rfl ?_;exact ⟨⟨_, rfl⟩, .inr ⟨_, trivial, hx3⟩⟩
 have HN3 := lh (HN2.out.keep hk3);have HJ3 := lh hJ3;have HS3 := lh (hk3.blk HS2.out hsg);clear x0 x1 x2 x3 x4 x5 x6 x7 lx y0 y1 y2 ly hJ3 hk3 hy3 HR3;obtain ⟨x0, x1, x2, x3, x4, x5, x6, x7⟩ := qe HN3.out.box;have lx := qa HN3.out.box
 obtain ⟨y0, y1, y2⟩ : W3.cell? ⟨w1.heap.size, 0, none⟩ = some (.bool (opDst x.op)) ∧ W3.cell? ⟨w1.heap.size, 1, none⟩ = some (.bool true) ∧ W3.cell? ⟨w1.heap.size, 2, none⟩ = some (.bool true) := by
  refine ⟨?_, ?_, ?_⟩ <;> (rw [qb HS3.out]; rfl)
 have ly := qa HS3.out;obtain ⟨fn4, tmps4, assign4, body4, hy4, hR4⟩ := HY.out ([⟨x.a, HA.out ha⟩] : List (VX x)) ⟨x.b, HB.out hb⟩ _ HJ3.out (by have := congrArg List.length Hv.out; simp at this ⊢; omega);dsimp only [encV] at hy4;have HR4 := lh hR4;clear hR4
 gi_wp2
 refine HR4.out.mono ?_;rintro e W4 (⟨rfl, hJ4, hk4⟩ | ⟨rfl, hx4⟩)
 rotate_left
 ·gi_wp2
  refine bodyPost_ret (results_none rfl _ _ _) rfl ?_;exact ⟨⟨_, rfl⟩, .inr ⟨_, trivial, hx4⟩⟩
 have HN4 := lh (HN3.out.keep hk4);have HJ4 := lh hJ4;have HS4 := lh (hk4.blk HS3.out hsg);clear x0 x1 x2 x3 x4 x5 x6 x7 lx y0 y1 y2 ly hJ4 hk4 hy4 HR4;obtain ⟨x0, x1, x2, x3, x4, x5, x6, x7⟩ := qe HN4.out.box;have lx := qa HN4.out.box
 obtain ⟨y0, y1, y2⟩ : W4.cell? ⟨w1.heap.size, 0, none⟩ = some (.bool (opDst x.op)) ∧ W4.cell? ⟨w1.heap.size, 1, none⟩ = some (.bool true) ∧ W4.cell? ⟨w1.heap.size, 2, none⟩ = some (.bool true) := by
  refine ⟨?_, ?_, ?_⟩ <;> (rw [qb HS4.out]; rfl)
 have ly := qa HS4.out
 gi_wp2
 gi_loopw [32] (fun i wr => ∃ (j : Nat) (ys : List (VX x)), j ≤ x.args.length ∧ i = .int .i64 (j : Int) ∧ ys.map (·.1) = [x.a, x.b] ++ x.args.take j ∧ Hid (J ys wr) ∧ Hid (ValsNeed x (.slice A x.args.length c) Bx b0 g wr))
  (fun i _ => x.args.length - (intOf i).toNat)
 case atStart => exact ⟨0, ([⟨x.a, HA.out ha⟩, ⟨x.b, HB.out hb⟩] : List (VX x)), Nat.zero_le _, rfl, by simp, HJ4, HN4⟩
 case round =>
  obtain ⟨j, ys, hj, rfl, hys, HJr, HNr⟩ := hrel;have Hys := lh hys;clear hys x0 x1 x2 x3 x4 x5 x6 x7 lx y0 y1 y2 ly
  by_cases hlt : j < x.args.length
  ·obtain ⟨ba, oa, rfl, hba, a0, a1⟩ := HNr.out.args.val_at hlt;have j1 := nnn j;have j2 : (j : Int) < (x.args.length : Int) := by omega
   have lba : ba < wr.heap.size := World.block_lt_of_cell? wr _ a0
   have hlen : ys.length < (qn x).length := by
    rw [qfz Hys.out, Hv.out];simp;omega
   have hba2 : Below wr.heap.size wr (wr.alloc (Obj.cells #[.bool x.args[j].reg, .int .i64 x.args[j].n] 64)) := by exact bl0
   obtain ⟨fn5, tmps5, assign5, body5, hy5, hR5⟩ := HY.out ys ⟨x.args[j], HC.out _ (List.getElem_mem hlt)⟩ (wr.alloc (Obj.cells #[.bool x.args[j].reg, .int .i64 x.args[j].n] 64)) (qt HJ.out HJr.out hba2) hlen;dsimp only [encV] at hy5;have HR5 := lh hR5
   have Hnext : Hid ((ys ++ [(⟨x.args[j], HC.out _ (List.getElem_mem hlt)⟩ : VX x)]).map (fun v : VX x => v.1) = [x.a, x.b] ++ x.args.take (j + 1)) := lh (by
    rw [List.map_append, Hys.out, List.take_succ_eq_append_getElem hlt, List.append_assoc];rfl)
   have HN5 := lh (HNr.out.keep (CKeep.of_below hba2));clear hR5 hba2
   gi_wp2
   refine HR5.out.mono ?_;rintro e W6 (⟨rfl, hJ6, hk6⟩ | ⟨rfl, hx6⟩)
   ·have HN6 := lh (HN5.out.keep hk6);have HJ6 := lh hJ6;clear hJ6 hk6 a0 a1 lba
    gi_wp2
    go_roundw
    case rel => exact ⟨j + 1, _, by omega, by go_num, Hnext.out, HJ6, HN6⟩
    case measure => simp [intOf]; omega
   ·gi_wp2
    refine bodyPost_ret (results_none rfl _ _ _) rfl ?_;exact ⟨⟨_, rfl⟩, .inr ⟨_, trivial, hx6⟩⟩
  ·obtain rfl : j = x.args.length := by omega
   have Hend : Hid (ys.map (·.1) = qn x) := lh (by rw [Hys.out, Hv.out, List.take_length])
   gi_wp2
   go_end0
   exact ⟨⟨_, rfl⟩, .inl ⟨ys, Hend.out, HJr.out⟩⟩
theorem qkv (n : Nat) (hn : 1 ≤ n) (l Bx b0 g : Nat) (x : UIns) (va : Value) (J Jx : List (VX x) -> World -> Prop) (n₀ : Nat) (hJ : AbidesFrom n₀ J)
 (hY : ∀ (pre : List (VX x)) (v : VX x) W, J pre W -> pre.length < (qn x).length -> YieldAt Fence.wide (n - 1) Tryz.prog l (encV x v) W fun e W' => (e = .returned (.bool true) ∧ J (pre ++ [v]) W' ∧ CKeep g W W') ∨ (e = .returned (.bool false) ∧ Jx (pre ++ [v]) W'))
 (W : World) (hN : ValsNeed x va Bx b0 g W) (h0 : J [] W) :
 CallsIn Fence.wide n Tryz.prog 100 #[.func (.yield l) #[] #[], .pointer (some ⟨Bx, 0, none⟩)] W fun e W' => (∃ v, e = .returned v) ∧
  ((∃ ys : List (VX x), ys.map (·.1) = qn x ∧ J ys W') ∨ (∃ pre : List (VX x), True ∧ Jx pre W')) := by
 obtain ⟨A, c, rfl, _, _, _⟩ := hN.args.cases_
 cases ha : opA x.op <;> cases hb : opB x.op
 ·exact qkr n hn l Bx b0 g x A c ha hb J Jx n₀ hJ hY W hN h0
 ·exact qks n hn l Bx b0 g x A c ha hb J Jx n₀ hJ hY W hN h0
 ·exact qkt n hn l Bx b0 g x A c ha hb J Jx n₀ hJ hY W hN h0
 ·exact qku n hn l Bx b0 g x A c ha hb J Jx n₀ hJ hY W hN h0
theorem q53 (n : Nat) (hn : 1 ≤ n) (Bx b0 g : Nat) (x : UIns) (va : Value) (w : World) (hN : ValsNeed x va Bx b0 g w) :
 SeqStopsK Fence.wide n Tryz.prog 100 #[.pointer (some ⟨Bx, 0, none⟩)] (encV x) (CKeep g) (fun ys => ys.map (·.1) = qn x) (fun _ => True) (qn x).length w := fun l J Jx W hW hJ _ hY h0 =>
 qkv n hn l Bx b0 g x va J Jx _ hJ hY W (hN.keep (CKeep.of_below hW)) h0
theorem q52 (x : UIns) (A : Option Addr) (m c : Nat) (w : World) (R : Ending -> World -> Prop)
 (hR : R (.returned (.func (.func 100) #[] #[.pointer (some ⟨w.heap.size, 0, none⟩)])) (w.alloc (.cells #[.int .i64 x.op, .int .i64 x.dst, .bool x.a.reg, .int .i64 x.a.n, .bool x.b.reg, .int .i64 x.b.n, .int .i64 x.fn, .slice A m c] 71))) :
 Calls Tryz.prog 78 #[.agg #[.int .i64 x.op, .int .i64 x.dst, .bool x.a.reg, .int .i64 x.a.n, .bool x.b.reg, .int .i64 x.b.n, .int .i64 x.fn, .slice A m c]] w R := by
 have HR := lh hR;clear hR
 go_enter Tryz.func78, Tryz.ntmps78
 go_wp2;exact HR.out
end Go.Proofs.YtdanebboiekieaaGreatDoor
namespace Go.Proofs.YtdanebboiekieaaGreatDoor
open Go.RowKit Go.Shelf
attribute [local go_sem] Oper.semAt_some
def bitsA (S : List Bool) : Array Value := (S.map Value.bool).toArray
theorem qi0 {S : List Bool} {k : Nat} (h : k < S.length) : (bitsA S)[k]? = some (.bool (bAt S k)) := by
 unfold bitsA;rw [List.getElem?_toArray, List.getElem?_map, q6z h];rfl
def takeS (S : List Bool) (v : UVal) : List Bool := if v.reg = true then S.set v.n.toNat true else S
def insS (S : List Bool) (x : UIns) : List Bool := (qn x).foldl takeS (if 0 ≤ x.dst then S.set x.dst.toNat false else S)
theorem q4z (S : List Bool) (v : UVal) : (takeS S v).length = S.length := by unfold takeS; split <;> simp
theorem qhl (l : List UVal) : ∀ S : List Bool, (l.foldl takeS S).length = S.length := by
 induction l with
 | nil => intro S; rfl
 | cons v l ih => intro S; rw [List.foldl_cons, ih, q4z]
theorem qfv {S : List Bool} {v : UVal} {regs : Int} (hv : ValOk regs v) (hS : (S.length : Int) = regs) {r : Nat} : bAt (takeS S v) r = (bAt S r || (regIs v r && decide (r < S.length))) := by
 unfold takeS regIs
 cases hr : v.reg
 ·simp
 ·have := hv hr;rw [if_pos rfl, q85 (by omega)]
  by_cases e : r = v.n.toNat
  ·rw [if_pos e];have : v.n = (r : Int) := by omega
   have h2 : r < S.length := by omega
   simp [this, h2]
  ·rw [if_neg e];have : ¬ v.n = (r : Int) := by omega
   simp [this]
theorem qd3 {regs : Int} : ∀ (l : List UVal) (S : List Bool), (∀ v ∈ l, ValOk regs v) -> (S.length : Int) = regs -> ∀ r, bAt (l.foldl takeS S) r = (bAt S r || ((l.any fun v => regIs v r) && decide (r < S.length)))
 | [], S, _, _, r => by simp
 | v :: l, S, hv, hS, r => by
   rw [List.foldl_cons, qd3 l _ (fun u hu => hv u (by simp [hu])) (by rw [q4z]; exact hS), qfv (hv v (by simp)) hS, q4z, List.any_cons]
   cases bAt S r <;> cases regIs v r <;> cases (l.any fun v => regIs v r) <;> cases decide (r < S.length) <;> rfl
theorem qfa (S : List Bool) (x : UIns) : (insS S x).length = S.length := by
 unfold insS;rw [qhl]
 split <;> simp
theorem qnb {u : Unt} {S : List Bool} {x : UIns} {regs : Int} (h : InsOk u regs x) (hS : (S.length : Int) = regs) {r : Nat} (hr : r < S.length) : bAt (insS S x) r = (q7g x r || (bAt S r && !decide (x.dst = (r : Int)))) := by
 unfold insS;have hlen : (if 0 ≤ x.dst then S.set x.dst.toNat false else S).length = S.length := by split <;> simp
 rw [qd3 (qn x) _ (q49 h) (by rw [hlen]; exact hS), q76 h, hlen, decide_eq_true hr, Bool.and_true, Bool.or_comm]
 congr 1
 split
 ·rename_i h0;have := h.dst;rw [q85 (by omega)]
  by_cases e : r = x.dst.toNat
  ·rw [if_pos e];have : x.dst = (r : Int) := by omega
   simp [this]
  ·rw [if_neg e];have : ¬ x.dst = (r : Int) := by omega
   simp [this]
 ·have : ¬ x.dst = (r : Int) := by omega
  simp [this]
def SetAt (g : Nat) (S : List Bool) (w : World) : Prop := ∃ A, w.heap[g]? = some (.cells A 4 (0, 0)) ∧ ∀ k, k < S.length -> A[k]? = some (.bool (bAt S k))
theorem SetAt.of_blk {g : Nat} {S : List Bool} {w : World} (h : w.heap[g]? = some (.cells (bitsA S) 4 (0, 0))) : SetAt g S w := ⟨_, h, fun k hk => qi0 hk⟩
theorem SetAt.cell {g : Nat} {S : List Bool} {w : World} (h : SetAt g S w) {k : Nat} (hk : k < S.length) : w.cell? ⟨g, k, none⟩ = some (.bool (bAt S k)) := by
 obtain ⟨A, h1, h2⟩ := h;rw [qb h1];exact h2 k hk
theorem SetAt.frozen {g : Nat} {S : List Bool} {w : World} (h : SetAt g S w) (k : Nat) : w.frozen? ⟨g, k, none⟩ = false := by
 obtain ⟨A, h1, h2⟩ := h;simp [World.frozen?, h1]
theorem SetAt.lt {g : Nat} {S : List Bool} {w : World} (h : SetAt g S w) : g < w.heap.size := by
 obtain ⟨A, h1, h2⟩ := h;exact qa h1
theorem SetAt.set {g : Nat} {S : List Bool} {w : World} (h : SetAt g S w) (k : Nat) (x : Bool) : SetAt g (S.set k x) (w.setCell ⟨g, k, none⟩ (.bool x)) := by
 obtain ⟨A, h1, h2⟩ := h;refine ⟨A.setIfInBounds k (.bool x), by rw [q0h h1], fun j hj => ?_⟩;rw [List.length_set] at hj;have h3 := h2 j hj;have hjA : j < A.size := (Array.getElem?_eq_some_iff.1 h3).1;rw [Array.getElem?_setIfInBounds]
 by_cases e : k = j
 ·subst e;rw [if_pos rfl, if_pos hjA, q85 hj, if_pos rfl]
 ·rw [if_neg e, h3]
  rcases Nat.lt_or_ge k S.length with hk | hk
  ·rw [q85 hk, if_neg (fun h => e h.symm)]
  ·rw [List.set_eq_of_length_le hk]
theorem SetAt.block {g : Nat} {S : List Bool} {w w' : World} (h : SetAt g S w) (hk : ∀ o : Obj, w.heap[g]? = some o -> o.isCells = true -> w'.heap[g]? = some o) : SetAt g S w' := by
 obtain ⟨A, h1, h2⟩ := h;exact ⟨A, hk _ h1 rfl, h2⟩
theorem SetAt.below {g : Nat} {S : List Bool} {w w' : World} (h : SetAt g S w) (hb : Below w.heap.size w w') : SetAt g S w' := h.block fun o ho _ => (hb.block _ (qa ho)).trans ho
theorem SetAt.alloc {g : Nat} {S : List Bool} {w : World} (h : SetAt g S w) (o : Obj) : SetAt g S (w.alloc o) := h.block fun x hx _ => qf hx o
def q2v (b : Bool) : List Value := [.bool b]
theorem qbl : ∀ S : List Bool, S.flatMap q2v = S.map Value.bool
 | [] => rfl
 | x :: S => by rw [List.flatMap_cons, qbl S]; rfl
theorem SetAt.of_own {w : World} {base g n cap : Nat} {S : List Bool} (h : w.ownsRow base 4 1 (.slice (some ⟨g, 0, none⟩) n cap) n (S.flatMap q2v)) (hn : n = S.length) : SetAt g S w := by
 obtain ⟨h1, h2⟩ := h
 rcases h2 with ⟨hv, _⟩ | ⟨g', cap', cur, hv, hb, hh, hnc, hcm, hcs, htk⟩
 ·cases hv
 ·injection hv with hA _ _
  injection hA with hA
  injection hA with hA
  subst hA;refine ⟨cur, hh, fun k hk => ?_⟩
  have e : (S.flatMap q2v)[k]? = some (.bool (bAt S k)) := by
   rw [qbl, List.getElem?_map, q6z hk];rfl
  rw [<- htk, List.getElem?_take] at e
  split at e
  ·simpa using e
  ·cases e
theorem qhk (S : List Bool) (cp g : Nat) (v : UVal) (w : World) (hS : SetAt g S w) (hv : ValOk S.length v) (R : Ending -> World -> Prop)
 (hR : ∀ w', SetAt g (takeS S v) w' -> w.grownBy w' (some g) -> R (.returned (.tuple #[])) w') :
 Calls Tryz.prog 118 #[.slice (some ⟨g, 0, none⟩) S.length cp, .agg #[.bool v.reg, .int .i64 v.n]] w R := by
 obtain ⟨HR, HS⟩ := lh2 hR hS;clear hR hS;obtain ⟨reg, n⟩ := v
 cases reg
 ·have e : takeS S ⟨false, n⟩ = S := by simp [takeS]
  rw [e] at HR;clear e
  go_enter Tryz.func118, Tryz.ntmps118
  go_wp2
  go_end0
  exact HR.out _ (HS.out.alloc _) (World.grownBy_alloc _ _ _)
 ·have hn := hv rfl;simp only at hn;obtain ⟨k, rfl⟩ : ∃ k : Nat, n = (k : Int) := ⟨n.toNat, by omega⟩;have hk : k < S.length := by omega
  have e : takeS S ⟨true, (k : Int)⟩ = S.set k true := by simp [takeS]
  rw [e] at HR;have hS2 := HS.out.alloc (Obj.cells #[.bool true, .int .i64 (k : Int)] 64);have HS2 := lh hS2;have c0 := hS2.cell hk;have f0 := hS2.frozen k;have lg := hS2.lt;have lg0 := HS.out.lt;have c00 := HS.out.cell hk;have f00 := HS.out.frozen k;have k1 := nnn k;have k2 : (k : Int) < (S.length : Int) := by omega
  clear hv hS2 e
  go_enter Tryz.func118, Tryz.ntmps118
  go_wp2
  go_end0
  exact HR.out _ ((HS.out.set k true).alloc _) ((q04 _ _ _).trans (World.grownBy_alloc _ _ _))
theorem q5w (S : List Bool) (cp n : Nat) (hn : S.length = n) (g : Nat) (v : UVal) (w : World) (hS : SetAt g S w) (hv : ValOk S.length v) (R : Ending -> World -> Prop)
 (hR : ∀ w', SetAt g (takeS S v) w' -> w.grownBy w' (some g) -> R (.returned (.tuple #[])) w') :
 Calls Tryz.prog 118 #[.slice (some ⟨g, 0, none⟩) n cp, .agg #[.bool v.reg, .int .i64 v.n]] w R := by
 subst hn;exact qhk S cp g v w hS hv R hR
theorem CKeep.of_grown {g : Nat} {W W' : World} (h : W.grownBy W' (some g)) : CKeep g W W' := ⟨h.size, fun k o h1 _ h3 => (h.block k (qa h1) (fun e => h3 (Option.some.inj e))).trans h1⟩
def SetI (g : Nat) (S : List Bool) (w0 W : World) : Prop := SetAt g S W ∧ w0.grownBy W (some g) ∧ CKeep g w0 W
theorem q6q {β : Type} {g B : Nat} {f : β -> List Bool} {w0 : World} (hB : w0.heap.size ≤ B) : OwnFrom B (fun (s : β) W => SetI g (f s) w0 W) := fun s A Z row hs hg hr => by
 obtain ⟨h1, h2, h3⟩ := hs
 have hne : row ≠ some g := fun e => by
  obtain ⟨A', h1', _⟩ := h1;obtain ⟨_, o, ho, hc⟩ := hr g e;rw [h1'] at ho;injection ho with ho
  subst ho
  cases hc
 have hkeep : ∀ (k : Nat) (o : Obj), A.heap[k]? = some o -> o.isCells = true -> Z.heap[k]? = some o := fun k o ho hc => by
  rcases (Classical.em (row = some k)) with e | e
  ·obtain ⟨_, o', ho', hc'⟩ := hr k e;rw [ho] at ho';injection ho' with ho'
   subst ho';rw [hc] at hc'
   cases hc'
  ·exact (hg.block k (qa ho) (fun h => e h.symm)).trans ho
 refine ⟨h1.block (fun o ho hc => hkeep g o ho hc), ⟨hg.os.trans h2.os, hg.tape.trans h2.tape, hg.output.trans h2.output, Nat.le_trans h2.size hg.size, fun k hk hk2 => ?_⟩, ⟨Nat.le_trans h3.1 hg.size, fun k o ho hc hk => hkeep k o (h3.2 k o ho hc hk) hc⟩⟩;rw [<- h2.block k hk hk2];refine hg.block k (by have := h2.size; omega) (fun e => ?_);have := (hr k e.symm).1;omega
theorem q2s {β : Type} (k : Nat) (A : Array Value) (T : TypeId) (fr : Nat × Nat) (B : Nat) : OwnFrom B (fun (_ : β) W => W.heap[k]? = some (.cells A T fr)) := fun s X Y row hs hg hr => by
 refine (hg.block k (qa hs) (fun e => ?_)).trans hs;obtain ⟨_, o, ho, hc⟩ := hr k e.symm;rw [hs] at ho;injection ho with ho
 subst ho
 cases hc
theorem SetI.below {g : Nat} {S : List Bool} {w0 W W' : World} (h : SetI g S w0 W) (hb : Below W.heap.size W W') : SetI g S w0 W' :=
 ⟨h.1.below hb, h.2.1.trans (qw hb _), h.2.2.trans (CKeep.of_below hb)⟩
theorem SetI.alloc {g : Nat} {S : List Bool} {w0 W : World} (h : SetI g S w0 W) (o : Obj) : SetI g S w0 (W.alloc o) := h.below ((Below.refl _ _).alloc (Nat.le_refl _) o)
theorem q38 (g : Nat) (w : World) : w.grownBy w (some g) := ⟨rfl, rfl, rfl, Nat.le_refl _, fun _ _ _ => rfl⟩
theorem qbw {x : UIns} (l : List (VX x)) (S : List Bool) : (l.foldl (fun S (v : VX x) => takeS S v.1) S).length = S.length := by
 induction l generalizing S with
 | nil => rfl
 | cons v l ih => rw [List.foldl_cons, ih, q4z]
theorem qbx {x : UIns} (l : List (VX x)) (S : List Bool) : l.foldl (fun S (v : VX x) => takeS S v.1) S = (l.map (·.1)).foldl takeS S := by rw [List.foldl_map]
theorem qd9 (u : Unt) (S : List Bool) (cp g b0 : Nat) (x : UIns) (va : Value) (w : World) (hS : SetAt g S w) (hx : InsOk u S.length x) (ha : rpVal.SL w b0 x.args va) (hb0 : b0 ≤ g) (R : Ending -> World -> Prop)
 (hR : ∀ w', SetAt g (insS S x) w' -> w.grownBy w' (some g) -> R (.returned (.tuple #[])) w') :
 Calls Tryz.prog 119 #[.slice (some ⟨g, 0, none⟩) S.length cp, .agg #[.int .i64 x.op, .int .i64 x.dst, .bool x.a.reg, .int .i64 x.a.n, .bool x.b.reg, .int .i64 x.b.n, .int .i64 x.fn, va]] w R := by
 obtain ⟨A, c, rfl, _, _, ha⟩ := ha.cases_;obtain ⟨HR, HS, Ha, Hx⟩ := lh4 hR hS ha hx;have hdst := hx.dst;clear hR hS ha hx;refine (callsIn_wide (n := 7)).1 ?_
 by_cases hd : 0 ≤ x.dst
 ·have hdl : x.dst < (S.length : Int) := by omega
  have c0 := HS.out.cell (k := x.dst.toNat) (by omega);have f0 := HS.out.frozen x.dst.toNat;have lg := HS.out.lt;refine callsIn_of_wp_marks Tryz.func119 rfl trivial ?_ rfl;simp only [Tryz.ntmps119, List.size_toArray, List.length_cons, List.length_nil, Nat.reduceAdd, Nat.reduceSub, Array.replicate_succ, Array.replicate_zero, List.push_toArray, List.append_toArray, List.nil_append, List.cons_append]
  gi_wp2
  refine ⟨trivial, callsIn_wide.2 (q52 x A x.args.length c _ _ ?_)⟩
  gi_wp2
  obtain ⟨W3, hW3⟩ := nmm ((((w.setCell ⟨g, x.dst.toNat, none⟩ (.bool false)).alloc (Obj.cells #[.slice (some ⟨g, 0, none⟩) S.length cp] 160)).alloc (Obj.cells #[.int .i64 x.op, .int .i64 x.dst, .bool x.a.reg, .int .i64 x.a.n, .bool x.b.reg, .int .i64 x.b.n, .int .i64 x.fn, .slice A x.args.length c] 71)).alloc (Obj.cells #[.int .i64 x.op, .int .i64 x.dst, .bool x.a.reg, .int .i64 x.a.n, .bool x.b.reg, .int .i64 x.b.n, .int .i64 x.fn, .slice A x.args.length c] 71));have hsz : W3.heap.size = w.heap.size + 3 := by subst hW3; simp [World.setCell]
  have hS0 : SetI g (S.set x.dst.toNat false) w (w.setCell ⟨g, x.dst.toNat, none⟩ (.bool false)) := ⟨HS.out.set _ _, q04 _ _ _, CKeep.setCell _ _⟩;have hS3 : SetI g (S.set x.dst.toNat false) w W3 := by subst hW3; exact ((hS0.alloc _).alloc _).alloc _
  have hbx : W3.heap[w.heap.size]? = some (.cells #[.slice (some ⟨g, 0, none⟩) S.length cp] 160 (0, 0)) := by
   subst hW3;have := heap_alloc_new (w.setCell ⟨g, x.dst.toNat, none⟩ (.bool false)) (Obj.cells #[.slice (some ⟨g, 0, none⟩) S.length cp] 160);exact qf (qf (by simpa [World.setCell] using this) _) _
  have hbi : W3.heap[w.heap.size + 1 + 1]? = some (.cells #[.int .i64 x.op, .int .i64 x.dst, .bool x.a.reg, .int .i64 x.a.n, .bool x.b.reg, .int .i64 x.b.n, .int .i64 x.fn, .slice A x.args.length c] 71 (0, 0)) := by
   subst hW3;have := heap_alloc_new (((w.setCell ⟨g, x.dst.toNat, none⟩ (.bool false)).alloc (Obj.cells #[.slice (some ⟨g, 0, none⟩) S.length cp] 160)).alloc (Obj.cells #[.int .i64 x.op, .int .i64 x.dst, .bool x.a.reg, .int .i64 x.a.n, .bool x.b.reg, .int .i64 x.b.n, .int .i64 x.fn, .slice A x.args.length c] 71)) (Obj.cells #[.int .i64 x.op, .int .i64 x.dst, .bool x.a.reg, .int .i64 x.a.n, .bool x.b.reg, .int .i64 x.b.n, .int .i64 x.fn, .slice A x.args.length c] 71);simpa [World.setCell] using this
  have hglt := HS.out.lt;have hN3 : ValsNeed x (.slice A x.args.length c) (w.heap.size + 1 + 1) b0 g W3 := ⟨hbi, Ha.out.mono (fun p u hp hc => hS3.2.2.cell hc (by omega)), by omega, hb0, by omega⟩;have hle : w.heap.size ≤ W3.heap.size := by omega
  rw [show (((w.setCell ⟨g, x.dst.toNat, none⟩ (.bool false)).alloc (Obj.cells #[.slice (some ⟨g, 0, none⟩) S.length cp] 160)).alloc (Obj.cells #[.int .i64 x.op, .int .i64 x.dst, .bool x.a.reg, .int .i64 x.a.n, .bool x.b.reg, .int .i64 x.b.n, .int .i64 x.fn, .slice A x.args.length c] 71)).alloc (Obj.cells #[.int .i64 x.op, .int .i64 x.dst, .bool x.a.reg, .int .i64 x.a.n, .bool x.b.reg, .int .i64 x.b.n, .int .i64 x.fn, .slice A x.args.length c] 71) = W3 from hW3.symm];clear hW3
  refine wpIn_rangeFunc_ownH (F := Fence.wide) rfl (by decide) (gf := 100) (lb := #[.pointer (some ⟨w.heap.size + 1 + 1, 0, none⟩)]) rfl trivial (enters_of Tryz.func100 (by kernel_rfl) rfl)
   (q53 6 (by decide) (w.heap.size + 1 + 1) b0 g x (.slice A x.args.length c) W3 hN3) (fun h k => h.trans k) (fun W l o o' _ h1 h2 _ => CKeep.putObj W l o o' h1 h2) (Below.refl _ _) (fun _ => rfl)
   (fun pre W => SetI g (pre.foldl (fun S v => takeS S v.1) (S.set x.dst.toNat false)) w W ∧ W.heap[w.heap.size]? = some (.cells #[.slice (some ⟨g, 0, none⟩) S.length cp] 160 (0, 0)))
   (fun _ _ _ => False)
   (OwnFrom.and (q6q hle) (q2s _ _ _ _ _)) (fun _ _ _ _ _ hs _ _ => hs) ⟨hS3, hbx⟩
   (fun v a' W => ∃ Bv, W.heap[Bv]? = some (.cells #[.bool v.1.reg, .int .i64 v.1.n] 64 (0, 0)) ∧ a' = { tmps := #[.slice (some ⟨g, 0, none⟩) S.length cp, .agg #[.int .i64 x.op, .int .i64 x.dst, .bool x.a.reg, .int .i64 x.a.n, .bool x.b.reg, .int .i64 x.b.n, .int .i64 x.fn, .slice A x.args.length c], .pointer (some ⟨w.heap.size, 0, none⟩), .pointer (some ⟨w.heap.size + 1, 0, none⟩), .pointer (some ⟨Bv, 0, none⟩), .pointer (some ⟨w.heap.size + 1, 1, none⟩), .int .i64 x.dst, .bool true, .slice (some ⟨g, 0, none⟩) S.length cp, .pointer (some ⟨w.heap.size + 1, 1, none⟩), .int .i64 x.dst, .pointer (some ⟨g, x.dst.toNat, none⟩), .agg #[.int .i64 x.op, .int .i64 x.dst, .bool x.a.reg, .int .i64 x.a.n, .bool x.b.reg, .int .i64 x.b.n, .int .i64 x.fn, .slice A x.args.length c], .func (.func 100) #[] #[.pointer (some ⟨w.heap.size + 1 + 1, 0, none⟩)], .agg #[.bool v.1.reg, .int .i64 v.1.n], undef, undef, undef], defers := [] })
   (fun v a' s X Y row hs hg hr => by obtain ⟨Bv, h1, h2⟩ := hs; exact ⟨Bv, q2s Bv _ _ _ W3.heap.size () X Y row h1 hg hr, h2⟩) ?assign ?body ?done ?stop
  case assign =>
   rintro l pre v W K ⟨hI, hB⟩ hK;unfold encV
   gi_wp2
   exact hK _ _ ((KeepsOthers.alloc _ _).from _) (CKeep.of_below (by exact bl0)) ⟨hI.alloc _, qf hB _⟩ ⟨W.heap.size, heap_alloc_new _ _, rfl⟩
  case body =>
   rintro l pre v a' W hl ⟨r, hr⟩ ⟨hI, hB⟩ ⟨Bv, hv, rfl⟩ hlen;have hb0' : W.cell? ⟨w.heap.size, 0, none⟩ = some (.slice (some ⟨g, 0, none⟩) S.length cp) := cqq hB;obtain ⟨v0, v1⟩ := qi hv;have lb := qa hB;have lv := qa hv;have hlen2 : (pre.foldl (fun S (v : VX x) => takeS S v.1) (S.set x.dst.toNat false)).length = S.length := by rw [qbw]; simp
   have hvo : ValOk (pre.foldl (fun S (v : VX x) => takeS S v.1) (S.set x.dst.toNat false)).length v.1 := by rw [hlen2]; exact q49 Hx.out v.1 v.2
   obtain ⟨Hlen2, HI, HB⟩ := lh3 hlen2 hI hB;clear hI hB hv hlen2
   gi_wp2
   refine ⟨trivial, CallsIn.inRound l (callsIn_wide.2 (q5w _ _ _ Hlen2.out g v.1 _ HI.out.1 hvo _ (fun w2 h1 h2 => ?_)))⟩;have h3 := CKeep.of_grown h2;have hI2 : SetI g ((pre ++ [v]).foldl (fun S (v : VX x) => takeS S v.1) (S.set x.dst.toNat false)) w w2 := ⟨by rw [List.foldl_append]; exact h1, HI.out.2.1.trans h2, HI.out.2.2.trans h3⟩;have hB2 := h3.blk HB.out (by omega);have hKF : KeepsFrom W3.heap.size W w2 := KeepsFrom.of_grownBy h2 (fun j e => by cases e; omega)
   gi_wp2
   exact ⟨hKF, h3, hI2, hB2⟩
  case done =>
   rintro D ys W hD hys ⟨hI, hB⟩ hK
   have hE : ys.foldl (fun S (v : VX x) => takeS S v.1) (S.set x.dst.toNat false) = insS S x := by
    rw [qbx, hys];unfold insS;rw [if_pos hd]
   rw [hE] at hI;have hfin := (q6q (f := fun _ : Unit => insS S x) hle).putObj (s := ()) (.deferred none) hI hD hK rfl;have Hfin := lh (HR.out _ hfin.1 hfin.2.1);clear hE hys hfin
   gi_wp2
   refine ⟨by simp, .inl ⟨_, _, rfl, run_takeDeferred hK, ?_⟩⟩;exact ⟨_, results_none rfl _ _ _, Hfin.out⟩
  case stop =>
   rintro D c pre W _ _ h _;exact h.elim
 ·have hd0 := hd;refine callsIn_of_wp_marks Tryz.func119 rfl trivial ?_ rfl;simp only [Tryz.ntmps119, List.size_toArray, List.length_cons, List.length_nil, Nat.reduceAdd, Nat.reduceSub, Array.replicate_succ, Array.replicate_zero, List.push_toArray, List.append_toArray, List.nil_append, List.cons_append]
  gi_wp2
  refine ⟨trivial, callsIn_wide.2 (q52 x A x.args.length c _ _ ?_)⟩
  gi_wp2
  obtain ⟨W3, hW3⟩ := nmm (((w.alloc (Obj.cells #[.slice (some ⟨g, 0, none⟩) S.length cp] 160)).alloc (Obj.cells #[.int .i64 x.op, .int .i64 x.dst, .bool x.a.reg, .int .i64 x.a.n, .bool x.b.reg, .int .i64 x.b.n, .int .i64 x.fn, .slice A x.args.length c] 71)).alloc (Obj.cells #[.int .i64 x.op, .int .i64 x.dst, .bool x.a.reg, .int .i64 x.a.n, .bool x.b.reg, .int .i64 x.b.n, .int .i64 x.fn, .slice A x.args.length c] 71));have hsz : W3.heap.size = w.heap.size + 3 := by subst hW3; simp [World.setCell]
  have hS0 : SetI g S w w := ⟨HS.out, q38 g w, CKeep.refl _ _⟩;have hS3 : SetI g S w W3 := by subst hW3; exact ((hS0.alloc _).alloc _).alloc _
  have hbx : W3.heap[w.heap.size]? = some (.cells #[.slice (some ⟨g, 0, none⟩) S.length cp] 160 (0, 0)) := by
   subst hW3;have := heap_alloc_new w (Obj.cells #[.slice (some ⟨g, 0, none⟩) S.length cp] 160);exact qf (qf (by simpa [World.setCell] using this) _) _
  have hbi : W3.heap[w.heap.size + 1 + 1]? = some (.cells #[.int .i64 x.op, .int .i64 x.dst, .bool x.a.reg, .int .i64 x.a.n, .bool x.b.reg, .int .i64 x.b.n, .int .i64 x.fn, .slice A x.args.length c] 71 (0, 0)) := by
   subst hW3;have := heap_alloc_new ((w.alloc (Obj.cells #[.slice (some ⟨g, 0, none⟩) S.length cp] 160)).alloc (Obj.cells #[.int .i64 x.op, .int .i64 x.dst, .bool x.a.reg, .int .i64 x.a.n, .bool x.b.reg, .int .i64 x.b.n, .int .i64 x.fn, .slice A x.args.length c] 71)) (Obj.cells #[.int .i64 x.op, .int .i64 x.dst, .bool x.a.reg, .int .i64 x.a.n, .bool x.b.reg, .int .i64 x.b.n, .int .i64 x.fn, .slice A x.args.length c] 71);simpa [World.setCell] using this
  have hglt := HS.out.lt;have hN3 : ValsNeed x (.slice A x.args.length c) (w.heap.size + 1 + 1) b0 g W3 := ⟨hbi, Ha.out.mono (fun p u hp hc => hS3.2.2.cell hc (by omega)), by omega, hb0, by omega⟩;have hle : w.heap.size ≤ W3.heap.size := by omega
  rw [show ((w.alloc (Obj.cells #[.slice (some ⟨g, 0, none⟩) S.length cp] 160)).alloc (Obj.cells #[.int .i64 x.op, .int .i64 x.dst, .bool x.a.reg, .int .i64 x.a.n, .bool x.b.reg, .int .i64 x.b.n, .int .i64 x.fn, .slice A x.args.length c] 71)).alloc (Obj.cells #[.int .i64 x.op, .int .i64 x.dst, .bool x.a.reg, .int .i64 x.a.n, .bool x.b.reg, .int .i64 x.b.n, .int .i64 x.fn, .slice A x.args.length c] 71) = W3 from hW3.symm];clear hW3
  refine wpIn_rangeFunc_ownH (F := Fence.wide) rfl (by decide) (gf := 100) (lb := #[.pointer (some ⟨w.heap.size + 1 + 1, 0, none⟩)]) rfl trivial (enters_of Tryz.func100 (by kernel_rfl) rfl)
   (q53 6 (by decide) (w.heap.size + 1 + 1) b0 g x (.slice A x.args.length c) W3 hN3) (fun h k => h.trans k) (fun W l o o' _ h1 h2 _ => CKeep.putObj W l o o' h1 h2) (Below.refl _ _) (fun _ => rfl)
   (fun pre W => SetI g (pre.foldl (fun S v => takeS S v.1) S) w W ∧ W.heap[w.heap.size]? = some (.cells #[.slice (some ⟨g, 0, none⟩) S.length cp] 160 (0, 0)))
   (fun _ _ _ => False)
   (OwnFrom.and (q6q hle) (q2s _ _ _ _ _)) (fun _ _ _ _ _ hs _ _ => hs) ⟨hS3, hbx⟩
   (fun v a' W => ∃ Bv, W.heap[Bv]? = some (.cells #[.bool v.1.reg, .int .i64 v.1.n] 64 (0, 0)) ∧ a' = { tmps := #[.slice (some ⟨g, 0, none⟩) S.length cp, .agg #[.int .i64 x.op, .int .i64 x.dst, .bool x.a.reg, .int .i64 x.a.n, .bool x.b.reg, .int .i64 x.b.n, .int .i64 x.fn, .slice A x.args.length c], .pointer (some ⟨w.heap.size, 0, none⟩), .pointer (some ⟨w.heap.size + 1, 0, none⟩), .pointer (some ⟨Bv, 0, none⟩), .pointer (some ⟨w.heap.size + 1, 1, none⟩), .int .i64 x.dst, .bool false, undef, undef, undef, undef, .agg #[.int .i64 x.op, .int .i64 x.dst, .bool x.a.reg, .int .i64 x.a.n, .bool x.b.reg, .int .i64 x.b.n, .int .i64 x.fn, .slice A x.args.length c], .func (.func 100) #[] #[.pointer (some ⟨w.heap.size + 1 + 1, 0, none⟩)], .agg #[.bool v.1.reg, .int .i64 v.1.n], undef, undef, undef], defers := [] })
   (fun v a' s X Y row hs hg hr => by obtain ⟨Bv, h1, h2⟩ := hs; exact ⟨Bv, q2s Bv _ _ _ W3.heap.size () X Y row h1 hg hr, h2⟩) ?assign ?body ?done ?stop
  case assign =>
   rintro l pre v W K ⟨hI, hB⟩ hK;unfold encV
   gi_wp2
   exact hK _ _ ((KeepsOthers.alloc _ _).from _) (CKeep.of_below (by exact bl0)) ⟨hI.alloc _, qf hB _⟩ ⟨W.heap.size, heap_alloc_new _ _, rfl⟩
  case body =>
   rintro l pre v a' W hl ⟨r, hr⟩ ⟨hI, hB⟩ ⟨Bv, hv, rfl⟩ hlen;have hb0' : W.cell? ⟨w.heap.size, 0, none⟩ = some (.slice (some ⟨g, 0, none⟩) S.length cp) := cqq hB;obtain ⟨v0, v1⟩ := qi hv;have lb := qa hB;have lv := qa hv;have hlen2 : (pre.foldl (fun S (v : VX x) => takeS S v.1) S).length = S.length := by rw [qbw]
   have hvo : ValOk (pre.foldl (fun S (v : VX x) => takeS S v.1) S).length v.1 := by rw [hlen2]; exact q49 Hx.out v.1 v.2
   obtain ⟨Hlen2, HI, HB⟩ := lh3 hlen2 hI hB;clear hI hB hv hlen2
   gi_wp2
   refine ⟨trivial, CallsIn.inRound l (callsIn_wide.2 (q5w _ _ _ Hlen2.out g v.1 _ HI.out.1 hvo _ (fun w2 h1 h2 => ?_)))⟩;have h3 := CKeep.of_grown h2;have hI2 : SetI g ((pre ++ [v]).foldl (fun S (v : VX x) => takeS S v.1) S) w w2 := ⟨by rw [List.foldl_append]; exact h1, HI.out.2.1.trans h2, HI.out.2.2.trans h3⟩;have hB2 := h3.blk HB.out (by omega);have hKF : KeepsFrom W3.heap.size W w2 := KeepsFrom.of_grownBy h2 (fun j e => by cases e; omega)
   gi_wp2
   exact ⟨hKF, h3, hI2, hB2⟩
  case done =>
   rintro D ys W hD hys ⟨hI, hB⟩ hK
   have hE : ys.foldl (fun S (v : VX x) => takeS S v.1) S = insS S x := by
    rw [qbx, hys];unfold insS;rw [if_neg (by omega)]
   rw [hE] at hI;have hfin := (q6q (f := fun _ : Unit => insS S x) hle).putObj (s := ()) (.deferred none) hI hD hK rfl;have Hfin := lh (HR.out _ hfin.1 hfin.2.1);clear hE hys hfin
   gi_wp2
   refine ⟨by simp, .inl ⟨_, _, rfl, run_takeDeferred hK, ?_⟩⟩;exact ⟨_, results_none rfl _ _ _, Hfin.out⟩
  case stop =>
   rintro D c pre W _ _ h _;exact h.elim
end Go.Proofs.YtdanebboiekieaaGreatDoor
