/- core.Vals: its iterator's contract; printed by genvl1.py. -/
import Derived.Test.YtdanebboiekieaaGreatDoorQ07
import Derived.Test.YtdanebboiekieaaGreatDoorQ01
import Derived.Test.YtdanebboiekieaaGreatDoorRows
import Derived.IntWalk
import Derived.Outline
import Derived.RangeFuncNested
import Derived.RangeFuncBound
import Derived.RangeFuncCalls
import Derived.RangeFuncLeaves
import Derived.Shelf.Abstract
import Derived.Shelf.RegionOpen
import Derived.WalkKit
import Derived.OwnWalkIn
import Derived.TacticsInMore
import Derived.LoopNIn
import Derived.LoopIn
namespace Go.Proofs.YtdanebboiekieaaGreatDoor
open Go.RowKit Go.Shelf
set_option linter.unusedSimpArgs false
set_option linter.unusedVariables false
attribute [local go_sem] Oper.semAt_some

theorem undef_no (b : Bool) : ¬ (some undef = some (Value.bool b)) := fun h => by
 injection h with h
 cases h
theorem vx_len {x : UIns} {ys : List (VX x)} {l : List UVal} (h : ys.map (·.1) = l) : ys.length = l.length := by rw [← h, List.length_map]
set_option maxRecDepth 100000 in
set_option maxHeartbeats 4000000 in
theorem Vals1_FF (n : Nat) (hn : 1 ≤ n) (l Bx b0 g : Nat) (x : UIns) (A : Option Addr) (c : Nat) (ha : opA x.op = false) (hb : opB x.op = false) (J Jx : List (VX x) → World → Prop) (n₀ : Nat) (hJ : AbidesFrom n₀ J)
 (hY : ∀ (pre : List (VX x)) (v : VX x) W, J pre W → pre.length < (valsOf x).length → YieldAt Fence.wide (n - 1) Tryz.prog l (encV x v) W fun e W' => (e = .returned (.bool true) ∧ J (pre ++ [v]) W' ∧ CKeep g W W') ∨ (e = .returned (.bool false) ∧ Jx (pre ++ [v]) W'))
 (W : World) (hN : ValsNeed x (.slice A x.args.length c) Bx b0 g W) (h0 : J [] W) :
 CallsIn Fence.wide n Tryz.prog 100 #[.func (.yield l) #[] #[], .pointer (some ⟨Bx, 0, none⟩)] W fun e W' => (∃ v, e = .returned v) ∧
  ((∃ ys : List (VX x), ys.map (·.1) = valsOf x ∧ J ys W') ∨ (∃ pre : List (VX x), True ∧ Jx pre W')) := by
 have HJ := Lib.hid hJ
 have HY := Lib.hid hY
 have hAmem : opA x.op = true → x.a ∈ valsOf x := fun h => by unfold valsOf; rw [if_pos h]; simp
 have hBmem : opB x.op = true → x.b ∈ valsOf x := fun h => by unfold valsOf; rw [if_pos h]; simp
 have hCmem : ∀ v ∈ x.args, v ∈ valsOf x := fun v h => by unfold valsOf; simp [h]
 have HA := Lib.hid hAmem
 have HB := Lib.hid hBmem
 have HC := Lib.hid hCmem
 have hv : valsOf x = [] ++ x.args := by unfold valsOf; simp [ha, hb]
 have Hv := Lib.hid hv
 have hal := hN.args.max
 unfold maxLen at hal
 clear hv hJ hY hAmem hBmem hCmem
 obtain ⟨x0, x1, x2, x3, x4, x5, x6, x7⟩ := ins_cells hN.box
 have lx := blk_lt hN.box
 refine callsIn_of_wp Tryz.func100 rfl trivial ?_ rfl
 simp only [Tryz.ntmps100, List.size_toArray, List.length_cons, List.length_nil, Nat.reduceAdd, Nat.reduceSub, Array.replicate_succ, Array.replicate_zero, List.push_toArray, List.append_toArray, List.nil_append, List.cons_append]
 gi_wp2
 refine ⟨trivial, callsIn_wide.2 (Shapes_calls _ _ _ (fun w1 hb1 => ?_))⟩
 rw [ha, hb]
 have hJ1 := abides_below HJ.out h0 hb1
 have hN1 := hN.keep (CKeep.of_below hb1)
 have hb2 : Below w1.heap.size w1 (w1.alloc (Obj.cells #[.bool (opDst x.op), .bool false, .bool false] 148)) := by exact bl0
 have HN2 := Lib.hid (hN1.keep (CKeep.of_below hb2))
 have HJ2 := Lib.hid (abides_below HJ.out hJ1 hb2)
 have HS2 : Hid ((w1.alloc (Obj.cells #[.bool (opDst x.op), .bool false, .bool false] 148)).heap[w1.heap.size]? = some (.cells #[.bool (opDst x.op), .bool false, .bool false] 148 (0, 0))) := Lib.hid (heap_alloc_new _ _)
 obtain ⟨y0, y1, y2⟩ : (w1.alloc (Obj.cells #[.bool (opDst x.op), .bool false, .bool false] 148)).cell? ⟨w1.heap.size, 0, none⟩ = some (.bool (opDst x.op)) ∧ (w1.alloc (Obj.cells #[.bool (opDst x.op), .bool false, .bool false] 148)).cell? ⟨w1.heap.size, 1, none⟩ = some (.bool false) ∧ (w1.alloc (Obj.cells #[.bool (opDst x.op), .bool false, .bool false] 148)).cell? ⟨w1.heap.size, 2, none⟩ = some (.bool false) := by
  refine ⟨?_, ?_, ?_⟩ <;> (rw [blk_cells HS2.out]; rfl)
 have hsg : w1.heap.size ≠ g := by have := hN1.lt; omega
 clear x0 x1 x2 x3 x4 x5 x6 x7 lx hb1 hN1 hJ1 hb2
 obtain ⟨x0, x1, x2, x3, x4, x5, x6, x7⟩ := ins_cells HN2.out.box
 have lx := blk_lt HN2.out.box
 have ly := blk_lt HS2.out
 gi_wp2
 refine ⟨fun _ h => (by cases h), ?_⟩
 gi_wp2
 gi_loopw [32] (fun i wr => ∃ (j : Nat) (ys : List (VX x)), j ≤ x.args.length ∧ i = .int .i64 (j : Int) ∧ ys.map (·.1) = [] ++ x.args.take j ∧ Hid (J ys wr) ∧ Hid (ValsNeed x (.slice A x.args.length c) Bx b0 g wr))
  (fun i _ => x.args.length - (intOf i).toNat)
 case atStart => exact ⟨0, ([] : List (VX x)), Nat.zero_le _, rfl, by simp, HJ2, HN2⟩
 case round =>
  obtain ⟨j, ys, hj, rfl, hys, HJr, HNr⟩ := hrel
  have Hys := Lib.hid hys
  clear hys x0 x1 x2 x3 x4 x5 x6 x7 lx y0 y1 y2 ly
  by_cases hlt : j < x.args.length
  ·obtain ⟨ba, oa, rfl, hba, a0, a1⟩ := HNr.out.args.val_at hlt
   have j1 : (0 : Int) ≤ (j : Int) := Int.natCast_nonneg _
   have j2 : (j : Int) < (x.args.length : Int) := by omega
   have lba : ba < wr.heap.size := World.block_lt_of_cell? wr _ a0
   have hlen : ys.length < (valsOf x).length := by
    rw [vx_len Hys.out, Hv.out]
    simp
    omega
   have hba2 : Below wr.heap.size wr (wr.alloc (Obj.cells #[.bool x.args[j].reg, .int .i64 x.args[j].n] 64)) := by exact bl0
   obtain ⟨fn5, tmps5, assign5, body5, hy5, hR5⟩ := HY.out ys ⟨x.args[j], HC.out _ (List.getElem_mem hlt)⟩ (wr.alloc (Obj.cells #[.bool x.args[j].reg, .int .i64 x.args[j].n] 64)) (abides_below HJ.out HJr.out hba2) hlen
   dsimp only [encV] at hy5
   have HR5 := Lib.hid hR5
   have Hnext : Hid ((ys ++ [(⟨x.args[j], HC.out _ (List.getElem_mem hlt)⟩ : VX x)]).map (fun v : VX x => v.1) = [] ++ x.args.take (j + 1)) := Lib.hid (by
    rw [List.map_append, Hys.out, List.take_succ_eq_append_getElem hlt, List.append_assoc]
    rfl)
   have HN5 := Lib.hid (HNr.out.keep (CKeep.of_below hba2))
   clear hR5 hba2
   gi_wp2
   refine HR5.out.mono ?_
   rintro e W6 (⟨rfl, hJ6, hk6⟩ | ⟨rfl, hx6⟩)
   ·have HN6 := Lib.hid (HN5.out.keep hk6)
    have HJ6 := Lib.hid hJ6
    clear hJ6 hk6 a0 a1 lba
    gi_wp2
    go_roundw
    case rel => exact ⟨j + 1, _, by omega, by go_num, Hnext.out, HJ6, HN6⟩
    case measure => simp [intOf]; omega
   ·gi_wp2
    refine bodyPost_ret (results_none rfl _ _ _) rfl ?_
    exact ⟨⟨_, rfl⟩, .inr ⟨_, trivial, hx6⟩⟩
  ·obtain rfl : j = x.args.length := by omega
   have Hend : Hid (ys.map (·.1) = valsOf x) := Lib.hid (by rw [Hys.out, Hv.out, List.take_length])
   gi_wp2
   go_end0
   exact ⟨⟨_, rfl⟩, .inl ⟨ys, Hend.out, HJr.out⟩⟩
set_option maxRecDepth 100000 in
set_option maxHeartbeats 4000000 in
theorem Vals1_FT (n : Nat) (hn : 1 ≤ n) (l Bx b0 g : Nat) (x : UIns) (A : Option Addr) (c : Nat) (ha : opA x.op = false) (hb : opB x.op = true) (J Jx : List (VX x) → World → Prop) (n₀ : Nat) (hJ : AbidesFrom n₀ J)
 (hY : ∀ (pre : List (VX x)) (v : VX x) W, J pre W → pre.length < (valsOf x).length → YieldAt Fence.wide (n - 1) Tryz.prog l (encV x v) W fun e W' => (e = .returned (.bool true) ∧ J (pre ++ [v]) W' ∧ CKeep g W W') ∨ (e = .returned (.bool false) ∧ Jx (pre ++ [v]) W'))
 (W : World) (hN : ValsNeed x (.slice A x.args.length c) Bx b0 g W) (h0 : J [] W) :
 CallsIn Fence.wide n Tryz.prog 100 #[.func (.yield l) #[] #[], .pointer (some ⟨Bx, 0, none⟩)] W fun e W' => (∃ v, e = .returned v) ∧
  ((∃ ys : List (VX x), ys.map (·.1) = valsOf x ∧ J ys W') ∨ (∃ pre : List (VX x), True ∧ Jx pre W')) := by
 have HJ := Lib.hid hJ
 have HY := Lib.hid hY
 have hAmem : opA x.op = true → x.a ∈ valsOf x := fun h => by unfold valsOf; rw [if_pos h]; simp
 have hBmem : opB x.op = true → x.b ∈ valsOf x := fun h => by unfold valsOf; rw [if_pos h]; simp
 have hCmem : ∀ v ∈ x.args, v ∈ valsOf x := fun v h => by unfold valsOf; simp [h]
 have HA := Lib.hid hAmem
 have HB := Lib.hid hBmem
 have HC := Lib.hid hCmem
 have hv : valsOf x = [x.b] ++ x.args := by unfold valsOf; simp [ha, hb]
 have Hv := Lib.hid hv
 have hal := hN.args.max
 unfold maxLen at hal
 clear hv hJ hY hAmem hBmem hCmem
 obtain ⟨x0, x1, x2, x3, x4, x5, x6, x7⟩ := ins_cells hN.box
 have lx := blk_lt hN.box
 refine callsIn_of_wp Tryz.func100 rfl trivial ?_ rfl
 simp only [Tryz.ntmps100, List.size_toArray, List.length_cons, List.length_nil, Nat.reduceAdd, Nat.reduceSub, Array.replicate_succ, Array.replicate_zero, List.push_toArray, List.append_toArray, List.nil_append, List.cons_append]
 gi_wp2
 refine ⟨trivial, callsIn_wide.2 (Shapes_calls _ _ _ (fun w1 hb1 => ?_))⟩
 rw [ha, hb]
 have hJ1 := abides_below HJ.out h0 hb1
 have hN1 := hN.keep (CKeep.of_below hb1)
 have hb2 : Below w1.heap.size w1 (w1.alloc (Obj.cells #[.bool (opDst x.op), .bool false, .bool true] 148)) := by exact bl0
 have HN2 := Lib.hid (hN1.keep (CKeep.of_below hb2))
 have HJ2 := Lib.hid (abides_below HJ.out hJ1 hb2)
 have HS2 : Hid ((w1.alloc (Obj.cells #[.bool (opDst x.op), .bool false, .bool true] 148)).heap[w1.heap.size]? = some (.cells #[.bool (opDst x.op), .bool false, .bool true] 148 (0, 0))) := Lib.hid (heap_alloc_new _ _)
 obtain ⟨y0, y1, y2⟩ : (w1.alloc (Obj.cells #[.bool (opDst x.op), .bool false, .bool true] 148)).cell? ⟨w1.heap.size, 0, none⟩ = some (.bool (opDst x.op)) ∧ (w1.alloc (Obj.cells #[.bool (opDst x.op), .bool false, .bool true] 148)).cell? ⟨w1.heap.size, 1, none⟩ = some (.bool false) ∧ (w1.alloc (Obj.cells #[.bool (opDst x.op), .bool false, .bool true] 148)).cell? ⟨w1.heap.size, 2, none⟩ = some (.bool true) := by
  refine ⟨?_, ?_, ?_⟩ <;> (rw [blk_cells HS2.out]; rfl)
 have hsg : w1.heap.size ≠ g := by have := hN1.lt; omega
 clear x0 x1 x2 x3 x4 x5 x6 x7 lx hb1 hN1 hJ1 hb2
 obtain ⟨x0, x1, x2, x3, x4, x5, x6, x7⟩ := ins_cells HN2.out.box
 have lx := blk_lt HN2.out.box
 have ly := blk_lt HS2.out
 obtain ⟨fn3, tmps3, assign3, body3, hy3, hR3⟩ := HY.out ([] : List (VX x)) ⟨x.b, HB.out hb⟩ _ HJ2.out (by have := congrArg List.length Hv.out; simp at this ⊢; omega)
 dsimp only [encV] at hy3
 have HR3 := Lib.hid hR3
 clear hR3
 gi_wp2
 refine ⟨fun _ h => (by cases h), ?_⟩
 gi_wp2
 refine HR3.out.mono ?_
 rintro e W3 (⟨rfl, hJ3, hk3⟩ | ⟨rfl, hx3⟩)
 rotate_left
 ·gi_wp2
  refine bodyPost_ret (results_none rfl _ _ _) rfl ?_
  exact ⟨⟨_, rfl⟩, .inr ⟨_, trivial, hx3⟩⟩
 have HN3 := Lib.hid (HN2.out.keep hk3)
 have HJ3 := Lib.hid hJ3
 have HS3 := Lib.hid (hk3.blk HS2.out hsg)
 clear x0 x1 x2 x3 x4 x5 x6 x7 lx y0 y1 y2 ly hJ3 hk3 hy3 HR3
 obtain ⟨x0, x1, x2, x3, x4, x5, x6, x7⟩ := ins_cells HN3.out.box
 have lx := blk_lt HN3.out.box
 obtain ⟨y0, y1, y2⟩ : W3.cell? ⟨w1.heap.size, 0, none⟩ = some (.bool (opDst x.op)) ∧ W3.cell? ⟨w1.heap.size, 1, none⟩ = some (.bool false) ∧ W3.cell? ⟨w1.heap.size, 2, none⟩ = some (.bool true) := by
  refine ⟨?_, ?_, ?_⟩ <;> (rw [blk_cells HS3.out]; rfl)
 have ly := blk_lt HS3.out
 gi_wp2
 gi_loopw [32] (fun i wr => ∃ (j : Nat) (ys : List (VX x)), j ≤ x.args.length ∧ i = .int .i64 (j : Int) ∧ ys.map (·.1) = [x.b] ++ x.args.take j ∧ Hid (J ys wr) ∧ Hid (ValsNeed x (.slice A x.args.length c) Bx b0 g wr))
  (fun i _ => x.args.length - (intOf i).toNat)
 case atStart => exact ⟨0, ([⟨x.b, HB.out hb⟩] : List (VX x)), Nat.zero_le _, rfl, by simp, HJ3, HN3⟩
 case round =>
  obtain ⟨j, ys, hj, rfl, hys, HJr, HNr⟩ := hrel
  have Hys := Lib.hid hys
  clear hys x0 x1 x2 x3 x4 x5 x6 x7 lx y0 y1 y2 ly
  by_cases hlt : j < x.args.length
  ·obtain ⟨ba, oa, rfl, hba, a0, a1⟩ := HNr.out.args.val_at hlt
   have j1 : (0 : Int) ≤ (j : Int) := Int.natCast_nonneg _
   have j2 : (j : Int) < (x.args.length : Int) := by omega
   have lba : ba < wr.heap.size := World.block_lt_of_cell? wr _ a0
   have hlen : ys.length < (valsOf x).length := by
    rw [vx_len Hys.out, Hv.out]
    simp
    omega
   have hba2 : Below wr.heap.size wr (wr.alloc (Obj.cells #[.bool x.args[j].reg, .int .i64 x.args[j].n] 64)) := by exact bl0
   obtain ⟨fn5, tmps5, assign5, body5, hy5, hR5⟩ := HY.out ys ⟨x.args[j], HC.out _ (List.getElem_mem hlt)⟩ (wr.alloc (Obj.cells #[.bool x.args[j].reg, .int .i64 x.args[j].n] 64)) (abides_below HJ.out HJr.out hba2) hlen
   dsimp only [encV] at hy5
   have HR5 := Lib.hid hR5
   have Hnext : Hid ((ys ++ [(⟨x.args[j], HC.out _ (List.getElem_mem hlt)⟩ : VX x)]).map (fun v : VX x => v.1) = [x.b] ++ x.args.take (j + 1)) := Lib.hid (by
    rw [List.map_append, Hys.out, List.take_succ_eq_append_getElem hlt, List.append_assoc]
    rfl)
   have HN5 := Lib.hid (HNr.out.keep (CKeep.of_below hba2))
   clear hR5 hba2
   gi_wp2
   refine HR5.out.mono ?_
   rintro e W6 (⟨rfl, hJ6, hk6⟩ | ⟨rfl, hx6⟩)
   ·have HN6 := Lib.hid (HN5.out.keep hk6)
    have HJ6 := Lib.hid hJ6
    clear hJ6 hk6 a0 a1 lba
    gi_wp2
    go_roundw
    case rel => exact ⟨j + 1, _, by omega, by go_num, Hnext.out, HJ6, HN6⟩
    case measure => simp [intOf]; omega
   ·gi_wp2
    refine bodyPost_ret (results_none rfl _ _ _) rfl ?_
    exact ⟨⟨_, rfl⟩, .inr ⟨_, trivial, hx6⟩⟩
  ·obtain rfl : j = x.args.length := by omega
   have Hend : Hid (ys.map (·.1) = valsOf x) := Lib.hid (by rw [Hys.out, Hv.out, List.take_length])
   gi_wp2
   go_end0
   exact ⟨⟨_, rfl⟩, .inl ⟨ys, Hend.out, HJr.out⟩⟩
set_option maxRecDepth 100000 in
set_option maxHeartbeats 4000000 in
theorem Vals1_TF (n : Nat) (hn : 1 ≤ n) (l Bx b0 g : Nat) (x : UIns) (A : Option Addr) (c : Nat) (ha : opA x.op = true) (hb : opB x.op = false) (J Jx : List (VX x) → World → Prop) (n₀ : Nat) (hJ : AbidesFrom n₀ J)
 (hY : ∀ (pre : List (VX x)) (v : VX x) W, J pre W → pre.length < (valsOf x).length → YieldAt Fence.wide (n - 1) Tryz.prog l (encV x v) W fun e W' => (e = .returned (.bool true) ∧ J (pre ++ [v]) W' ∧ CKeep g W W') ∨ (e = .returned (.bool false) ∧ Jx (pre ++ [v]) W'))
 (W : World) (hN : ValsNeed x (.slice A x.args.length c) Bx b0 g W) (h0 : J [] W) :
 CallsIn Fence.wide n Tryz.prog 100 #[.func (.yield l) #[] #[], .pointer (some ⟨Bx, 0, none⟩)] W fun e W' => (∃ v, e = .returned v) ∧
  ((∃ ys : List (VX x), ys.map (·.1) = valsOf x ∧ J ys W') ∨ (∃ pre : List (VX x), True ∧ Jx pre W')) := by
 have HJ := Lib.hid hJ
 have HY := Lib.hid hY
 have hAmem : opA x.op = true → x.a ∈ valsOf x := fun h => by unfold valsOf; rw [if_pos h]; simp
 have hBmem : opB x.op = true → x.b ∈ valsOf x := fun h => by unfold valsOf; rw [if_pos h]; simp
 have hCmem : ∀ v ∈ x.args, v ∈ valsOf x := fun v h => by unfold valsOf; simp [h]
 have HA := Lib.hid hAmem
 have HB := Lib.hid hBmem
 have HC := Lib.hid hCmem
 have hv : valsOf x = [x.a] ++ x.args := by unfold valsOf; simp [ha, hb]
 have Hv := Lib.hid hv
 have hal := hN.args.max
 unfold maxLen at hal
 clear hv hJ hY hAmem hBmem hCmem
 obtain ⟨x0, x1, x2, x3, x4, x5, x6, x7⟩ := ins_cells hN.box
 have lx := blk_lt hN.box
 refine callsIn_of_wp Tryz.func100 rfl trivial ?_ rfl
 simp only [Tryz.ntmps100, List.size_toArray, List.length_cons, List.length_nil, Nat.reduceAdd, Nat.reduceSub, Array.replicate_succ, Array.replicate_zero, List.push_toArray, List.append_toArray, List.nil_append, List.cons_append]
 gi_wp2
 refine ⟨trivial, callsIn_wide.2 (Shapes_calls _ _ _ (fun w1 hb1 => ?_))⟩
 rw [ha, hb]
 have hJ1 := abides_below HJ.out h0 hb1
 have hN1 := hN.keep (CKeep.of_below hb1)
 have hb2 : Below w1.heap.size w1 (w1.alloc (Obj.cells #[.bool (opDst x.op), .bool true, .bool false] 148)) := by exact bl0
 have HN2 := Lib.hid (hN1.keep (CKeep.of_below hb2))
 have HJ2 := Lib.hid (abides_below HJ.out hJ1 hb2)
 have HS2 : Hid ((w1.alloc (Obj.cells #[.bool (opDst x.op), .bool true, .bool false] 148)).heap[w1.heap.size]? = some (.cells #[.bool (opDst x.op), .bool true, .bool false] 148 (0, 0))) := Lib.hid (heap_alloc_new _ _)
 obtain ⟨y0, y1, y2⟩ : (w1.alloc (Obj.cells #[.bool (opDst x.op), .bool true, .bool false] 148)).cell? ⟨w1.heap.size, 0, none⟩ = some (.bool (opDst x.op)) ∧ (w1.alloc (Obj.cells #[.bool (opDst x.op), .bool true, .bool false] 148)).cell? ⟨w1.heap.size, 1, none⟩ = some (.bool true) ∧ (w1.alloc (Obj.cells #[.bool (opDst x.op), .bool true, .bool false] 148)).cell? ⟨w1.heap.size, 2, none⟩ = some (.bool false) := by
  refine ⟨?_, ?_, ?_⟩ <;> (rw [blk_cells HS2.out]; rfl)
 have hsg : w1.heap.size ≠ g := by have := hN1.lt; omega
 clear x0 x1 x2 x3 x4 x5 x6 x7 lx hb1 hN1 hJ1 hb2
 obtain ⟨x0, x1, x2, x3, x4, x5, x6, x7⟩ := ins_cells HN2.out.box
 have lx := blk_lt HN2.out.box
 have ly := blk_lt HS2.out
 obtain ⟨fn3, tmps3, assign3, body3, hy3, hR3⟩ := HY.out ([] : List (VX x)) ⟨x.a, HA.out ha⟩ _ HJ2.out (by have := congrArg List.length Hv.out; simp at this ⊢; omega)
 dsimp only [encV] at hy3
 have HR3 := Lib.hid hR3
 clear hR3
 gi_wp2
 refine HR3.out.mono ?_
 rintro e W3 (⟨rfl, hJ3, hk3⟩ | ⟨rfl, hx3⟩)
 rotate_left
 ·gi_wp2
  all_goals try exact absurd ‹some undef = some (Value.bool _)› (undef_no _)
  refine ⟨fun _ h => (by cases h), ?_⟩
  gi_wp2
  refine bodyPost_ret (results_none rfl _ _ _) rfl ?_
  exact ⟨⟨_, rfl⟩, .inr ⟨_, trivial, hx3⟩⟩
 have HN3 := Lib.hid (HN2.out.keep hk3)
 have HJ3 := Lib.hid hJ3
 have HS3 := Lib.hid (hk3.blk HS2.out hsg)
 clear x0 x1 x2 x3 x4 x5 x6 x7 lx y0 y1 y2 ly hJ3 hk3 hy3 HR3
 obtain ⟨x0, x1, x2, x3, x4, x5, x6, x7⟩ := ins_cells HN3.out.box
 have lx := blk_lt HN3.out.box
 obtain ⟨y0, y1, y2⟩ : W3.cell? ⟨w1.heap.size, 0, none⟩ = some (.bool (opDst x.op)) ∧ W3.cell? ⟨w1.heap.size, 1, none⟩ = some (.bool true) ∧ W3.cell? ⟨w1.heap.size, 2, none⟩ = some (.bool false) := by
  refine ⟨?_, ?_, ?_⟩ <;> (rw [blk_cells HS3.out]; rfl)
 have ly := blk_lt HS3.out
 gi_wp2
 refine ⟨fun _ h => (by cases h), ?_⟩
 gi_wp2
 gi_loopw [32] (fun i wr => ∃ (j : Nat) (ys : List (VX x)), j ≤ x.args.length ∧ i = .int .i64 (j : Int) ∧ ys.map (·.1) = [x.a] ++ x.args.take j ∧ Hid (J ys wr) ∧ Hid (ValsNeed x (.slice A x.args.length c) Bx b0 g wr))
  (fun i _ => x.args.length - (intOf i).toNat)
 case atStart => exact ⟨0, ([⟨x.a, HA.out ha⟩] : List (VX x)), Nat.zero_le _, rfl, by simp, HJ3, HN3⟩
 case round =>
  obtain ⟨j, ys, hj, rfl, hys, HJr, HNr⟩ := hrel
  have Hys := Lib.hid hys
  clear hys x0 x1 x2 x3 x4 x5 x6 x7 lx y0 y1 y2 ly
  by_cases hlt : j < x.args.length
  ·obtain ⟨ba, oa, rfl, hba, a0, a1⟩ := HNr.out.args.val_at hlt
   have j1 : (0 : Int) ≤ (j : Int) := Int.natCast_nonneg _
   have j2 : (j : Int) < (x.args.length : Int) := by omega
   have lba : ba < wr.heap.size := World.block_lt_of_cell? wr _ a0
   have hlen : ys.length < (valsOf x).length := by
    rw [vx_len Hys.out, Hv.out]
    simp
    omega
   have hba2 : Below wr.heap.size wr (wr.alloc (Obj.cells #[.bool x.args[j].reg, .int .i64 x.args[j].n] 64)) := by exact bl0
   obtain ⟨fn5, tmps5, assign5, body5, hy5, hR5⟩ := HY.out ys ⟨x.args[j], HC.out _ (List.getElem_mem hlt)⟩ (wr.alloc (Obj.cells #[.bool x.args[j].reg, .int .i64 x.args[j].n] 64)) (abides_below HJ.out HJr.out hba2) hlen
   dsimp only [encV] at hy5
   have HR5 := Lib.hid hR5
   have Hnext : Hid ((ys ++ [(⟨x.args[j], HC.out _ (List.getElem_mem hlt)⟩ : VX x)]).map (fun v : VX x => v.1) = [x.a] ++ x.args.take (j + 1)) := Lib.hid (by
    rw [List.map_append, Hys.out, List.take_succ_eq_append_getElem hlt, List.append_assoc]
    rfl)
   have HN5 := Lib.hid (HNr.out.keep (CKeep.of_below hba2))
   clear hR5 hba2
   gi_wp2
   refine HR5.out.mono ?_
   rintro e W6 (⟨rfl, hJ6, hk6⟩ | ⟨rfl, hx6⟩)
   ·have HN6 := Lib.hid (HN5.out.keep hk6)
    have HJ6 := Lib.hid hJ6
    clear hJ6 hk6 a0 a1 lba
    gi_wp2
    go_roundw
    case rel => exact ⟨j + 1, _, by omega, by go_num, Hnext.out, HJ6, HN6⟩
    case measure => simp [intOf]; omega
   ·gi_wp2
    refine bodyPost_ret (results_none rfl _ _ _) rfl ?_
    exact ⟨⟨_, rfl⟩, .inr ⟨_, trivial, hx6⟩⟩
  ·obtain rfl : j = x.args.length := by omega
   have Hend : Hid (ys.map (·.1) = valsOf x) := Lib.hid (by rw [Hys.out, Hv.out, List.take_length])
   gi_wp2
   go_end0
   exact ⟨⟨_, rfl⟩, .inl ⟨ys, Hend.out, HJr.out⟩⟩
set_option maxRecDepth 100000 in
set_option maxHeartbeats 4000000 in
theorem Vals1_TT (n : Nat) (hn : 1 ≤ n) (l Bx b0 g : Nat) (x : UIns) (A : Option Addr) (c : Nat) (ha : opA x.op = true) (hb : opB x.op = true) (J Jx : List (VX x) → World → Prop) (n₀ : Nat) (hJ : AbidesFrom n₀ J)
 (hY : ∀ (pre : List (VX x)) (v : VX x) W, J pre W → pre.length < (valsOf x).length → YieldAt Fence.wide (n - 1) Tryz.prog l (encV x v) W fun e W' => (e = .returned (.bool true) ∧ J (pre ++ [v]) W' ∧ CKeep g W W') ∨ (e = .returned (.bool false) ∧ Jx (pre ++ [v]) W'))
 (W : World) (hN : ValsNeed x (.slice A x.args.length c) Bx b0 g W) (h0 : J [] W) :
 CallsIn Fence.wide n Tryz.prog 100 #[.func (.yield l) #[] #[], .pointer (some ⟨Bx, 0, none⟩)] W fun e W' => (∃ v, e = .returned v) ∧
  ((∃ ys : List (VX x), ys.map (·.1) = valsOf x ∧ J ys W') ∨ (∃ pre : List (VX x), True ∧ Jx pre W')) := by
 have HJ := Lib.hid hJ
 have HY := Lib.hid hY
 have hAmem : opA x.op = true → x.a ∈ valsOf x := fun h => by unfold valsOf; rw [if_pos h]; simp
 have hBmem : opB x.op = true → x.b ∈ valsOf x := fun h => by unfold valsOf; rw [if_pos h]; simp
 have hCmem : ∀ v ∈ x.args, v ∈ valsOf x := fun v h => by unfold valsOf; simp [h]
 have HA := Lib.hid hAmem
 have HB := Lib.hid hBmem
 have HC := Lib.hid hCmem
 have hv : valsOf x = [x.a, x.b] ++ x.args := by unfold valsOf; simp [ha, hb]
 have Hv := Lib.hid hv
 have hal := hN.args.max
 unfold maxLen at hal
 clear hv hJ hY hAmem hBmem hCmem
 obtain ⟨x0, x1, x2, x3, x4, x5, x6, x7⟩ := ins_cells hN.box
 have lx := blk_lt hN.box
 refine callsIn_of_wp Tryz.func100 rfl trivial ?_ rfl
 simp only [Tryz.ntmps100, List.size_toArray, List.length_cons, List.length_nil, Nat.reduceAdd, Nat.reduceSub, Array.replicate_succ, Array.replicate_zero, List.push_toArray, List.append_toArray, List.nil_append, List.cons_append]
 gi_wp2
 refine ⟨trivial, callsIn_wide.2 (Shapes_calls _ _ _ (fun w1 hb1 => ?_))⟩
 rw [ha, hb]
 have hJ1 := abides_below HJ.out h0 hb1
 have hN1 := hN.keep (CKeep.of_below hb1)
 have hb2 : Below w1.heap.size w1 (w1.alloc (Obj.cells #[.bool (opDst x.op), .bool true, .bool true] 148)) := by exact bl0
 have HN2 := Lib.hid (hN1.keep (CKeep.of_below hb2))
 have HJ2 := Lib.hid (abides_below HJ.out hJ1 hb2)
 have HS2 : Hid ((w1.alloc (Obj.cells #[.bool (opDst x.op), .bool true, .bool true] 148)).heap[w1.heap.size]? = some (.cells #[.bool (opDst x.op), .bool true, .bool true] 148 (0, 0))) := Lib.hid (heap_alloc_new _ _)
 obtain ⟨y0, y1, y2⟩ : (w1.alloc (Obj.cells #[.bool (opDst x.op), .bool true, .bool true] 148)).cell? ⟨w1.heap.size, 0, none⟩ = some (.bool (opDst x.op)) ∧ (w1.alloc (Obj.cells #[.bool (opDst x.op), .bool true, .bool true] 148)).cell? ⟨w1.heap.size, 1, none⟩ = some (.bool true) ∧ (w1.alloc (Obj.cells #[.bool (opDst x.op), .bool true, .bool true] 148)).cell? ⟨w1.heap.size, 2, none⟩ = some (.bool true) := by
  refine ⟨?_, ?_, ?_⟩ <;> (rw [blk_cells HS2.out]; rfl)
 have hsg : w1.heap.size ≠ g := by have := hN1.lt; omega
 clear x0 x1 x2 x3 x4 x5 x6 x7 lx hb1 hN1 hJ1 hb2
 obtain ⟨x0, x1, x2, x3, x4, x5, x6, x7⟩ := ins_cells HN2.out.box
 have lx := blk_lt HN2.out.box
 have ly := blk_lt HS2.out
 obtain ⟨fn3, tmps3, assign3, body3, hy3, hR3⟩ := HY.out ([] : List (VX x)) ⟨x.a, HA.out ha⟩ _ HJ2.out (by have := congrArg List.length Hv.out; simp at this ⊢; omega)
 dsimp only [encV] at hy3
 have HR3 := Lib.hid hR3
 clear hR3
 gi_wp2
 refine HR3.out.mono ?_
 rintro e W3 (⟨rfl, hJ3, hk3⟩ | ⟨rfl, hx3⟩)
 rotate_left
 ·gi_wp2
  all_goals try exact absurd ‹some undef = some (Value.bool _)› (undef_no _)
  refine ⟨fun _ h => (by cases h), ?_⟩
  gi_wp2
  refine bodyPost_ret (results_none rfl _ _ _) rfl ?_
  exact ⟨⟨_, rfl⟩, .inr ⟨_, trivial, hx3⟩⟩
 have HN3 := Lib.hid (HN2.out.keep hk3)
 have HJ3 := Lib.hid hJ3
 have HS3 := Lib.hid (hk3.blk HS2.out hsg)
 clear x0 x1 x2 x3 x4 x5 x6 x7 lx y0 y1 y2 ly hJ3 hk3 hy3 HR3
 obtain ⟨x0, x1, x2, x3, x4, x5, x6, x7⟩ := ins_cells HN3.out.box
 have lx := blk_lt HN3.out.box
 obtain ⟨y0, y1, y2⟩ : W3.cell? ⟨w1.heap.size, 0, none⟩ = some (.bool (opDst x.op)) ∧ W3.cell? ⟨w1.heap.size, 1, none⟩ = some (.bool true) ∧ W3.cell? ⟨w1.heap.size, 2, none⟩ = some (.bool true) := by
  refine ⟨?_, ?_, ?_⟩ <;> (rw [blk_cells HS3.out]; rfl)
 have ly := blk_lt HS3.out
 obtain ⟨fn4, tmps4, assign4, body4, hy4, hR4⟩ := HY.out ([⟨x.a, HA.out ha⟩] : List (VX x)) ⟨x.b, HB.out hb⟩ _ HJ3.out (by have := congrArg List.length Hv.out; simp at this ⊢; omega)
 dsimp only [encV] at hy4
 have HR4 := Lib.hid hR4
 clear hR4
 gi_wp2
 refine HR4.out.mono ?_
 rintro e W4 (⟨rfl, hJ4, hk4⟩ | ⟨rfl, hx4⟩)
 rotate_left
 ·gi_wp2
  refine bodyPost_ret (results_none rfl _ _ _) rfl ?_
  exact ⟨⟨_, rfl⟩, .inr ⟨_, trivial, hx4⟩⟩
 have HN4 := Lib.hid (HN3.out.keep hk4)
 have HJ4 := Lib.hid hJ4
 have HS4 := Lib.hid (hk4.blk HS3.out hsg)
 clear x0 x1 x2 x3 x4 x5 x6 x7 lx y0 y1 y2 ly hJ4 hk4 hy4 HR4
 obtain ⟨x0, x1, x2, x3, x4, x5, x6, x7⟩ := ins_cells HN4.out.box
 have lx := blk_lt HN4.out.box
 obtain ⟨y0, y1, y2⟩ : W4.cell? ⟨w1.heap.size, 0, none⟩ = some (.bool (opDst x.op)) ∧ W4.cell? ⟨w1.heap.size, 1, none⟩ = some (.bool true) ∧ W4.cell? ⟨w1.heap.size, 2, none⟩ = some (.bool true) := by
  refine ⟨?_, ?_, ?_⟩ <;> (rw [blk_cells HS4.out]; rfl)
 have ly := blk_lt HS4.out
 gi_wp2
 gi_loopw [32] (fun i wr => ∃ (j : Nat) (ys : List (VX x)), j ≤ x.args.length ∧ i = .int .i64 (j : Int) ∧ ys.map (·.1) = [x.a, x.b] ++ x.args.take j ∧ Hid (J ys wr) ∧ Hid (ValsNeed x (.slice A x.args.length c) Bx b0 g wr))
  (fun i _ => x.args.length - (intOf i).toNat)
 case atStart => exact ⟨0, ([⟨x.a, HA.out ha⟩, ⟨x.b, HB.out hb⟩] : List (VX x)), Nat.zero_le _, rfl, by simp, HJ4, HN4⟩
 case round =>
  obtain ⟨j, ys, hj, rfl, hys, HJr, HNr⟩ := hrel
  have Hys := Lib.hid hys
  clear hys x0 x1 x2 x3 x4 x5 x6 x7 lx y0 y1 y2 ly
  by_cases hlt : j < x.args.length
  ·obtain ⟨ba, oa, rfl, hba, a0, a1⟩ := HNr.out.args.val_at hlt
   have j1 : (0 : Int) ≤ (j : Int) := Int.natCast_nonneg _
   have j2 : (j : Int) < (x.args.length : Int) := by omega
   have lba : ba < wr.heap.size := World.block_lt_of_cell? wr _ a0
   have hlen : ys.length < (valsOf x).length := by
    rw [vx_len Hys.out, Hv.out]
    simp
    omega
   have hba2 : Below wr.heap.size wr (wr.alloc (Obj.cells #[.bool x.args[j].reg, .int .i64 x.args[j].n] 64)) := by exact bl0
   obtain ⟨fn5, tmps5, assign5, body5, hy5, hR5⟩ := HY.out ys ⟨x.args[j], HC.out _ (List.getElem_mem hlt)⟩ (wr.alloc (Obj.cells #[.bool x.args[j].reg, .int .i64 x.args[j].n] 64)) (abides_below HJ.out HJr.out hba2) hlen
   dsimp only [encV] at hy5
   have HR5 := Lib.hid hR5
   have Hnext : Hid ((ys ++ [(⟨x.args[j], HC.out _ (List.getElem_mem hlt)⟩ : VX x)]).map (fun v : VX x => v.1) = [x.a, x.b] ++ x.args.take (j + 1)) := Lib.hid (by
    rw [List.map_append, Hys.out, List.take_succ_eq_append_getElem hlt, List.append_assoc]
    rfl)
   have HN5 := Lib.hid (HNr.out.keep (CKeep.of_below hba2))
   clear hR5 hba2
   gi_wp2
   refine HR5.out.mono ?_
   rintro e W6 (⟨rfl, hJ6, hk6⟩ | ⟨rfl, hx6⟩)
   ·have HN6 := Lib.hid (HN5.out.keep hk6)
    have HJ6 := Lib.hid hJ6
    clear hJ6 hk6 a0 a1 lba
    gi_wp2
    go_roundw
    case rel => exact ⟨j + 1, _, by omega, by go_num, Hnext.out, HJ6, HN6⟩
    case measure => simp [intOf]; omega
   ·gi_wp2
    refine bodyPost_ret (results_none rfl _ _ _) rfl ?_
    exact ⟨⟨_, rfl⟩, .inr ⟨_, trivial, hx6⟩⟩
  ·obtain rfl : j = x.args.length := by omega
   have Hend : Hid (ys.map (·.1) = valsOf x) := Lib.hid (by rw [Hys.out, Hv.out, List.take_length])
   gi_wp2
   go_end0
   exact ⟨⟨_, rfl⟩, .inl ⟨ys, Hend.out, HJr.out⟩⟩
theorem Vals1_in (n : Nat) (hn : 1 ≤ n) (l Bx b0 g : Nat) (x : UIns) (va : Value) (J Jx : List (VX x) → World → Prop) (n₀ : Nat) (hJ : AbidesFrom n₀ J)
 (hY : ∀ (pre : List (VX x)) (v : VX x) W, J pre W → pre.length < (valsOf x).length → YieldAt Fence.wide (n - 1) Tryz.prog l (encV x v) W fun e W' => (e = .returned (.bool true) ∧ J (pre ++ [v]) W' ∧ CKeep g W W') ∨ (e = .returned (.bool false) ∧ Jx (pre ++ [v]) W'))
 (W : World) (hN : ValsNeed x va Bx b0 g W) (h0 : J [] W) :
 CallsIn Fence.wide n Tryz.prog 100 #[.func (.yield l) #[] #[], .pointer (some ⟨Bx, 0, none⟩)] W fun e W' => (∃ v, e = .returned v) ∧
  ((∃ ys : List (VX x), ys.map (·.1) = valsOf x ∧ J ys W') ∨ (∃ pre : List (VX x), True ∧ Jx pre W')) := by
 obtain ⟨A, c, rfl, _, _, _⟩ := hN.args.cases_
 cases ha : opA x.op <;> cases hb : opB x.op
 ·exact Vals1_FF n hn l Bx b0 g x A c ha hb J Jx n₀ hJ hY W hN h0
 ·exact Vals1_FT n hn l Bx b0 g x A c ha hb J Jx n₀ hJ hY W hN h0
 ·exact Vals1_TF n hn l Bx b0 g x A c ha hb J Jx n₀ hJ hY W hN h0
 ·exact Vals1_TT n hn l Bx b0 g x A c ha hb J Jx n₀ hJ hY W hN h0
/-- core.Vals hands its iterator out. -/
theorem Vals_stops (n : Nat) (hn : 1 ≤ n) (Bx b0 g : Nat) (x : UIns) (va : Value) (w : World) (hN : ValsNeed x va Bx b0 g w) :
 SeqStopsK Fence.wide n Tryz.prog 100 #[.pointer (some ⟨Bx, 0, none⟩)] (encV x) (CKeep g) (fun ys => ys.map (·.1) = valsOf x) (fun _ => True) (valsOf x).length w := fun l J Jx W hW hJ _ hY h0 =>
 Vals1_in n hn l Bx b0 g x va J Jx _ hJ hY W (hN.keep (CKeep.of_below hW)) h0
set_option maxHeartbeats 1000000 in
theorem Vals_calls (x : UIns) (A : Option Addr) (m c : Nat) (w : World) (R : Ending → World → Prop)
 (hR : R (.returned (.func (.func 100) #[] #[.pointer (some ⟨w.heap.size, 0, none⟩)])) (w.alloc (.cells #[.int .i64 x.op, .int .i64 x.dst, .bool x.a.reg, .int .i64 x.a.n, .bool x.b.reg, .int .i64 x.b.n, .int .i64 x.fn, .slice A m c] 71))) :
 Calls Tryz.prog 78 #[.agg #[.int .i64 x.op, .int .i64 x.dst, .bool x.a.reg, .int .i64 x.a.n, .bool x.b.reg, .int .i64 x.b.n, .int .i64 x.fn, .slice A m c]] w R := by
 have HR := Lib.hid hR
 clear hR
 go_enter Tryz.func78, Tryz.ntmps78
 go_wp2
 exact HR.out
end Go.Proofs.YtdanebboiekieaaGreatDoor
