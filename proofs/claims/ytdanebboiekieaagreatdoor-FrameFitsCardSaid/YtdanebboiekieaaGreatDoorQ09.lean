/- Sets of registers of package live: take, Ahead. Functions whose loops hold ranges over functions: the marks among the deferred calls; loops whose rounds leave marks. -/
import Derived.Test.YtdanebboiekieaaGreatDoorQ08
import Derived.Test.YtdanebboiekieaaGreatDoorQ01
import Derived.Test.YtdanebboiekieaaGreatDoorRows
import Derived.IntWalk
import Derived.Outline
import Derived.RangeFuncNested
import Derived.RangeFuncBound
import Derived.RangeFuncCalls
import Derived.RangeFuncLeaves
import Derived.RangeFuncBox
import Derived.Shelf.Abstract
import Derived.Shelf.RegionOpen
import Derived.WalkKit
import Derived.OwnWalkIn
import Derived.TacticsInMore
import Derived.LoopNIn
import Derived.LoopIn
import Derived.Deep.LoopGhost
namespace Go.Proofs.YtdanebboiekieaaGreatDoor
open Go.RowKit Go.Shelf
set_option linter.unusedSimpArgs false
set_option linter.unusedVariables false
attribute [local go_sem] Oper.semAt_some

def bitsA (S : List Bool) : Array Value := (S.map Value.bool).toArray
theorem bitsA_get {S : List Bool} {k : Nat} (h : k < S.length) : (bitsA S)[k]? = some (.bool (bAt S k)) := by
 unfold bitsA
 rw [List.getElem?_toArray, List.getElem?_map, bAt_get h]
 rfl
/-- A set, with what a value names. -/
def takeS (S : List Bool) (v : UVal) : List Bool := if v.reg = true then S.set v.n.toNat true else S
def insS (S : List Bool) (x : UIns) : List Bool := (valsOf x).foldl takeS (if 0 ≤ x.dst then S.set x.dst.toNat false else S)
theorem takeS_len (S : List Bool) (v : UVal) : (takeS S v).length = S.length := by unfold takeS; split <;> simp
theorem takesS_len (l : List UVal) : ∀ S : List Bool, (l.foldl takeS S).length = S.length := by
 induction l with
 | nil => intro S; rfl
 | cons v l ih => intro S; rw [List.foldl_cons, ih, takeS_len]
theorem takeS_at {S : List Bool} {v : UVal} {regs : Int} (hv : ValOk regs v) (hS : (S.length : Int) = regs) {r : Nat} : bAt (takeS S v) r = (bAt S r || (regIs v r && decide (r < S.length))) := by
 unfold takeS regIs
 cases hr : v.reg
 ·simp
 ·have := hv hr
  rw [if_pos rfl, bAt_set (by omega)]
  by_cases e : r = v.n.toNat
  ·rw [if_pos e]
   have : v.n = (r : Int) := by omega
   have h2 : r < S.length := by omega
   simp [this, h2]
  ·rw [if_neg e]
   have : ¬ v.n = (r : Int) := by omega
   simp [this]
theorem takesS_at {regs : Int} : ∀ (l : List UVal) (S : List Bool), (∀ v ∈ l, ValOk regs v) → (S.length : Int) = regs → ∀ r, bAt (l.foldl takeS S) r = (bAt S r || ((l.any fun v => regIs v r) && decide (r < S.length)))
 | [], S, _, _, r => by simp
 | v :: l, S, hv, hS, r => by
   rw [List.foldl_cons, takesS_at l _ (fun u hu => hv u (by simp [hu])) (by rw [takeS_len]; exact hS), takeS_at (hv v (by simp)) hS, takeS_len, List.any_cons]
   cases bAt S r <;> cases regIs v r <;> cases (l.any fun v => regIs v r) <;> cases decide (r < S.length) <;> rfl
theorem insS_len (S : List Bool) (x : UIns) : (insS S x).length = S.length := by
 unfold insS
 rw [takesS_len]
 split <;> simp
theorem insS_at {u : Unt} {S : List Bool} {x : UIns} {regs : Int} (h : InsOk u regs x) (hS : (S.length : Int) = regs) {r : Nat} (hr : r < S.length) : bAt (insS S x) r = (takesB x r || (bAt S r && !decide (x.dst = (r : Int)))) := by
 unfold insS
 have hlen : (if 0 ≤ x.dst then S.set x.dst.toNat false else S).length = S.length := by split <;> simp
 rw [takesS_at (valsOf x) _ (valsOf_ok h) (by rw [hlen]; exact hS), takes_vals h, hlen, decide_eq_true hr, Bool.and_true, Bool.or_comm]
 congr 1
 split
 ·rename_i h0
  have := h.dst
  rw [bAt_set (by omega)]
  by_cases e : r = x.dst.toNat
  ·rw [if_pos e]
   have : x.dst = (r : Int) := by omega
   simp [this]
  ·rw [if_neg e]
   have : ¬ x.dst = (r : Int) := by omega
   simp [this]
 ·have : ¬ x.dst = (r : Int) := by omega
  simp [this]
/-- A set's row (the block may be longer). -/
def SetAt (g : Nat) (S : List Bool) (w : World) : Prop := ∃ A, w.heap[g]? = some (.cells A 4 (0, 0)) ∧ ∀ k, k < S.length → A[k]? = some (.bool (bAt S k))
theorem SetAt.of_blk {g : Nat} {S : List Bool} {w : World} (h : w.heap[g]? = some (.cells (bitsA S) 4 (0, 0))) : SetAt g S w := ⟨_, h, fun k hk => bitsA_get hk⟩
theorem SetAt.cell {g : Nat} {S : List Bool} {w : World} (h : SetAt g S w) {k : Nat} (hk : k < S.length) : w.cell? ⟨g, k, none⟩ = some (.bool (bAt S k)) := by
 obtain ⟨A, h1, h2⟩ := h
 rw [blk_cells h1]
 exact h2 k hk
theorem SetAt.frozen {g : Nat} {S : List Bool} {w : World} (h : SetAt g S w) (k : Nat) : w.frozen? ⟨g, k, none⟩ = false := by
 obtain ⟨A, h1, h2⟩ := h
 simp [World.frozen?, h1]
theorem SetAt.lt {g : Nat} {S : List Bool} {w : World} (h : SetAt g S w) : g < w.heap.size := by
 obtain ⟨A, h1, h2⟩ := h
 exact blk_lt h1
theorem SetAt.set {g : Nat} {S : List Bool} {w : World} (h : SetAt g S w) (k : Nat) (x : Bool) : SetAt g (S.set k x) (w.setCell ⟨g, k, none⟩ (.bool x)) := by
 obtain ⟨A, h1, h2⟩ := h
 refine ⟨A.setIfInBounds k (.bool x), by rw [block_set h1], fun j hj => ?_⟩
 rw [List.length_set] at hj
 have h3 := h2 j hj
 have hjA : j < A.size := (Array.getElem?_eq_some_iff.1 h3).1
 rw [Array.getElem?_setIfInBounds]
 by_cases e : k = j
 ·subst e
  rw [if_pos rfl, if_pos hjA, bAt_set hj, if_pos rfl]
 ·rw [if_neg e, h3]
  rcases Nat.lt_or_ge k S.length with hk | hk
  ·rw [bAt_set hk, if_neg (fun h => e h.symm)]
  ·rw [List.set_eq_of_length_le hk]
theorem SetAt.block {g : Nat} {S : List Bool} {w w' : World} (h : SetAt g S w) (hk : ∀ o : Obj, w.heap[g]? = some o → o.isCells = true → w'.heap[g]? = some o) : SetAt g S w' := by
 obtain ⟨A, h1, h2⟩ := h
 exact ⟨A, hk _ h1 rfl, h2⟩
theorem SetAt.below {g : Nat} {S : List Bool} {w w' : World} (h : SetAt g S w) (hb : Below w.heap.size w w') : SetAt g S w' := h.block fun o ho _ => (hb.block _ (blk_lt ho)).trans ho
theorem SetAt.alloc {g : Nat} {S : List Bool} {w : World} (h : SetAt g S w) (o : Obj) : SetAt g S (w.alloc o) := h.block fun x hx _ => blk_alloc hx o
/-- A row of the call's own as a set. -/
def bitCells (b : Bool) : List Value := [.bool b]
theorem bits_flat : ∀ S : List Bool, S.flatMap bitCells = S.map Value.bool
 | [] => rfl
 | x :: S => by rw [List.flatMap_cons, bits_flat S]; rfl
theorem SetAt.of_own {w : World} {base g n cap : Nat} {S : List Bool} (h : w.ownsRow base 4 1 (.slice (some ⟨g, 0, none⟩) n cap) n (S.flatMap bitCells)) (hn : n = S.length) : SetAt g S w := by
 obtain ⟨h1, h2⟩ := h
 rcases h2 with ⟨hv, _⟩ | ⟨g', cap', cur, hv, hb, hh, hnc, hcm, hcs, htk⟩
 ·cases hv
 ·injection hv with hA _ _
  injection hA with hA
  injection hA with hA
  subst hA
  refine ⟨cur, hh, fun k hk => ?_⟩
  have e : (S.flatMap bitCells)[k]? = some (.bool (bAt S k)) := by
   rw [bits_flat, List.getElem?_map, bAt_get hk]
   rfl
  rw [← htk, List.getElem?_take] at e
  split at e
  ·simpa using e
  ·cases e
set_option maxHeartbeats 1000000 in
theorem take_calls (S : List Bool) (cp g : Nat) (v : UVal) (w : World) (hS : SetAt g S w) (hv : ValOk S.length v) (R : Ending → World → Prop)
 (hR : ∀ w', SetAt g (takeS S v) w' → w.grownBy w' (some g) → R (.returned (.tuple #[])) w') :
 Calls Tryz.prog 118 #[.slice (some ⟨g, 0, none⟩) S.length cp, .agg #[.bool v.reg, .int .i64 v.n]] w R := by
 have HR := Lib.hid hR
 have HS := Lib.hid hS
 clear hR hS
 obtain ⟨reg, n⟩ := v
 cases reg
 ·have e : takeS S ⟨false, n⟩ = S := by simp [takeS]
  rw [e] at HR
  clear e
  go_enter Tryz.func118, Tryz.ntmps118
  go_wp2
  go_end0
  exact HR.out _ (HS.out.alloc _) (World.grownBy_alloc _ _ _)
 ·have hn := hv rfl
  simp only at hn
  obtain ⟨k, rfl⟩ : ∃ k : Nat, n = (k : Int) := ⟨n.toNat, by omega⟩
  have hk : k < S.length := by omega
  have e : takeS S ⟨true, (k : Int)⟩ = S.set k true := by simp [takeS]
  rw [e] at HR
  have hS2 := HS.out.alloc (Obj.cells #[.bool true, .int .i64 (k : Int)] 64)
  have HS2 := Lib.hid hS2
  have c0 := hS2.cell hk
  have f0 := hS2.frozen k
  have lg := hS2.lt
  have lg0 := HS.out.lt
  have c00 := HS.out.cell hk
  have f00 := HS.out.frozen k
  have k1 : (0 : Int) ≤ (k : Int) := Int.natCast_nonneg _
  have k2 : (k : Int) < (S.length : Int) := by omega
  clear hv hS2 e
  go_enter Tryz.func118, Tryz.ntmps118
  go_wp2
  go_end0
  exact HR.out _ ((HS.out.set k true).alloc _) ((grown_setCell _ _ _).trans (World.grownBy_alloc _ _ _))
theorem take_calls' (S : List Bool) (cp n : Nat) (hn : S.length = n) (g : Nat) (v : UVal) (w : World) (hS : SetAt g S w) (hv : ValOk S.length v) (R : Ending → World → Prop)
 (hR : ∀ w', SetAt g (takeS S v) w' → w.grownBy w' (some g) → R (.returned (.tuple #[])) w') :
 Calls Tryz.prog 118 #[.slice (some ⟨g, 0, none⟩) n cp, .agg #[.bool v.reg, .int .i64 v.n]] w R := by
 subst hn
 exact take_calls S cp g v w hS hv R hR
theorem CKeep.of_grown {g : Nat} {W W' : World} (h : W.grownBy W' (some g)) : CKeep g W W' := ⟨h.size, fun k o h1 _ h3 => (h.block k (blk_lt h1) (fun e => h3 (Option.some.inj e))).trans h1⟩
/-- The set's row and what has turned, behind some rounds. -/
def SetI (g : Nat) (S : List Bool) (w0 W : World) : Prop := SetAt g S W ∧ w0.grownBy W (some g) ∧ CKeep g w0 W
theorem setI_own {β : Type} {g B : Nat} {f : β → List Bool} {w0 : World} (hB : w0.heap.size ≤ B) : OwnFrom B (fun (s : β) W => SetI g (f s) w0 W) := fun s A Z row hs hg hr => by
 obtain ⟨h1, h2, h3⟩ := hs
 have hne : row ≠ some g := fun e => by
  obtain ⟨A', h1', _⟩ := h1
  obtain ⟨_, o, ho, hc⟩ := hr g e
  rw [h1'] at ho
  injection ho with ho
  subst ho
  cases hc
 have hkeep : ∀ (k : Nat) (o : Obj), A.heap[k]? = some o → o.isCells = true → Z.heap[k]? = some o := fun k o ho hc => by
  rcases (Classical.em (row = some k)) with e | e
  ·obtain ⟨_, o', ho', hc'⟩ := hr k e
   rw [ho] at ho'
   injection ho' with ho'
   subst ho'
   rw [hc] at hc'
   cases hc'
  ·exact (hg.block k (blk_lt ho) (fun h => e h.symm)).trans ho
 refine ⟨h1.block (fun o ho hc => hkeep g o ho hc), ⟨hg.os.trans h2.os, hg.tape.trans h2.tape, hg.output.trans h2.output, Nat.le_trans h2.size hg.size, fun k hk hk2 => ?_⟩, ⟨Nat.le_trans h3.1 hg.size, fun k o ho hc hk => hkeep k o (h3.2 k o ho hc hk) hc⟩⟩
 rw [← h2.block k hk hk2]
 refine hg.block k (by have := h2.size; omega) (fun e => ?_)
 have := (hr k e.symm).1
 omega
theorem blk_own {β : Type} (k : Nat) (A : Array Value) (T : TypeId) (fr : Nat × Nat) (B : Nat) : OwnFrom B (fun (_ : β) W => W.heap[k]? = some (.cells A T fr)) := fun s X Y row hs hg hr => by
 refine (hg.block k (blk_lt hs) (fun e => ?_)).trans hs
 obtain ⟨_, o, ho, hc⟩ := hr k e.symm
 rw [hs] at ho
 injection ho with ho
 subst ho
 cases hc
theorem SetI.below {g : Nat} {S : List Bool} {w0 W W' : World} (h : SetI g S w0 W) (hb : Below W.heap.size W W') : SetI g S w0 W' :=
 ⟨h.1.below hb, h.2.1.trans (grown_of_below hb _), h.2.2.trans (CKeep.of_below hb)⟩
theorem SetI.alloc {g : Nat} {S : List Bool} {w0 W : World} (h : SetI g S w0 W) (o : Obj) : SetI g S w0 (W.alloc o) := h.below ((Below.refl _ _).alloc (Nat.le_refl _) o)
theorem grown_self (g : Nat) (w : World) : w.grownBy w (some g) := ⟨rfl, rfl, rfl, Nat.le_refl _, fun _ _ _ => rfl⟩
theorem foldV_len {x : UIns} (l : List (VX x)) (S : List Bool) : (l.foldl (fun S (v : VX x) => takeS S v.1) S).length = S.length := by
 induction l generalizing S with
 | nil => rfl
 | cons v l ih => rw [List.foldl_cons, ih, takeS_len]
theorem foldV_map {x : UIns} (l : List (VX x)) (S : List Bool) : l.foldl (fun S (v : VX x) => takeS S v.1) S = (l.map (·.1)).foldl takeS S := by rw [List.foldl_map]
set_option maxRecDepth 100000 in
set_option maxHeartbeats 4000000 in
theorem Ahead_calls (u : Unt) (S : List Bool) (cp g b0 : Nat) (x : UIns) (va : Value) (w : World) (hS : SetAt g S w) (hx : InsOk u S.length x) (ha : rpVal.SL w b0 x.args va) (hb0 : b0 ≤ g) (R : Ending → World → Prop)
 (hR : ∀ w', SetAt g (insS S x) w' → w.grownBy w' (some g) → R (.returned (.tuple #[])) w') :
 Calls Tryz.prog 119 #[.slice (some ⟨g, 0, none⟩) S.length cp, .agg #[.int .i64 x.op, .int .i64 x.dst, .bool x.a.reg, .int .i64 x.a.n, .bool x.b.reg, .int .i64 x.b.n, .int .i64 x.fn, va]] w R := by
 obtain ⟨A, c, rfl, _, _, ha⟩ := ha.cases_
 have HR := Lib.hid hR
 have HS := Lib.hid hS
 have Ha := Lib.hid ha
 have Hx := Lib.hid hx
 have hdst := hx.dst
 clear hR hS ha hx
 refine (callsIn_wide (n := 7)).1 ?_
 by_cases hd : 0 ≤ x.dst
 ·have hdl : x.dst < (S.length : Int) := by omega
  have c0 := HS.out.cell (k := x.dst.toNat) (by omega)
  have f0 := HS.out.frozen x.dst.toNat
  have lg := HS.out.lt
  refine callsIn_of_wp_marks Tryz.func119 rfl trivial ?_ rfl
  simp only [Tryz.ntmps119, List.size_toArray, List.length_cons, List.length_nil, Nat.reduceAdd, Nat.reduceSub, Array.replicate_succ, Array.replicate_zero, List.push_toArray, List.append_toArray, List.nil_append, List.cons_append]
  gi_wp2
  refine ⟨trivial, callsIn_wide.2 (Vals_calls x A x.args.length c _ _ ?_)⟩
  gi_wp2
  obtain ⟨W3, hW3⟩ : ∃ W3, W3 = (((w.setCell ⟨g, x.dst.toNat, none⟩ (.bool false)).alloc (Obj.cells #[.slice (some ⟨g, 0, none⟩) S.length cp] 160)).alloc (Obj.cells #[.int .i64 x.op, .int .i64 x.dst, .bool x.a.reg, .int .i64 x.a.n, .bool x.b.reg, .int .i64 x.b.n, .int .i64 x.fn, .slice A x.args.length c] 71)).alloc (Obj.cells #[.int .i64 x.op, .int .i64 x.dst, .bool x.a.reg, .int .i64 x.a.n, .bool x.b.reg, .int .i64 x.b.n, .int .i64 x.fn, .slice A x.args.length c] 71) := ⟨_, rfl⟩
  have hsz : W3.heap.size = w.heap.size + 3 := by subst hW3; simp [World.setCell]
  have hS0 : SetI g (S.set x.dst.toNat false) w (w.setCell ⟨g, x.dst.toNat, none⟩ (.bool false)) := ⟨HS.out.set _ _, grown_setCell _ _ _, CKeep.setCell _ _⟩
  have hS3 : SetI g (S.set x.dst.toNat false) w W3 := by subst hW3; exact ((hS0.alloc _).alloc _).alloc _
  have hbx : W3.heap[w.heap.size]? = some (.cells #[.slice (some ⟨g, 0, none⟩) S.length cp] 160 (0, 0)) := by
   subst hW3
   have := heap_alloc_new (w.setCell ⟨g, x.dst.toNat, none⟩ (.bool false)) (Obj.cells #[.slice (some ⟨g, 0, none⟩) S.length cp] 160)
   exact blk_alloc (blk_alloc (by simpa [World.setCell] using this) _) _
  have hbi : W3.heap[w.heap.size + 1 + 1]? = some (.cells #[.int .i64 x.op, .int .i64 x.dst, .bool x.a.reg, .int .i64 x.a.n, .bool x.b.reg, .int .i64 x.b.n, .int .i64 x.fn, .slice A x.args.length c] 71 (0, 0)) := by
   subst hW3
   have := heap_alloc_new (((w.setCell ⟨g, x.dst.toNat, none⟩ (.bool false)).alloc (Obj.cells #[.slice (some ⟨g, 0, none⟩) S.length cp] 160)).alloc (Obj.cells #[.int .i64 x.op, .int .i64 x.dst, .bool x.a.reg, .int .i64 x.a.n, .bool x.b.reg, .int .i64 x.b.n, .int .i64 x.fn, .slice A x.args.length c] 71)) (Obj.cells #[.int .i64 x.op, .int .i64 x.dst, .bool x.a.reg, .int .i64 x.a.n, .bool x.b.reg, .int .i64 x.b.n, .int .i64 x.fn, .slice A x.args.length c] 71)
   simpa [World.setCell] using this
  have hglt := HS.out.lt
  have hN3 : ValsNeed x (.slice A x.args.length c) (w.heap.size + 1 + 1) b0 g W3 := ⟨hbi, Ha.out.mono (fun p u hp hc => hS3.2.2.cell hc (by omega)), by omega, hb0, by omega⟩
  have hle : w.heap.size ≤ W3.heap.size := by omega
  rw [show (((w.setCell ⟨g, x.dst.toNat, none⟩ (.bool false)).alloc (Obj.cells #[.slice (some ⟨g, 0, none⟩) S.length cp] 160)).alloc (Obj.cells #[.int .i64 x.op, .int .i64 x.dst, .bool x.a.reg, .int .i64 x.a.n, .bool x.b.reg, .int .i64 x.b.n, .int .i64 x.fn, .slice A x.args.length c] 71)).alloc (Obj.cells #[.int .i64 x.op, .int .i64 x.dst, .bool x.a.reg, .int .i64 x.a.n, .bool x.b.reg, .int .i64 x.b.n, .int .i64 x.fn, .slice A x.args.length c] 71) = W3 from hW3.symm]
  clear hW3
  refine wpIn_rangeFunc_ownH (F := Fence.wide) rfl (by decide) (gf := 100) (lb := #[.pointer (some ⟨w.heap.size + 1 + 1, 0, none⟩)]) rfl trivial (enters_of Tryz.func100 (by kernel_rfl) rfl)
   (Vals_stops 6 (by decide) (w.heap.size + 1 + 1) b0 g x (.slice A x.args.length c) W3 hN3) (fun h k => h.trans k) (fun W l o o' _ h1 h2 _ => CKeep.putObj W l o o' h1 h2) (Below.refl _ _) (fun _ => rfl)
   (fun pre W => SetI g (pre.foldl (fun S v => takeS S v.1) (S.set x.dst.toNat false)) w W ∧ W.heap[w.heap.size]? = some (.cells #[.slice (some ⟨g, 0, none⟩) S.length cp] 160 (0, 0)))
   (fun _ _ _ => False)
   (OwnFrom.and (setI_own hle) (blk_own _ _ _ _ _)) (fun _ _ _ _ _ hs _ _ => hs) ⟨hS3, hbx⟩
   (fun v a' W => ∃ Bv, W.heap[Bv]? = some (.cells #[.bool v.1.reg, .int .i64 v.1.n] 64 (0, 0)) ∧ a' = { tmps := #[.slice (some ⟨g, 0, none⟩) S.length cp, .agg #[.int .i64 x.op, .int .i64 x.dst, .bool x.a.reg, .int .i64 x.a.n, .bool x.b.reg, .int .i64 x.b.n, .int .i64 x.fn, .slice A x.args.length c], .pointer (some ⟨w.heap.size, 0, none⟩), .pointer (some ⟨w.heap.size + 1, 0, none⟩), .pointer (some ⟨Bv, 0, none⟩), .pointer (some ⟨w.heap.size + 1, 1, none⟩), .int .i64 x.dst, .bool true, .slice (some ⟨g, 0, none⟩) S.length cp, .pointer (some ⟨w.heap.size + 1, 1, none⟩), .int .i64 x.dst, .pointer (some ⟨g, x.dst.toNat, none⟩), .agg #[.int .i64 x.op, .int .i64 x.dst, .bool x.a.reg, .int .i64 x.a.n, .bool x.b.reg, .int .i64 x.b.n, .int .i64 x.fn, .slice A x.args.length c], .func (.func 100) #[] #[.pointer (some ⟨w.heap.size + 1 + 1, 0, none⟩)], .agg #[.bool v.1.reg, .int .i64 v.1.n], undef, undef, undef], defers := [] })
   (fun v a' s X Y row hs hg hr => by obtain ⟨Bv, h1, h2⟩ := hs; exact ⟨Bv, blk_own Bv _ _ _ W3.heap.size () X Y row h1 hg hr, h2⟩) ?assign ?body ?done ?stop
  case assign =>
   rintro l pre v W K ⟨hI, hB⟩ hK
   unfold encV
   gi_wp2
   exact hK _ _ ((KeepsOthers.alloc _ _).from _) (CKeep.of_below (by exact bl0)) ⟨hI.alloc _, blk_alloc hB _⟩ ⟨W.heap.size, heap_alloc_new _ _, rfl⟩
  case body =>
   rintro l pre v a' W hl ⟨r, hr⟩ ⟨hI, hB⟩ ⟨Bv, hv, rfl⟩ hlen
   have hb0' : W.cell? ⟨w.heap.size, 0, none⟩ = some (.slice (some ⟨g, 0, none⟩) S.length cp) := by rw [blk_cells hB]; rfl
   obtain ⟨v0, v1⟩ := cells_blk hv
   have lb := blk_lt hB
   have lv := blk_lt hv
   have hlen2 : (pre.foldl (fun S (v : VX x) => takeS S v.1) (S.set x.dst.toNat false)).length = S.length := by rw [foldV_len]; simp
   have hvo : ValOk (pre.foldl (fun S (v : VX x) => takeS S v.1) (S.set x.dst.toNat false)).length v.1 := by rw [hlen2]; exact valsOf_ok Hx.out v.1 v.2
   have Hlen2 := Lib.hid hlen2
   have HI := Lib.hid hI
   have HB := Lib.hid hB
   clear hI hB hv hlen2
   gi_wp2
   refine ⟨trivial, CallsIn.inRound l (callsIn_wide.2 (take_calls' _ _ _ Hlen2.out g v.1 _ HI.out.1 hvo _ (fun w2 h1 h2 => ?_)))⟩
   have h3 := CKeep.of_grown h2
   have hI2 : SetI g ((pre ++ [v]).foldl (fun S (v : VX x) => takeS S v.1) (S.set x.dst.toNat false)) w w2 := ⟨by rw [List.foldl_append]; exact h1, HI.out.2.1.trans h2, HI.out.2.2.trans h3⟩
   have hB2 := h3.blk HB.out (by omega)
   have hKF : KeepsFrom W3.heap.size W w2 := KeepsFrom.of_grownBy h2 (fun j e => by cases e; omega)
   gi_wp2
   exact ⟨hKF, h3, hI2, hB2⟩
  case done =>
   rintro D ys W hD hys ⟨hI, hB⟩ hK
   have hE : ys.foldl (fun S (v : VX x) => takeS S v.1) (S.set x.dst.toNat false) = insS S x := by
    rw [foldV_map, hys]
    unfold insS
    rw [if_pos hd]
   rw [hE] at hI
   have hfin := (setI_own (f := fun _ : Unit => insS S x) hle).putObj (s := ()) (.deferred none) hI hD hK rfl
   have Hfin := Lib.hid (HR.out _ hfin.1 hfin.2.1)
   clear hE hys hfin
   gi_wp2
   refine ⟨by simp, .inl ⟨_, _, rfl, run_takeDeferred hK, ?_⟩⟩
   exact ⟨_, results_none rfl _ _ _, Hfin.out⟩
  case stop =>
   rintro D c pre W _ _ h _
   exact h.elim
 ·have hd0 := hd
  refine callsIn_of_wp_marks Tryz.func119 rfl trivial ?_ rfl
  simp only [Tryz.ntmps119, List.size_toArray, List.length_cons, List.length_nil, Nat.reduceAdd, Nat.reduceSub, Array.replicate_succ, Array.replicate_zero, List.push_toArray, List.append_toArray, List.nil_append, List.cons_append]
  gi_wp2
  refine ⟨trivial, callsIn_wide.2 (Vals_calls x A x.args.length c _ _ ?_)⟩
  gi_wp2
  obtain ⟨W3, hW3⟩ : ∃ W3, W3 = ((w.alloc (Obj.cells #[.slice (some ⟨g, 0, none⟩) S.length cp] 160)).alloc (Obj.cells #[.int .i64 x.op, .int .i64 x.dst, .bool x.a.reg, .int .i64 x.a.n, .bool x.b.reg, .int .i64 x.b.n, .int .i64 x.fn, .slice A x.args.length c] 71)).alloc (Obj.cells #[.int .i64 x.op, .int .i64 x.dst, .bool x.a.reg, .int .i64 x.a.n, .bool x.b.reg, .int .i64 x.b.n, .int .i64 x.fn, .slice A x.args.length c] 71) := ⟨_, rfl⟩
  have hsz : W3.heap.size = w.heap.size + 3 := by subst hW3; simp [World.setCell]
  have hS0 : SetI g S w w := ⟨HS.out, grown_self g w, CKeep.refl _ _⟩
  have hS3 : SetI g S w W3 := by subst hW3; exact ((hS0.alloc _).alloc _).alloc _
  have hbx : W3.heap[w.heap.size]? = some (.cells #[.slice (some ⟨g, 0, none⟩) S.length cp] 160 (0, 0)) := by
   subst hW3
   have := heap_alloc_new w (Obj.cells #[.slice (some ⟨g, 0, none⟩) S.length cp] 160)
   exact blk_alloc (blk_alloc (by simpa [World.setCell] using this) _) _
  have hbi : W3.heap[w.heap.size + 1 + 1]? = some (.cells #[.int .i64 x.op, .int .i64 x.dst, .bool x.a.reg, .int .i64 x.a.n, .bool x.b.reg, .int .i64 x.b.n, .int .i64 x.fn, .slice A x.args.length c] 71 (0, 0)) := by
   subst hW3
   have := heap_alloc_new ((w.alloc (Obj.cells #[.slice (some ⟨g, 0, none⟩) S.length cp] 160)).alloc (Obj.cells #[.int .i64 x.op, .int .i64 x.dst, .bool x.a.reg, .int .i64 x.a.n, .bool x.b.reg, .int .i64 x.b.n, .int .i64 x.fn, .slice A x.args.length c] 71)) (Obj.cells #[.int .i64 x.op, .int .i64 x.dst, .bool x.a.reg, .int .i64 x.a.n, .bool x.b.reg, .int .i64 x.b.n, .int .i64 x.fn, .slice A x.args.length c] 71)
   simpa [World.setCell] using this
  have hglt := HS.out.lt
  have hN3 : ValsNeed x (.slice A x.args.length c) (w.heap.size + 1 + 1) b0 g W3 := ⟨hbi, Ha.out.mono (fun p u hp hc => hS3.2.2.cell hc (by omega)), by omega, hb0, by omega⟩
  have hle : w.heap.size ≤ W3.heap.size := by omega
  rw [show ((w.alloc (Obj.cells #[.slice (some ⟨g, 0, none⟩) S.length cp] 160)).alloc (Obj.cells #[.int .i64 x.op, .int .i64 x.dst, .bool x.a.reg, .int .i64 x.a.n, .bool x.b.reg, .int .i64 x.b.n, .int .i64 x.fn, .slice A x.args.length c] 71)).alloc (Obj.cells #[.int .i64 x.op, .int .i64 x.dst, .bool x.a.reg, .int .i64 x.a.n, .bool x.b.reg, .int .i64 x.b.n, .int .i64 x.fn, .slice A x.args.length c] 71) = W3 from hW3.symm]
  clear hW3
  refine wpIn_rangeFunc_ownH (F := Fence.wide) rfl (by decide) (gf := 100) (lb := #[.pointer (some ⟨w.heap.size + 1 + 1, 0, none⟩)]) rfl trivial (enters_of Tryz.func100 (by kernel_rfl) rfl)
   (Vals_stops 6 (by decide) (w.heap.size + 1 + 1) b0 g x (.slice A x.args.length c) W3 hN3) (fun h k => h.trans k) (fun W l o o' _ h1 h2 _ => CKeep.putObj W l o o' h1 h2) (Below.refl _ _) (fun _ => rfl)
   (fun pre W => SetI g (pre.foldl (fun S v => takeS S v.1) S) w W ∧ W.heap[w.heap.size]? = some (.cells #[.slice (some ⟨g, 0, none⟩) S.length cp] 160 (0, 0)))
   (fun _ _ _ => False)
   (OwnFrom.and (setI_own hle) (blk_own _ _ _ _ _)) (fun _ _ _ _ _ hs _ _ => hs) ⟨hS3, hbx⟩
   (fun v a' W => ∃ Bv, W.heap[Bv]? = some (.cells #[.bool v.1.reg, .int .i64 v.1.n] 64 (0, 0)) ∧ a' = { tmps := #[.slice (some ⟨g, 0, none⟩) S.length cp, .agg #[.int .i64 x.op, .int .i64 x.dst, .bool x.a.reg, .int .i64 x.a.n, .bool x.b.reg, .int .i64 x.b.n, .int .i64 x.fn, .slice A x.args.length c], .pointer (some ⟨w.heap.size, 0, none⟩), .pointer (some ⟨w.heap.size + 1, 0, none⟩), .pointer (some ⟨Bv, 0, none⟩), .pointer (some ⟨w.heap.size + 1, 1, none⟩), .int .i64 x.dst, .bool false, undef, undef, undef, undef, .agg #[.int .i64 x.op, .int .i64 x.dst, .bool x.a.reg, .int .i64 x.a.n, .bool x.b.reg, .int .i64 x.b.n, .int .i64 x.fn, .slice A x.args.length c], .func (.func 100) #[] #[.pointer (some ⟨w.heap.size + 1 + 1, 0, none⟩)], .agg #[.bool v.1.reg, .int .i64 v.1.n], undef, undef, undef], defers := [] })
   (fun v a' s X Y row hs hg hr => by obtain ⟨Bv, h1, h2⟩ := hs; exact ⟨Bv, blk_own Bv _ _ _ W3.heap.size () X Y row h1 hg hr, h2⟩) ?assign ?body ?done ?stop
  case assign =>
   rintro l pre v W K ⟨hI, hB⟩ hK
   unfold encV
   gi_wp2
   exact hK _ _ ((KeepsOthers.alloc _ _).from _) (CKeep.of_below (by exact bl0)) ⟨hI.alloc _, blk_alloc hB _⟩ ⟨W.heap.size, heap_alloc_new _ _, rfl⟩
  case body =>
   rintro l pre v a' W hl ⟨r, hr⟩ ⟨hI, hB⟩ ⟨Bv, hv, rfl⟩ hlen
   have hb0' : W.cell? ⟨w.heap.size, 0, none⟩ = some (.slice (some ⟨g, 0, none⟩) S.length cp) := by rw [blk_cells hB]; rfl
   obtain ⟨v0, v1⟩ := cells_blk hv
   have lb := blk_lt hB
   have lv := blk_lt hv
   have hlen2 : (pre.foldl (fun S (v : VX x) => takeS S v.1) S).length = S.length := by rw [foldV_len]
   have hvo : ValOk (pre.foldl (fun S (v : VX x) => takeS S v.1) S).length v.1 := by rw [hlen2]; exact valsOf_ok Hx.out v.1 v.2
   have Hlen2 := Lib.hid hlen2
   have HI := Lib.hid hI
   have HB := Lib.hid hB
   clear hI hB hv hlen2
   gi_wp2
   refine ⟨trivial, CallsIn.inRound l (callsIn_wide.2 (take_calls' _ _ _ Hlen2.out g v.1 _ HI.out.1 hvo _ (fun w2 h1 h2 => ?_)))⟩
   have h3 := CKeep.of_grown h2
   have hI2 : SetI g ((pre ++ [v]).foldl (fun S (v : VX x) => takeS S v.1) S) w w2 := ⟨by rw [List.foldl_append]; exact h1, HI.out.2.1.trans h2, HI.out.2.2.trans h3⟩
   have hB2 := h3.blk HB.out (by omega)
   have hKF : KeepsFrom W3.heap.size W w2 := KeepsFrom.of_grownBy h2 (fun j e => by cases e; omega)
   gi_wp2
   exact ⟨hKF, h3, hI2, hB2⟩
  case done =>
   rintro D ys W hD hys ⟨hI, hB⟩ hK
   have hE : ys.foldl (fun S (v : VX x) => takeS S v.1) S = insS S x := by
    rw [foldV_map, hys]
    unfold insS
    rw [if_neg (by omega)]
   rw [hE] at hI
   have hfin := (setI_own (f := fun _ : Unit => insS S x) hle).putObj (s := ()) (.deferred none) hI hD hK rfl
   have Hfin := Lib.hid (HR.out _ hfin.1 hfin.2.1)
   clear hE hys hfin
   gi_wp2
   refine ⟨by simp, .inl ⟨_, _, rfl, run_takeDeferred hK, ?_⟩⟩
   exact ⟨_, results_none rfl _ _ _, Hfin.out⟩
  case stop =>
   rintro D c pre W _ _ h _
   exact h.elim
end Go.Proofs.YtdanebboiekieaaGreatDoor
namespace Go.Proofs.YtdanebboiekieaaGreatDoor
open Go.RowKit Go.Shelf
set_option linter.unusedSimpArgs false
set_option linter.unusedVariables false

/-- DMarks of loops that are over: blocks from n₀ on, each its own, with nothing in them. -/
inductive DMarks (n₀ : Nat) (w : World) : List Deferred → Prop
 | nil : DMarks n₀ w []
 | cons {D : Nat} {ds : List Deferred} : n₀ ≤ D → w.heap[D]? = some (.deferred (some [])) → (∀ d ∈ ds, d.target ≠ .collected D) → DMarks n₀ w ds → DMarks n₀ w ({ target := .collected D, args := #[] } :: ds)
theorem DMarks.keep {n₀ : Nat} {w w' : World} {ds : List Deferred} (h : DMarks n₀ w ds) (hk : ∀ D, n₀ ≤ D → w.heap[D]? = some (.deferred (some [])) → (∃ d ∈ ds, d.target = .collected D) → w'.heap[D]? = some (.deferred (some []))) : DMarks n₀ w' ds := by
 induction h with
 | nil => exact .nil
 | @cons D ds h1 h2 h3 _ ih => exact .cons h1 (hk _ h1 h2 ⟨{ target := .collected D, args := #[] }, List.mem_cons_self, rfl⟩) h3 (ih fun D k1 k2 ⟨d, hd, e⟩ => hk D k1 k2 ⟨d, by simp [hd], e⟩)
theorem DMarks.onto {n₀ : Nat} {w w' : World} {ds : List Deferred} (h : DMarks n₀ w ds) (hb : Below w.heap.size w w') : DMarks n₀ w' ds := h.keep fun D _ h2 _ => (hb.block _ (Array.getElem?_eq_some_iff.1 h2).1).trans h2
theorem DMarks.grown {n₀ g : Nat} {w w' : World} {ds : List Deferred} (h : DMarks n₀ w ds) (hg : w.grownBy w' (some g)) (hc : ∀ x, w.heap[g]? ≠ some (.deferred x)) : DMarks n₀ w' ds :=
 h.keep fun D _ h2 _ => (hg.block D (Array.getElem?_eq_some_iff.1 h2).1 (fun e => by
  have : D = g := Option.some.inj e
  subst this
  exact hc _ h2)).trans h2
theorem DMarks.row {n₀ : Nat} {w w' : World} {ds : List Deferred} {row : Option Nat} (h : DMarks n₀ w ds) (hg : w.grownBy w' row) (hc : ∀ k, row = some k → ∃ A T fr, w.heap[k]? = some (.cells A T fr)) : DMarks n₀ w' ds :=
 h.keep fun D _ h2 _ => (hg.block D (Array.getElem?_eq_some_iff.1 h2).1 (fun e => by
  obtain ⟨A, T, fr, h3⟩ := hc D e.symm
  rw [h2] at h3
  injection h3 with h3
  cases h3)).trans h2
theorem DMarks.lt {n₀ : Nat} {w : World} {ds : List Deferred} (h : DMarks n₀ w ds) : ∀ d ∈ ds, ∃ D, d.target = .collected D ∧ D < w.heap.size := by
 induction h with
 | nil => intro d hd; cases hd
 | cons h1 h2 h3 _ ih =>
   intro d hd
   rcases List.mem_cons.1 hd with rfl | hd
   ·exact ⟨_, rfl, (Array.getElem?_eq_some_iff.1 h2).1⟩
   ·exact ih d hd
/-- A new loop's mark. -/
theorem DMarks.push {n₀ D : Nat} {w0 w : World} {ds : List Deferred} (h0 : DMarks n₀ w0 ds) (h : DMarks n₀ w ds) (hn : n₀ ≤ w0.heap.size) (hD : w0.heap.size ≤ D) (hK : w.heap[D]? = some (.deferred (some []))) : DMarks n₀ w ({ target := .collected D, args := #[] } :: ds) :=
 .cons (by omega) hK (fun d hd e => by
  obtain ⟨D', e', hl⟩ := h0.lt d hd
  rw [e] at e'
  injection e' with e'
  omega) h
/-- What the shutting of marks leaves. -/
structure Shut (n₀ : Nat) (w w' : World) : Prop where
 bel : Below n₀ w w'
 size : w'.heap.size = w.heap.size
 cells : ∀ (k : Nat) (o : Obj), w.heap[k]? = some o → (∀ x, o ≠ .deferred x) → w'.heap[k]? = some o
theorem Shut.cell {n₀ : Nat} {w w' : World} (h : Shut n₀ w w') {p : Addr} {u : Value} (hp : w.cell? p = some u) : w'.cell? p = some u := by
 unfold World.cell? at hp ⊢
 cases hx : w.heap[p.block]? with
 | none => rw [hx] at hp; cases hp
 | some o =>
   cases o with
   | cells A T fr => rw [h.cells _ _ hx (fun x e => by cases e)]; rw [hx] at hp; exact hp
   | _ => rw [hx] at hp; cases hp
theorem leaves_marks {n₀ n : Nat} {P : Program} {fn : Func} {tmps : Array Value} {R : Ending → World → Prop} : ∀ {ds : List Deferred} {w : World}, n₀ ≤ w.heap.size → DMarks n₀ w ds →
 (∀ w', Shut n₀ w w' → ∃ v, (results fn tmps).run P w' = .ok v w' ∧ R (.returned v) w') → LeavesInM Fence.wide n P fn tmps R ds .returning w
 | [], w, hn, _, h => by
   have := h w ⟨Below.refl _ _, rfl, fun _ _ h _ => h⟩
   exact this
 | d :: ds, w, hn, hM, h => by
   cases hM with
   | @cons D _ h1 h2 h3 h4 =>
     have hlt := (Array.getElem?_eq_some_iff.1 h2).1
     have hg := grownBy_putObj' w D (.deferred none)
     have hsz : (w.putObj D (.deferred none)).heap.size = w.heap.size := by simp [World.putObj]
     refine ⟨by simp, .inl ⟨D, w.putObj D (.deferred none), rfl, run_takeDeferred h2, ?_⟩⟩
     refine leaves_marks (by rw [hsz]; exact hn) (h4.keep fun D' k1 k2 ⟨d, hd, e⟩ => ?_) fun w' hs => h w' ⟨?_, hs.size.trans hsz, fun k o hk ho => hs.cells k o ?_ ho⟩
     ·refine (hg.block D' (Array.getElem?_eq_some_iff.1 k2).1 (fun e' => ?_)).trans k2
      have : D' = D := Option.some.inj e'
      subst this
      exact h3 d hd e
     ·exact ((Below.refl n₀ w).grown hg hn (fun k e => by cases e; exact h1)).trans hs.bel
     ·refine (hg.block k (Array.getElem?_eq_some_iff.1 hk).1 (fun e => ?_)).trans hk
      have : k = D := Option.some.inj e
      subst this
      rw [h2] at hk
      injection hk with hk
      exact ho _ hk.symm
end Go.Proofs.YtdanebboiekieaaGreatDoor
