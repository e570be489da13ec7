/- slices.Backward of instructions: its iterator's contract. code.checker.end; printed by genun5.py. -/
import Derived.Test.YtdanebboiekieaaGreatDoorQ09
import Derived.Test.YtdanebboiekieaaGreatDoorQ01
import Derived.Test.YtdanebboiekieaaGreatDoorRows
import Derived.IntWalk
import Derived.Outline
import Derived.RangeFuncNested
import Derived.RangeFuncBound
import Derived.RangeFuncCalls
import Derived.RangeFuncLeaves
import Derived.Shelf.Abstract
import Derived.Shelf.RegionOpen
import Derived.WalkKit
import Derived.OwnWalkIn
import Derived.TacticsInMore
import Derived.LoopNIn
import Derived.LoopIn
import Derived.Deep.QuietTactic
import Derived.Test.YtdanebboiekieaaGreatDoorQ05
namespace Go.Proofs.YtdanebboiekieaaGreatDoor
open Go.RowKit Go.Shelf
set_option linter.unusedSimpArgs false
set_option linter.unusedVariables false
attribute [local go_sem] Oper.semAt_some

/-- An instruction, as a value; its arguments' slice is va. -/
def insC (x : UIns) (va : Value) : Array Value := #[.int .i64 x.op, .int .i64 x.dst, .bool x.a.reg, .int .i64 x.a.n, .bool x.b.reg, .int .i64 x.b.n, .int .i64 x.fn, va]
/-- A row of instructions, each with its arguments' slice. -/
def InsRow (l : List UIns) (F : Nat → Value) (b0 : Nat) (A : Option Addr) (W : World) : Prop := ∀ j (h : j < l.length), ∃ b off, A = some ⟨b, off, none⟩ ∧ b < b0 ∧ rpVal.SL W b0 l[j].args (F j) ∧
 W.cell? ⟨b, off + j * 8, none⟩ = some (.int .i64 l[j].op) ∧ W.cell? ⟨b, off + j * 8 + 1, none⟩ = some (.int .i64 l[j].dst) ∧ W.cell? ⟨b, off + j * 8 + 2, none⟩ = some (.bool l[j].a.reg) ∧ W.cell? ⟨b, off + j * 8 + 3, none⟩ = some (.int .i64 l[j].a.n) ∧
 W.cell? ⟨b, off + j * 8 + 4, none⟩ = some (.bool l[j].b.reg) ∧ W.cell? ⟨b, off + j * 8 + 5, none⟩ = some (.int .i64 l[j].b.n) ∧ W.cell? ⟨b, off + j * 8 + 6, none⟩ = some (.int .i64 l[j].fn) ∧ W.cell? ⟨b, off + j * 8 + 7, none⟩ = some (F j)
theorem insRow_of {l : List UIns} {A : Option Addr} {n c b0 : Nat} {W : World} (h : rpIns.SL W b0 l (.slice A n c)) : ∃ F, InsRow l F b0 A W := by
 have key : ∀ j, ∃ v : Value, ∀ (hj : j < l.length), ∃ b off, A = some ⟨b, off, none⟩ ∧ b < b0 ∧ rpVal.SL W b0 l[j].args v ∧
  W.cell? ⟨b, off + j * 8, none⟩ = some (.int .i64 l[j].op) ∧ W.cell? ⟨b, off + j * 8 + 1, none⟩ = some (.int .i64 l[j].dst) ∧ W.cell? ⟨b, off + j * 8 + 2, none⟩ = some (.bool l[j].a.reg) ∧ W.cell? ⟨b, off + j * 8 + 3, none⟩ = some (.int .i64 l[j].a.n) ∧
  W.cell? ⟨b, off + j * 8 + 4, none⟩ = some (.bool l[j].b.reg) ∧ W.cell? ⟨b, off + j * 8 + 5, none⟩ = some (.int .i64 l[j].b.n) ∧ W.cell? ⟨b, off + j * 8 + 6, none⟩ = some (.int .i64 l[j].fn) ∧ W.cell? ⟨b, off + j * 8 + 7, none⟩ = some v := fun j => by
  by_cases hj : j < l.length
  ·obtain ⟨b, off, v, hA, hb, hv, h0, h1, h2, h3, h4, h5, h6, h7⟩ := h.ins_at hj
   exact ⟨v, fun _ => ⟨b, off, hA, hb, hv, h0, h1, h2, h3, h4, h5, h6, h7⟩⟩
  ·exact ⟨undef, fun h => absurd h hj⟩
 exact ⟨fun j => Classical.choose (key j), fun j hj => Classical.choose_spec (key j) hj⟩
theorem InsRow.keep {l : List UIns} {F : Nat → Value} {b0 g : Nat} {A : Option Addr} {W W' : World} (h : InsRow l F b0 A W) (hk : CKeep g W W') (hle : b0 ≤ g) : InsRow l F b0 A W' := fun j hj => by
 obtain ⟨b, off, hA, hb, hv, h0, h1, h2, h3, h4, h5, h6, h7⟩ := h j hj
 have key : ∀ {o : Nat} {u : Value}, W.cell? ⟨b, o, none⟩ = some u → W'.cell? ⟨b, o, none⟩ = some u := fun hc => hk.cell hc (by show b ≠ g; omega)
 exact ⟨b, off, hA, hb, hv.mono (fun p u hp hc => hk.cell hc (by omega)), key h0, key h1, key h2, key h3, key h4, key h5, key h6, key h7⟩
theorem InsRow.up {l : List UIns} {F : Nat → Value} {b0 : Nat} {A : Option Addr} {W W' : World} (h : InsRow l F b0 A W) (hb : Below b0 W W') : InsRow l F b0 A W' := fun j hj => by
 obtain ⟨b, off, hA, hlt, hv, h0, h1, h2, h3, h4, h5, h6, h7⟩ := h j hj
 have key : ∀ {o : Nat} {u : Value}, W.cell? ⟨b, o, none⟩ = some u → W'.cell? ⟨b, o, none⟩ = some u := fun hc => (hb.cell (p := ⟨b, _, none⟩) hlt).trans hc
 exact ⟨b, off, hA, hlt, hv.below hb, key h0, key h1, key h2, key h3, key h4, key h5, key h6, key h7⟩
theorem map_some_inj {α : Type} : ∀ {l m : List α}, l.map some = m.map some → l = m
 | [], [], _ => rfl
 | [], y :: m, h => by simp at h
 | x :: l, [], h => by simp at h
 | x :: l, y :: m, h => by
   simp only [List.map_cons, List.cons.injEq, Option.some.injEq] at h
   rw [h.1, map_some_inj h.2]
theorem fins_rev {l : List UIns} {ys : List (Fin l.length)} (h : ys.map (fun j : Fin l.length => j.1) = (List.range l.length).reverse) : ys.map (fun j : Fin l.length => l[j.1]) = l.reverse := by
 have e1 : (ys.map (fun j : Fin l.length => l[j.1])).map some = (ys.map (fun j : Fin l.length => j.1)).map fun k => l[k]? := by
  rw [List.map_map, List.map_map]
  apply List.map_congr_left
  intro j _
  simp
 have e2 : (List.range l.length).map (fun k => l[k]?) = l.map some := by
  apply List.ext_getElem
  ·simp
  ·intro i h1 h2
   simp at h1 h2
   simp [h2]
 have e3 : (ys.map (fun j : Fin l.length => l[j.1])).map some = l.reverse.map some := by
  rw [e1, h, List.map_reverse, e2, List.map_reverse]
 exact map_some_inj e3
structure BackNeed (l : List UIns) (F : Nat → Value) (A : Option Addr) (c Bs b0 g : Nat) (W : World) : Prop where
 box : W.heap[Bs]? = some (.cells #[.slice A l.length c] 62 (0, 0))
 row : InsRow l F b0 A W
 ne : Bs ≠ g
 le : b0 ≤ g
 lt : g < W.heap.size
theorem BackNeed.keep {l : List UIns} {F : Nat → Value} {A : Option Addr} {c Bs b0 g : Nat} {W W' : World} (h : BackNeed l F A c Bs b0 g W) (hk : CKeep g W W') : BackNeed l F A c Bs b0 g W' :=
 ⟨hk.blk h.box h.ne, h.row.keep hk h.le, h.ne, h.le, Nat.lt_of_lt_of_le h.lt hk.1⟩
def encB (l : List UIns) (F : Nat → Value) (j : Fin l.length) : Array Value := #[.int .i64 (j.1 : Int), .agg (insC l[j.1] (F j.1))]
theorem range_drop_rev {n k : Nat} (h : k < n) : ((List.range n).drop (k + 1)).reverse ++ [k] = ((List.range n).drop k).reverse := by
 have : (List.range n).drop k = k :: (List.range n).drop (k + 1) := by
  rw [List.drop_eq_getElem_cons (by simpa using h)]
  simp
 rw [this]
 simp
theorem fins_len {n : Nat} {ys : List (Fin n)} {l : List Nat} (h : ys.map (fun j : Fin n => j.1) = l) : ys.length = l.length := by rw [← h, List.length_map]
set_option maxRecDepth 100000 in
set_option maxHeartbeats 4000000 in
theorem Back1_in (n : Nat) (hn : 1 ≤ n) (lp Bs b0 g : Nat) (l : List UIns) (F : Nat → Value) (A : Option Addr) (c : Nat) (hmx : l.length ≤ maxLen) (J Jx : List (Fin l.length) → World → Prop)
 (hY : ∀ (pre : List (Fin l.length)) (j : Fin l.length) W, J pre W → pre.length < l.length → YieldAt Fence.wide (n - 1) Tryz.prog lp (encB l F j) W fun e W' => (e = .returned (.bool true) ∧ J (pre ++ [j]) W' ∧ CKeep g W W') ∨ (e = .returned (.bool false) ∧ Jx (pre ++ [j]) W'))
 (W : World) (hN : BackNeed l F A c Bs b0 g W) (h0 : J [] W) :
 CallsIn Fence.wide n Tryz.prog 129 #[.func (.yield lp) #[] #[], .pointer (some ⟨Bs, 0, none⟩)] W fun e W' => (∃ v, e = .returned v) ∧
  ((∃ ys : List (Fin l.length), ys.map (fun j : Fin l.length => j.1) = (List.range l.length).reverse ∧ J ys W') ∨ (∃ pre : List (Fin l.length), True ∧ Jx pre W')) := by
 have HY := Lib.hid hY
 have HN := Lib.hid hN
 have H0 := Lib.hid h0
 unfold maxLen at hmx
 clear hY h0
 have x0 : W.cell? ⟨Bs, 0, none⟩ = some (.slice A l.length c) := by rw [blk_cells hN.box]; rfl
 have lx := blk_lt hN.box
 clear hN
 refine callsIn_of_wp Tryz.func129 rfl trivial ?_ rfl
 simp only [Tryz.ntmps129, List.size_toArray, List.length_cons, List.length_nil, Nat.reduceAdd, Nat.reduceSub, Array.replicate_succ, Array.replicate_zero, List.push_toArray, List.append_toArray, List.nil_append, List.cons_append]
 gi_wp2
 gi_loopw [3] (fun i wr => ∃ (k : Nat) (ys : List (Fin l.length)), k ≤ l.length ∧ i = .int .i64 ((k : Int) - 1) ∧ ys.map (fun j : Fin l.length => j.1) = ((List.range l.length).drop k).reverse ∧ Hid (J ys wr) ∧ Hid (BackNeed l F A c Bs b0 g wr))
  (fun i _ => (intOf i + 1).toNat)
 case atStart => exact ⟨l.length, [], Nat.le_refl _, rfl, by simp, H0, HN⟩
 case round =>
  obtain ⟨k, ys, hk, rfl, hys, HJ, HNr⟩ := hrel
  have Hys := Lib.hid hys
  clear hys x0 lx
  have y0 : wr.cell? ⟨Bs, 0, none⟩ = some (.slice A l.length c) := by rw [blk_cells HNr.out.box]; rfl
  have ly := blk_lt HNr.out.box
  cases k with
  | zero =>
    have k1 : ¬ (0 : Int) ≤ ((0 : Nat) : Int) - 1 := by omega
    have hfin : Hid (ys.map (fun j : Fin l.length => j.1) = (List.range l.length).reverse) := Lib.hid (by rw [Hys.out]; rfl)
    gi_wp2
    go_end0
    exact ⟨⟨_, rfl⟩, .inl ⟨ys, hfin.out, HJ.out⟩⟩
  | succ k =>
    have e1 : (((k + 1 : Nat) : Int)) - 1 = (k : Int) := by omega
    rw [e1]
    have hlt : k < l.length := by omega
    obtain ⟨b, off, rfl, hb, hv, q0, q1, q2, q3, q4, q5, q6, q7⟩ := HNr.out.row k hlt
    have k1 : (0 : Int) ≤ (k : Int) := Int.natCast_nonneg _
    have k2 : (k : Int) < (l.length : Int) := by omega
    have lb : b < wr.heap.size := World.block_lt_of_cell? wr _ q0
    have hlen : ys.length < l.length := by
     rw [fins_len Hys.out]
     simp
     omega
    obtain ⟨fn5, tmps5, assign5, body5, hy5, hR5⟩ := HY.out ys ⟨k, hlt⟩ wr HJ.out hlen
    dsimp only [encB, insC] at hy5
    have HR5 := Lib.hid hR5
    have Hnext : Hid ((ys ++ [(⟨k, hlt⟩ : Fin l.length)]).map (fun j : Fin l.length => j.1) = ((List.range l.length).drop k).reverse) := Lib.hid (by
     rw [List.map_append, Hys.out, ← range_drop_rev hlt]
     rfl)
    clear hR5 hv hb
    gi_wp2
    refine HR5.out.mono ?_
    rintro e W6 (⟨rfl, hJ6, hk6⟩ | ⟨rfl, hx6⟩)
    ·have HN6 := Lib.hid (HNr.out.keep hk6)
     have HJ6 := Lib.hid hJ6
     clear hJ6 hk6 q0 q1 q2 q3 q4 q5 q6 q7 lb y0 ly
     gi_wp2
     go_roundw
     case rel => exact ⟨k, _, by omega, by go_num, Hnext.out, HJ6, HN6⟩
     case measure => simp [intOf] <;> omega
    ·gi_wp2
     refine bodyPost_ret (results_none rfl _ _ _) rfl ?_
     exact ⟨⟨_, rfl⟩, .inr ⟨_, trivial, hx6⟩⟩
theorem Back_stops (n : Nat) (hn : 1 ≤ n) (Bs b0 g : Nat) (l : List UIns) (F : Nat → Value) (A : Option Addr) (c : Nat) (hmx : l.length ≤ maxLen) (w : World) (hN : BackNeed l F A c Bs b0 g w) :
 SeqStopsK Fence.wide n Tryz.prog 129 #[.pointer (some ⟨Bs, 0, none⟩)] (encB l F) (CKeep g) (fun ys => ys.map (fun j : Fin l.length => j.1) = (List.range l.length).reverse) (fun _ => True) l.length w := fun lp J Jx W hW hJ _ hY h0 =>
 Back1_in n hn lp Bs b0 g l F A c hmx J Jx hY W (hN.keep (CKeep.of_below hW)) h0
set_option maxHeartbeats 1000000 in
theorem Back_calls (A : Option Addr) (m c : Nat) (w : World) (R : Ending → World → Prop)
 (hR : R (.returned (.func (.func 129) #[] #[.pointer (some ⟨w.heap.size, 0, none⟩)])) (w.alloc (.cells #[.slice A m c] 62))) :
 Calls Tryz.prog 98 #[.slice A m c] w R := by
 have HR := Lib.hid hR
 clear hR
 go_enter Tryz.func98, Tryz.ntmps98
 go_wp2
 exact HR.out
end Go.Proofs.YtdanebboiekieaaGreatDoor
namespace Go.Proofs.YtdanebboiekieaaGreatDoor
open Go.RowKit
set_option linter.unusedSimpArgs false
set_option linter.unusedVariables false

theorem end_cells {w : World} {b : Nat} {v0 v1 v2 v3 : Value} {T : TypeId} (h : w.heap[b]? = some (.cells #[v0, v1, v2, v3] T (0, 0))) :
 w.cell? ⟨b, 0, none⟩ = some v0 ∧ w.cell? ⟨b, 1, none⟩ = some v1 ∧ w.cell? ⟨b, 2, none⟩ = some v2 ∧ w.cell? ⟨b, 3, none⟩ = some v3 := by
 refine ⟨?_, ?_, ?_, ?_⟩ <;> (rw [blk_cells h]; rfl)
set_option maxRecDepth 100000 in
set_option maxHeartbeats 4000000 in
theorem end1_calls' (gA fA bA aA : Option Addr) (gn gc fn fc bn bc' an ac : Nat) (nm : ByteArray) (pr rg : Int) (on : UVal) (ts : List Int) (A : Option Addr) (c : Nat) (hrg : I64 rg) (h0 : -9223372036854775807 ≤ rg) (hbn : bn ≤ maxLen) (w : World) (hW : Ways w)
 (ht : rpInt.SL w w.heap.size ts (.slice A ts.length c)) (R : Ending → World → Prop) (hR : ∀ w', Below w.heap.size w w' → R (.returned (.int .i64 (endF bn rg ⟨1, on, ts⟩))) w') :
 Calls Tryz.prog 135 #[(.agg #[.slice gA gn gc, .slice fA fn fc, .string nm, .int .i64 pr, .int .i64 rg, .slice bA bn bc', .slice aA an ac]), .agg #[.int .i64 1, .bool on.reg, .int .i64 on.n, .slice A ts.length c]] w R := by
 have HR := Lib.hid hR
 have Ht := Lib.hid ht
 have hm := ht.max
 unfold maxLen at hm
 have hbn' := hbn
 unfold maxLen at hbn'
 obtain ⟨hw0, g1, g2, g3⟩ := hW
 have HC : Hid (((w.alloc (Obj.cells #[.slice gA gn gc, .slice fA fn fc, .string nm, .int .i64 pr, .int .i64 rg, .slice bA bn bc', .slice aA an ac] 171)).alloc (Obj.cells #[.int .i64 1, .bool on.reg, .int .i64 on.n, .slice A ts.length c] 66)).heap[w.heap.size]? = some (.cells #[.slice gA gn gc, .slice fA fn fc, .string nm, .int .i64 pr, .int .i64 rg, .slice bA bn bc', .slice aA an ac] 171 (0, 0))) := Lib.hid (blk_alloc (heap_alloc_new _ _) _)
 have HX : Hid (((w.alloc (Obj.cells #[.slice gA gn gc, .slice fA fn fc, .string nm, .int .i64 pr, .int .i64 rg, .slice bA bn bc', .slice aA an ac] 171)).alloc (Obj.cells #[.int .i64 1, .bool on.reg, .int .i64 on.n, .slice A ts.length c] 66)).heap[w.heap.size + 1]? = some (.cells #[.int .i64 1, .bool on.reg, .int .i64 on.n, .slice A ts.length c] 66 (0, 0))) := Lib.hid (by
  have := heap_alloc_new (w.alloc (Obj.cells #[.slice gA gn gc, .slice fA fn fc, .string nm, .int .i64 pr, .int .i64 rg, .slice bA bn bc', .slice aA an ac] 171)) (Obj.cells #[.int .i64 1, .bool on.reg, .int .i64 on.n, .slice A ts.length c] 66)
  simpa using this)
 have HBt := Lib.hid (ht.up (B := w.heap.size) (by exact bl0 : Below w.heap.size w ((w.alloc (Obj.cells #[.slice gA gn gc, .slice fA fn fc, .string nm, .int .i64 pr, .int .i64 rg, .slice bA bn bc', .slice aA an ac] 171)).alloc (Obj.cells #[.int .i64 1, .bool on.reg, .int .i64 on.n, .slice A ts.length c] 66))) (by simp; omega : w.heap.size ≤ ((w.alloc (Obj.cells #[.slice gA gn gc, .slice fA fn fc, .string nm, .int .i64 pr, .int .i64 rg, .slice bA bn bc', .slice aA an ac] 171)).alloc (Obj.cells #[.int .i64 1, .bool on.reg, .int .i64 on.n, .slice A ts.length c] 66)).heap.size))
 clear hR ht
 by_cases hlen : ¬ (ts.length : Int) = 0
 ·have e : endF bn rg ⟨1, on, ts⟩ = 9 := by unfold endF; rw [if_neg (by simp), if_pos (by simpa using hlen)]
  rw [e] at HR
  have hlb : ((ts.length : Int) != 0) = true := by simpa using hlen
  clear e hlen
  go_enter Tryz.func135, Tryz.ntmps135
  go_wp2_with fail
  refine Within_calls _ _ _ _ _ ?_
  go_wp2_with fail
  go_quiet (fail)
  go_wp2
  exact HR.out _ bl0
 have hlen := Decidable.of_not_not hlen
 have hlb : ((ts.length : Int) != 0) = false := by simpa using hlen
 by_cases hany : (ts.any fun t => !decide (1 ≤ t ∧ t ≤ (bn : Int) - 1)) = true
 ·have e : endF bn rg ⟨1, on, ts⟩ = 3 := by unfold endF; rw [if_neg (by simp), if_neg (fun h => h (show (ts.length : Int) = 1 - 1 from by omega)), if_pos hany]
  rw [e] at HR
  clear e
  go_enter Tryz.func135, Tryz.ntmps135
  go_wp2_with fail
  refine Within_calls _ _ _ _ _ ?_
  go_wp2_with fail
  go_quiet (fail)
  go_wp2_with fail
  refine contNw_calls w.heap.size _ (fun t => !decide (1 ≤ t ∧ t ≤ (bn : Int) - 1)) _ _ (HBt.out.up (below_drewN (Below.refl _ _) _) (Nat.le_refl _)) (fun a w1 ha hb R5 hR5 => end1_calls _ _ _ _ _ _ bA bn bc' w.heap.size _ a w1 ((hb.block _ (by simp; omega)).trans HC.out) hbn R5 hR5) _ (fun w1 hb1 => ?_)
  rw [hany]
  have hX := (hb1.block (w.heap.size + 1) (by simp)).trans HX.out
  have hCk := (hb1.block w.heap.size (by simp; omega)).trans HC.out
  obtain ⟨x0, x1, x2, x3⟩ := end_cells hX
  obtain ⟨c0, c1, c2, c3, c4, c5, c6⟩ := ckr_cells hCk
  have lx := blk_lt hX
  have lc := blk_lt hCk
  have Hb1 := Lib.hid ((by exact bl0 : Below w.heap.size w _).trans (hb1.mono (by simp; omega)))
  have HB1t := Lib.hid ((HBt.out.up (below_drewN (Below.refl _ _) _) (Nat.le_refl _)).up hb1 hb1.size)
  have hs1 := hb1.size
  clear hb1 hX hCk
  go_wp2
  exact HR.out _ (Hb1.out.trans ((by exact bl0 : Below w1.heap.size w1 _).mono Hb1.out.size))
 have hany : (ts.any fun t => !decide (1 ≤ t ∧ t ≤ (bn : Int) - 1)) = false := by simpa using hany
 have e0 : endF bn rg ⟨1, on, ts⟩ = if ((1 : Int) = 3 ∧ ts[0]? = ts[1]?) ∨ ((1 : Int) = 2 ∧ isZ on = false) then 5 else valF rg on := by
  unfold endF
  rw [if_neg (by simp), if_neg (fun h => h (show (ts.length : Int) = 1 - 1 from by omega)), if_neg (by simp only [hany]; simp)]
 rw [e0] at HR
 clear e0
 rw [if_neg (by simp)] at HR
 go_enter Tryz.func135, Tryz.ntmps135
 go_wp2_with fail
 refine Within_calls _ _ _ _ _ ?_
 go_wp2_with fail
 go_quiet (fail)
 go_wp2_with fail
 refine contNw_calls w.heap.size _ (fun t => !decide (1 ≤ t ∧ t ≤ (bn : Int) - 1)) _ _ (HBt.out.up (below_drewN (Below.refl _ _) _) (Nat.le_refl _)) (fun a w1 ha hb R5 hR5 => end1_calls _ _ _ _ _ _ bA bn bc' w.heap.size _ a w1 ((hb.block _ (by simp; omega)).trans HC.out) hbn R5 hR5) _ (fun w1 hb1 => ?_)
 rw [hany]
 have hX := (hb1.block (w.heap.size + 1) (by simp)).trans HX.out
 have hCk := (hb1.block w.heap.size (by simp; omega)).trans HC.out
 obtain ⟨x0, x1, x2, x3⟩ := end_cells hX
 obtain ⟨c0, c1, c2, c3, c4, c5, c6⟩ := ckr_cells hCk
 have lx := blk_lt hX
 have lc := blk_lt hCk
 have Hb1 := Lib.hid ((by exact bl0 : Below w.heap.size w _).trans (hb1.mono (by simp; omega)))
 have HB1t := Lib.hid ((HBt.out.up (below_drewN (Below.refl _ _) _) (Nat.le_refl _)).up hb1 hb1.size)
 have hs1 := hb1.size
 clear hb1 hX hCk
 go_wp2_with fail
 go_quiet (fail)
 go_wp2_with fail
 refine val_calls gA fA bA aA gn gc fn fc bn bc' an ac nm pr rg on hrg _ h0 _ (fun w2 hb2 => ?_)
 have Hfin := Lib.hid (HR.out _ ((below_drewN Hb1.out _).trans (hb2.mono Hb1.out.size)))
 clear hb2
 go_wp2
 exact Hfin.out
set_option maxRecDepth 100000 in
set_option maxHeartbeats 4000000 in
theorem end2_calls' (gA fA bA aA : Option Addr) (gn gc fn fc bn bc' an ac : Nat) (nm : ByteArray) (pr rg : Int) (on : UVal) (ts : List Int) (A : Option Addr) (c : Nat) (hrg : I64 rg) (h0 : -9223372036854775807 ≤ rg) (hbn : bn ≤ maxLen) (w : World) (hW : Ways w)
 (ht : rpInt.SL w w.heap.size ts (.slice A ts.length c)) (R : Ending → World → Prop) (hR : ∀ w', Below w.heap.size w w' → R (.returned (.int .i64 (endF bn rg ⟨2, on, ts⟩))) w') :
 Calls Tryz.prog 135 #[(.agg #[.slice gA gn gc, .slice fA fn fc, .string nm, .int .i64 pr, .int .i64 rg, .slice bA bn bc', .slice aA an ac]), .agg #[.int .i64 2, .bool on.reg, .int .i64 on.n, .slice A ts.length c]] w R := by
 have HR := Lib.hid hR
 have Ht := Lib.hid ht
 have hm := ht.max
 unfold maxLen at hm
 have hbn' := hbn
 unfold maxLen at hbn'
 obtain ⟨hw0, g1, g2, g3⟩ := hW
 have HC : Hid (((w.alloc (Obj.cells #[.slice gA gn gc, .slice fA fn fc, .string nm, .int .i64 pr, .int .i64 rg, .slice bA bn bc', .slice aA an ac] 171)).alloc (Obj.cells #[.int .i64 2, .bool on.reg, .int .i64 on.n, .slice A ts.length c] 66)).heap[w.heap.size]? = some (.cells #[.slice gA gn gc, .slice fA fn fc, .string nm, .int .i64 pr, .int .i64 rg, .slice bA bn bc', .slice aA an ac] 171 (0, 0))) := Lib.hid (blk_alloc (heap_alloc_new _ _) _)
 have HX : Hid (((w.alloc (Obj.cells #[.slice gA gn gc, .slice fA fn fc, .string nm, .int .i64 pr, .int .i64 rg, .slice bA bn bc', .slice aA an ac] 171)).alloc (Obj.cells #[.int .i64 2, .bool on.reg, .int .i64 on.n, .slice A ts.length c] 66)).heap[w.heap.size + 1]? = some (.cells #[.int .i64 2, .bool on.reg, .int .i64 on.n, .slice A ts.length c] 66 (0, 0))) := Lib.hid (by
  have := heap_alloc_new (w.alloc (Obj.cells #[.slice gA gn gc, .slice fA fn fc, .string nm, .int .i64 pr, .int .i64 rg, .slice bA bn bc', .slice aA an ac] 171)) (Obj.cells #[.int .i64 2, .bool on.reg, .int .i64 on.n, .slice A ts.length c] 66)
  simpa using this)
 have HBt := Lib.hid (ht.up (B := w.heap.size) (by exact bl0 : Below w.heap.size w ((w.alloc (Obj.cells #[.slice gA gn gc, .slice fA fn fc, .string nm, .int .i64 pr, .int .i64 rg, .slice bA bn bc', .slice aA an ac] 171)).alloc (Obj.cells #[.int .i64 2, .bool on.reg, .int .i64 on.n, .slice A ts.length c] 66))) (by simp; omega : w.heap.size ≤ ((w.alloc (Obj.cells #[.slice gA gn gc, .slice fA fn fc, .string nm, .int .i64 pr, .int .i64 rg, .slice bA bn bc', .slice aA an ac] 171)).alloc (Obj.cells #[.int .i64 2, .bool on.reg, .int .i64 on.n, .slice A ts.length c] 66)).heap.size))
 clear hR ht
 by_cases hlen : ¬ (ts.length : Int) = 1
 ·have e : endF bn rg ⟨2, on, ts⟩ = 9 := by unfold endF; rw [if_neg (by simp), if_pos (by simpa using hlen)]
  rw [e] at HR
  have hlb : ((ts.length : Int) != 1) = true := by simpa using hlen
  clear e hlen
  go_enter Tryz.func135, Tryz.ntmps135
  go_wp2_with fail
  refine Within_calls _ _ _ _ _ ?_
  go_wp2_with fail
  go_quiet (fail)
  go_wp2
  exact HR.out _ bl0
 have hlen := Decidable.of_not_not hlen
 have hlb : ((ts.length : Int) != 1) = false := by simpa using hlen
 by_cases hany : (ts.any fun t => !decide (1 ≤ t ∧ t ≤ (bn : Int) - 1)) = true
 ·have e : endF bn rg ⟨2, on, ts⟩ = 3 := by unfold endF; rw [if_neg (by simp), if_neg (fun h => h (show (ts.length : Int) = 2 - 1 from by omega)), if_pos hany]
  rw [e] at HR
  clear e
  go_enter Tryz.func135, Tryz.ntmps135
  go_wp2_with fail
  refine Within_calls _ _ _ _ _ ?_
  go_wp2_with fail
  go_quiet (fail)
  go_wp2_with fail
  refine contNw_calls w.heap.size _ (fun t => !decide (1 ≤ t ∧ t ≤ (bn : Int) - 1)) _ _ (HBt.out.up (below_drewN (Below.refl _ _) _) (Nat.le_refl _)) (fun a w1 ha hb R5 hR5 => end1_calls _ _ _ _ _ _ bA bn bc' w.heap.size _ a w1 ((hb.block _ (by simp; omega)).trans HC.out) hbn R5 hR5) _ (fun w1 hb1 => ?_)
  rw [hany]
  have hX := (hb1.block (w.heap.size + 1) (by simp)).trans HX.out
  have hCk := (hb1.block w.heap.size (by simp; omega)).trans HC.out
  obtain ⟨x0, x1, x2, x3⟩ := end_cells hX
  obtain ⟨c0, c1, c2, c3, c4, c5, c6⟩ := ckr_cells hCk
  have lx := blk_lt hX
  have lc := blk_lt hCk
  have Hb1 := Lib.hid ((by exact bl0 : Below w.heap.size w _).trans (hb1.mono (by simp; omega)))
  have HB1t := Lib.hid ((HBt.out.up (below_drewN (Below.refl _ _) _) (Nat.le_refl _)).up hb1 hb1.size)
  have hs1 := hb1.size
  clear hb1 hX hCk
  go_wp2
  exact HR.out _ (Hb1.out.trans ((by exact bl0 : Below w1.heap.size w1 _).mono Hb1.out.size))
 have hany : (ts.any fun t => !decide (1 ≤ t ∧ t ≤ (bn : Int) - 1)) = false := by simpa using hany
 have e0 : endF bn rg ⟨2, on, ts⟩ = if ((2 : Int) = 3 ∧ ts[0]? = ts[1]?) ∨ ((2 : Int) = 2 ∧ isZ on = false) then 5 else valF rg on := by
  unfold endF
  rw [if_neg (by simp), if_neg (fun h => h (show (ts.length : Int) = 2 - 1 from by omega)), if_neg (by simp only [hany]; simp)]
 rw [e0] at HR
 clear e0
 by_cases hz : isZ on = false
 ·rw [if_pos (.inr ⟨rfl, hz⟩)] at HR
  have t_z : ∀ w, (binOp .neq 64 (.agg #[.bool on.reg, .int .i64 on.n]) (.agg #[.bool false, .int .i64 0])).run Tryz.prog w = .ok (.bool true) w := fun w => by rw [neq_Val, isZ_eq, hz]; rfl
  clear hz
  go_enter Tryz.func135, Tryz.ntmps135
  go_wp2_with fail
  refine Within_calls _ _ _ _ _ ?_
  go_wp2_with fail
  go_quiet (fail)
  go_wp2_with fail
  refine contNw_calls w.heap.size _ (fun t => !decide (1 ≤ t ∧ t ≤ (bn : Int) - 1)) _ _ (HBt.out.up (below_drewN (Below.refl _ _) _) (Nat.le_refl _)) (fun a w1 ha hb R5 hR5 => end1_calls _ _ _ _ _ _ bA bn bc' w.heap.size _ a w1 ((hb.block _ (by simp; omega)).trans HC.out) hbn R5 hR5) _ (fun w1 hb1 => ?_)
  rw [hany]
  have hX := (hb1.block (w.heap.size + 1) (by simp)).trans HX.out
  have hCk := (hb1.block w.heap.size (by simp; omega)).trans HC.out
  obtain ⟨x0, x1, x2, x3⟩ := end_cells hX
  obtain ⟨c0, c1, c2, c3, c4, c5, c6⟩ := ckr_cells hCk
  have lx := blk_lt hX
  have lc := blk_lt hCk
  have Hb1 := Lib.hid ((by exact bl0 : Below w.heap.size w _).trans (hb1.mono (by simp; omega)))
  have HB1t := Lib.hid ((HBt.out.up (below_drewN (Below.refl _ _) _) (Nat.le_refl _)).up hb1 hb1.size)
  have hs1 := hb1.size
  clear hb1 hX hCk
  go_wp2_with fail
  go_quiet (fail)
  go_wp2
  exact HR.out _ (Hb1.out.trans ((by exact bl0 : Below w1.heap.size w1 _).mono Hb1.out.size))
 ·rw [if_neg (by simp [hz])] at HR
  have t_z : ∀ w, (binOp .neq 64 (.agg #[.bool on.reg, .int .i64 on.n]) (.agg #[.bool false, .int .i64 0])).run Tryz.prog w = .ok (.bool false) w := fun w => by rw [neq_Val, isZ_eq, show isZ on = true from by simpa using hz]; rfl
  clear hz
  go_enter Tryz.func135, Tryz.ntmps135
  go_wp2_with fail
  refine Within_calls _ _ _ _ _ ?_
  go_wp2_with fail
  go_quiet (fail)
  go_wp2_with fail
  refine contNw_calls w.heap.size _ (fun t => !decide (1 ≤ t ∧ t ≤ (bn : Int) - 1)) _ _ (HBt.out.up (below_drewN (Below.refl _ _) _) (Nat.le_refl _)) (fun a w1 ha hb R5 hR5 => end1_calls _ _ _ _ _ _ bA bn bc' w.heap.size _ a w1 ((hb.block _ (by simp; omega)).trans HC.out) hbn R5 hR5) _ (fun w1 hb1 => ?_)
  rw [hany]
  have hX := (hb1.block (w.heap.size + 1) (by simp)).trans HX.out
  have hCk := (hb1.block w.heap.size (by simp; omega)).trans HC.out
  obtain ⟨x0, x1, x2, x3⟩ := end_cells hX
  obtain ⟨c0, c1, c2, c3, c4, c5, c6⟩ := ckr_cells hCk
  have lx := blk_lt hX
  have lc := blk_lt hCk
  have Hb1 := Lib.hid ((by exact bl0 : Below w.heap.size w _).trans (hb1.mono (by simp; omega)))
  have HB1t := Lib.hid ((HBt.out.up (below_drewN (Below.refl _ _) _) (Nat.le_refl _)).up hb1 hb1.size)
  have hs1 := hb1.size
  clear hb1 hX hCk
  go_wp2_with fail
  go_quiet (fail)
  go_wp2_with fail
  refine val_calls gA fA bA aA gn gc fn fc bn bc' an ac nm pr rg on hrg _ h0 _ (fun w2 hb2 => ?_)
  have Hfin := Lib.hid (HR.out _ ((below_drewN Hb1.out _).trans (hb2.mono Hb1.out.size)))
  clear hb2
  go_wp2
  exact Hfin.out
set_option maxRecDepth 100000 in
set_option maxHeartbeats 4000000 in
theorem end3_calls' (gA fA bA aA : Option Addr) (gn gc fn fc bn bc' an ac : Nat) (nm : ByteArray) (pr rg : Int) (on : UVal) (ts : List Int) (A : Option Addr) (c : Nat) (hrg : I64 rg) (h0 : -9223372036854775807 ≤ rg) (hbn : bn ≤ maxLen) (w : World) (hW : Ways w)
 (ht : rpInt.SL w w.heap.size ts (.slice A ts.length c)) (R : Ending → World → Prop) (hR : ∀ w', Below w.heap.size w w' → R (.returned (.int .i64 (endF bn rg ⟨3, on, ts⟩))) w') :
 Calls Tryz.prog 135 #[(.agg #[.slice gA gn gc, .slice fA fn fc, .string nm, .int .i64 pr, .int .i64 rg, .slice bA bn bc', .slice aA an ac]), .agg #[.int .i64 3, .bool on.reg, .int .i64 on.n, .slice A ts.length c]] w R := by
 have HR := Lib.hid hR
 have Ht := Lib.hid ht
 have hm := ht.max
 unfold maxLen at hm
 have hbn' := hbn
 unfold maxLen at hbn'
 obtain ⟨hw0, g1, g2, g3⟩ := hW
 have HC : Hid (((w.alloc (Obj.cells #[.slice gA gn gc, .slice fA fn fc, .string nm, .int .i64 pr, .int .i64 rg, .slice bA bn bc', .slice aA an ac] 171)).alloc (Obj.cells #[.int .i64 3, .bool on.reg, .int .i64 on.n, .slice A ts.length c] 66)).heap[w.heap.size]? = some (.cells #[.slice gA gn gc, .slice fA fn fc, .string nm, .int .i64 pr, .int .i64 rg, .slice bA bn bc', .slice aA an ac] 171 (0, 0))) := Lib.hid (blk_alloc (heap_alloc_new _ _) _)
 have HX : Hid (((w.alloc (Obj.cells #[.slice gA gn gc, .slice fA fn fc, .string nm, .int .i64 pr, .int .i64 rg, .slice bA bn bc', .slice aA an ac] 171)).alloc (Obj.cells #[.int .i64 3, .bool on.reg, .int .i64 on.n, .slice A ts.length c] 66)).heap[w.heap.size + 1]? = some (.cells #[.int .i64 3, .bool on.reg, .int .i64 on.n, .slice A ts.length c] 66 (0, 0))) := Lib.hid (by
  have := heap_alloc_new (w.alloc (Obj.cells #[.slice gA gn gc, .slice fA fn fc, .string nm, .int .i64 pr, .int .i64 rg, .slice bA bn bc', .slice aA an ac] 171)) (Obj.cells #[.int .i64 3, .bool on.reg, .int .i64 on.n, .slice A ts.length c] 66)
  simpa using this)
 have HBt := Lib.hid (ht.up (B := w.heap.size) (by exact bl0 : Below w.heap.size w ((w.alloc (Obj.cells #[.slice gA gn gc, .slice fA fn fc, .string nm, .int .i64 pr, .int .i64 rg, .slice bA bn bc', .slice aA an ac] 171)).alloc (Obj.cells #[.int .i64 3, .bool on.reg, .int .i64 on.n, .slice A ts.length c] 66))) (by simp; omega : w.heap.size ≤ ((w.alloc (Obj.cells #[.slice gA gn gc, .slice fA fn fc, .string nm, .int .i64 pr, .int .i64 rg, .slice bA bn bc', .slice aA an ac] 171)).alloc (Obj.cells #[.int .i64 3, .bool on.reg, .int .i64 on.n, .slice A ts.length c] 66)).heap.size))
 clear hR ht
 by_cases hlen : ¬ (ts.length : Int) = 2
 ·have e : endF bn rg ⟨3, on, ts⟩ = 9 := by unfold endF; rw [if_neg (by simp), if_pos (by simpa using hlen)]
  rw [e] at HR
  have hlb : ((ts.length : Int) != 2) = true := by simpa using hlen
  clear e hlen
  go_enter Tryz.func135, Tryz.ntmps135
  go_wp2_with fail
  refine Within_calls _ _ _ _ _ ?_
  go_wp2_with fail
  go_quiet (fail)
  go_wp2
  exact HR.out _ bl0
 have hlen := Decidable.of_not_not hlen
 have hlb : ((ts.length : Int) != 2) = false := by simpa using hlen
 by_cases hany : (ts.any fun t => !decide (1 ≤ t ∧ t ≤ (bn : Int) - 1)) = true
 ·have e : endF bn rg ⟨3, on, ts⟩ = 3 := by unfold endF; rw [if_neg (by simp), if_neg (fun h => h (show (ts.length : Int) = 3 - 1 from by omega)), if_pos hany]
  rw [e] at HR
  clear e
  go_enter Tryz.func135, Tryz.ntmps135
  go_wp2_with fail
  refine Within_calls _ _ _ _ _ ?_
  go_wp2_with fail
  go_quiet (fail)
  go_wp2_with fail
  refine contNw_calls w.heap.size _ (fun t => !decide (1 ≤ t ∧ t ≤ (bn : Int) - 1)) _ _ (HBt.out.up (below_drewN (Below.refl _ _) _) (Nat.le_refl _)) (fun a w1 ha hb R5 hR5 => end1_calls _ _ _ _ _ _ bA bn bc' w.heap.size _ a w1 ((hb.block _ (by simp; omega)).trans HC.out) hbn R5 hR5) _ (fun w1 hb1 => ?_)
  rw [hany]
  have hX := (hb1.block (w.heap.size + 1) (by simp)).trans HX.out
  have hCk := (hb1.block w.heap.size (by simp; omega)).trans HC.out
  obtain ⟨x0, x1, x2, x3⟩ := end_cells hX
  obtain ⟨c0, c1, c2, c3, c4, c5, c6⟩ := ckr_cells hCk
  have lx := blk_lt hX
  have lc := blk_lt hCk
  have Hb1 := Lib.hid ((by exact bl0 : Below w.heap.size w _).trans (hb1.mono (by simp; omega)))
  have HB1t := Lib.hid ((HBt.out.up (below_drewN (Below.refl _ _) _) (Nat.le_refl _)).up hb1 hb1.size)
  have hs1 := hb1.size
  clear hb1 hX hCk
  go_wp2
  exact HR.out _ (Hb1.out.trans ((by exact bl0 : Below w1.heap.size w1 _).mono Hb1.out.size))
 have hany : (ts.any fun t => !decide (1 ≤ t ∧ t ≤ (bn : Int) - 1)) = false := by simpa using hany
 have e0 : endF bn rg ⟨3, on, ts⟩ = if ((3 : Int) = 3 ∧ ts[0]? = ts[1]?) ∨ ((3 : Int) = 2 ∧ isZ on = false) then 5 else valF rg on := by
  unfold endF
  rw [if_neg (by simp), if_neg (fun h => h (show (ts.length : Int) = 3 - 1 from by omega)), if_neg (by simp only [hany]; simp)]
 rw [e0] at HR
 clear e0
 obtain ⟨p, q, rfl⟩ : ∃ p q, ts = [p, q] := by
  match ts, hlen with
  | [p, q], _ => exact ⟨p, q, rfl⟩
  | [], h => simp at h
  | [p], h => simp at h
  | p :: q :: r :: t, h => simp at h; omega
 by_cases hz : p = q
 ·rw [if_pos (.inl ⟨rfl, by simp [hz]⟩)] at HR
  have hzb : (p == q) = true := by simpa using hz
  clear hz
  go_enter Tryz.func135, Tryz.ntmps135
  go_wp2_with fail
  refine Within_calls _ _ _ _ _ ?_
  go_wp2_with fail
  go_quiet (fail)
  go_wp2_with fail
  refine contNw_calls w.heap.size _ (fun t => !decide (1 ≤ t ∧ t ≤ (bn : Int) - 1)) _ _ (HBt.out.up (below_drewN (Below.refl _ _) _) (Nat.le_refl _)) (fun a w1 ha hb R5 hR5 => end1_calls _ _ _ _ _ _ bA bn bc' w.heap.size _ a w1 ((hb.block _ (by simp; omega)).trans HC.out) hbn R5 hR5) _ (fun w1 hb1 => ?_)
  rw [hany]
  have hX := (hb1.block (w.heap.size + 1) (by simp)).trans HX.out
  have hCk := (hb1.block w.heap.size (by simp; omega)).trans HC.out
  obtain ⟨x0, x1, x2, x3⟩ := end_cells hX
  obtain ⟨c0, c1, c2, c3, c4, c5, c6⟩ := ckr_cells hCk
  have lx := blk_lt hX
  have lc := blk_lt hCk
  have Hb1 := Lib.hid ((by exact bl0 : Below w.heap.size w _).trans (hb1.mono (by simp; omega)))
  have HB1t := Lib.hid ((HBt.out.up (below_drewN (Below.refl _ _) _) (Nat.le_refl _)).up hb1 hb1.size)
  have hs1 := hb1.size
  clear hb1 hX hCk
  have hpq := HB1t.out
  obtain ⟨bt, ot, hAt, hbt, t0⟩ := hpq.int_at (k := 0) (by simp)
  obtain ⟨bt', ot', hAt', _, t1⟩ := hpq.int_at (k := 1) (by simp)
  subst hAt
  cases hAt'
  simp at t0 t1
  clear hpq
  go_wp2_with fail
  go_quiet (fail)
  go_wp2
  exact HR.out _ (Hb1.out.trans ((by exact bl0 : Below w1.heap.size w1 _).mono Hb1.out.size))
 ·rw [if_neg (by simp [hz])] at HR
  have hzb : (p == q) = false := by simpa using hz
  clear hz
  go_enter Tryz.func135, Tryz.ntmps135
  go_wp2_with fail
  refine Within_calls _ _ _ _ _ ?_
  go_wp2_with fail
  go_quiet (fail)
  go_wp2_with fail
  refine contNw_calls w.heap.size _ (fun t => !decide (1 ≤ t ∧ t ≤ (bn : Int) - 1)) _ _ (HBt.out.up (below_drewN (Below.refl _ _) _) (Nat.le_refl _)) (fun a w1 ha hb R5 hR5 => end1_calls _ _ _ _ _ _ bA bn bc' w.heap.size _ a w1 ((hb.block _ (by simp; omega)).trans HC.out) hbn R5 hR5) _ (fun w1 hb1 => ?_)
  rw [hany]
  have hX := (hb1.block (w.heap.size + 1) (by simp)).trans HX.out
  have hCk := (hb1.block w.heap.size (by simp; omega)).trans HC.out
  obtain ⟨x0, x1, x2, x3⟩ := end_cells hX
  obtain ⟨c0, c1, c2, c3, c4, c5, c6⟩ := ckr_cells hCk
  have lx := blk_lt hX
  have lc := blk_lt hCk
  have Hb1 := Lib.hid ((by exact bl0 : Below w.heap.size w _).trans (hb1.mono (by simp; omega)))
  have HB1t := Lib.hid ((HBt.out.up (below_drewN (Below.refl _ _) _) (Nat.le_refl _)).up hb1 hb1.size)
  have hs1 := hb1.size
  clear hb1 hX hCk
  have hpq := HB1t.out
  obtain ⟨bt, ot, hAt, hbt, t0⟩ := hpq.int_at (k := 0) (by simp)
  obtain ⟨bt', ot', hAt', _, t1⟩ := hpq.int_at (k := 1) (by simp)
  subst hAt
  cases hAt'
  simp at t0 t1
  clear hpq
  go_wp2_with fail
  go_quiet (fail)
  go_wp2_with fail
  refine val_calls gA fA bA aA gn gc fn fc bn bc' an ac nm pr rg on hrg _ h0 _ (fun w2 hb2 => ?_)
  have Hfin := Lib.hid (HR.out _ ((below_drewN Hb1.out _).trans (hb2.mono Hb1.out.size)))
  clear hb2
  go_wp2
  exact Hfin.out
end Go.Proofs.YtdanebboiekieaaGreatDoor
