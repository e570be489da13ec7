/- clash.Across. Rows of ints of the call's own, that are written into; clash.Weights' closure. -/
import Derived.Test.YtdanebboiekieaaGreatDoorQ23
import Derived.Test.YtdanebboiekieaaGreatDoorQ24
import Derived.Test.YtdanebboiekieaaGreatDoorQ01
import Derived.Test.YtdanebboiekieaaGreatDoorRows
import Derived.IntWalk
import Derived.Outline
import Derived.Deep.LoopGhost
import Derived.Deep.CutBlock
import Derived.Deep.DeepCutAuto
import Derived.Maps.OwnIn
import Derived.RangeFuncNested
import Derived.RangeFuncBound
import Derived.RangeFuncCalls
import Derived.RangeFuncLeaves
import Derived.Shelf.Abstract
import Derived.Shelf.RegionOpen
import Derived.WalkKit
import Derived.OwnWalkIn
import Derived.TacticsInMore
import Derived.LoopNIn
import Derived.LoopIn
import Derived.Laws.MakeOwn
namespace Go.Proofs.YtdanebboiekieaaGreatDoor
open Go.RowKit
set_option linter.unusedSimpArgs false
set_option linter.unusedVariables false
open Go.Maps Go.WideShapes Go.MapKept Go.ChangeMaps Go.ChangeShapes

theorem clash_ok {u : Unt} {k : Nat} {f : UFun} (h : checkF u = (0, 0)) (hkf : u.funcs[k]? = some f) (hnp : ∀ b ∈ f.blocks, b.phis = []) : clashF u (k : Int) = (0, 0) := by
 have hk := (List.getElem?_eq_some_iff.1 hkf).1
 unfold clashF
 rw [if_neg (by rw [h]; exact fun e => e rfl), if_neg (by omega)]
 have e : ((k : Int)).toNat = k := by omega
 rw [e, hkf]
 dsimp only
 rw [if_neg]
 intro h
 obtain ⟨b, hb, h⟩ := List.any_eq_true.1 h
 unfold hasPhi at h
 rw [hnp b hb] at h
 simp at h
set_option maxRecDepth 100000 in
set_option maxHeartbeats 8000000 in
theorem Across_calls (Ac : Int → Bool) (L : Nat → Nat → Int → Bool) (u : Unt) (hu : UntI u) (hok : checkF u = (0, 0)) (k : Nat) (f : UFun) (hkf : u.funcs[k]? = some f) (hnp : ∀ b ∈ f.blocks, b.phis = []) (hto : ∀ b ∈ f.blocks, b.end_.to.length ≤ 2) (n : Nat) (hn : f.regs = (n : Int)) (hL : ∀ i k r, L i k r = true ↔ LvI f r i k) (hA : ∀ z, Ac z = true ↔ Across f z) (gA fA : Option Addr) (gn gc fc : Nat) (w : World) (hW : Ways w) (hg : rpGlobal.SL w w.heap.size u.globals (.slice gA gn gc)) (hf : rpFun.SL w w.heap.size u.funcs (.slice fA u.funcs.length fc)) (R : Ending → World → Prop)
 (hR : ∀ w' v', Below w.heap.size w w' → w'.ownsRow w.heap.size 3 1 v' (rowX Ac n).length ((rowX Ac n).flatMap intCells) → R (.returned (.tuple #[v', (.agg #[.int .i64 (((0 : Int), (0 : Int))).1, .int .i64 (((0 : Int), (0 : Int))).2])])) w') :
 Calls Tryz.prog 40 #[.agg #[.slice gA gn gc, .slice fA u.funcs.length fc], .int .i64 (k : Int)] w R := by
 have hfo := funOk hok hkf
 have hn1 : n ≤ 100 := by have := hfo.regs.2; omega
 have hcl := clash_ok hok hkf hnp
 have HR := Lib.hid hR
 have Hg := Lib.hid hg
 have Hf := Lib.hid hf
 have HW := Lib.hid hW
 have Hk := Lib.hid hok
 have Hkf := Lib.hid hkf
 have Hnp := Lib.hid hnp
 have Hto := Lib.hid hto
 have Hn := Lib.hid hn
 have HL := Lib.hid hL
 have HA := Lib.hid hA
 have Hcl := Lib.hid hcl
 have Hfo := Lib.hid hfo
 clear hR hg hf hW hok hkf hnp hto hn hL hA hcl hfo
 go_enter Tryz.func40, Tryz.ntmps40
 go_upto_region 1 with fail
 obtain ⟨W2, hW2⟩ : ∃ W2, W2 = (w.alloc (Obj.cells #[.slice gA gn gc, .slice fA u.funcs.length fc] 25)).alloc (Obj.cells #[.int .i64 0, .int .i64 0] 30) := ⟨_, rfl⟩
 have hb2 : Below w.heap.size w W2 := by subst hW2; exact bl0
 have hU2 : W2.heap[w.heap.size]? = some (.cells #[.slice gA gn gc, .slice fA u.funcs.length fc] 25 (0, 0)) := by subst hW2; exact blk_alloc (heap_alloc_new _ _) _
 have hF2 : W2.heap[w.heap.size + 1]? = some (.cells #[.int .i64 0, .int .i64 0] 30 (0, 0)) := by
  subst hW2
  have := heap_alloc_new (w.alloc (Obj.cells #[.slice gA gn gc, .slice fA u.funcs.length fc] 25)) (Obj.cells #[.int .i64 0, .int .i64 0] 30)
  simpa using this
 rw [← hW2]
 have Hb2 := Lib.hid hb2
 have HU2 := Lib.hid hU2
 have HF2 := Lib.hid hF2
 have hz2 := hb2.size
 obtain ⟨u0, u1⟩ := cells_blk hU2
 have lU := blk_lt hU2
 clear hW2 hb2 hU2 hF2
 go_wp2_with fail
 refine ClashFault_calls u hu (k : Int) _ _ _ _ _ _ _ (HW.out.up Hb2.out HW.out.1) (Hg.out.up Hb2.out hz2) (Hf.out.up Hb2.out hz2) _ (fun w3 hb3 => ?_)
 rw [Hcl.out]
 have Hb3 := Lib.hid (Hb2.out.trans (hb3.mono hz2))
 have HU3 := Lib.hid ((hb3.block _ (blk_lt HU2.out)).trans HU2.out)
 have HF3 := Lib.hid ((hb3.block _ (blk_lt HF2.out)).trans HF2.out)
 have hz3 := Hb3.out.size
 clear hb3 u0 u1 lU
 obtain ⟨u0, u1⟩ := cells_blk HU3.out
 have lU := blk_lt HU3.out
 have hmm := @run_makeMap Tryz.prog
 obtain ⟨W4, hW4⟩ : ∃ W4, W4 = ((w3.alloc (Obj.cells #[.int .i64 0, .int .i64 0] 30)).alloc (Obj.map #[] 0)).alloc (Obj.cells #[.map (some (w3.heap.size + 1))] 116) := ⟨_, rfl⟩
 have hb34 : Below w3.heap.size w3 W4 := by subst hW4; exact bl0
 have hS4 : SetM W4 (w3.heap.size + 1) (fun _ => false) := by
  subst hW4
  have := (SetM.made (w3.alloc (Obj.cells #[.int .i64 0, .int .i64 0] 30))).kept (World.grownBy_alloc _ (Obj.cells #[.map (some (w3.heap.size + 1))] 116) none) (by simp)
  simpa using this
 have hO4 : W4.heap[w3.heap.size + 1 + 1]? = some (.cells #[.map (some (w3.heap.size + 1))] 116 (0, 0)) := by
  subst hW4
  have := heap_alloc_new ((w3.alloc (Obj.cells #[.int .i64 0, .int .i64 0] 30)).alloc (Obj.map #[] 0)) (Obj.cells #[.map (some (w3.heap.size + 1))] 116)
  simpa using this
 have Hb4 := Lib.hid (Hb3.out.trans (hb34.mono hz3))
 have HU4 := Lib.hid ((hb34.block _ (blk_lt HU3.out)).trans HU3.out)
 have HF4 := Lib.hid ((hb34.block _ (blk_lt HF3.out)).trans HF3.out)
 have HJ4 : Hid (JA w.heap.size W4.heap.size (w3.heap.size + 1 + 1) (w3.heap.size + 1) (fun _ => false) W4) := Lib.hid ⟨by rw [blk_cells hO4]; rfl, hS4, blk_lt hO4, Nat.le_refl _, by omega, hS4.lt⟩
 have HW4 := Lib.hid hW4.symm
 have hz4 := Hb4.out.size
 clear hW4 hb34 hS4 hO4
 go_upto_region 5 with fail
 rw [HW4.out]
 clear u0 u1 lU hmm
 obtain ⟨u0, u1⟩ := cells_blk HU4.out
 have lU := blk_lt HU4.out
 go_wp2_with fail
 refine backA_calls (JA w.heap.size W4.heap.size (w3.heap.size + 1 + 1) (w3.heap.size + 1)) updA (.pointer (some ⟨w3.heap.size + 1 + 1, 0, none⟩)) L u hu Hk.out k f Hkf.out Hnp.out Hto.out n Hn.out HL.out _ _ _ _ _ w.heap.size W4 (HW.out.up Hb4.out HW.out.1) (Hg.out.up Hb4.out (Nat.le_refl _)) (Hf.out.up Hb4.out (Nat.le_refl _)) hz4 HW.out.1 (fun σ W W' h hb => h.below hb) (fun _ => false) HJ4.out (fun σ x va W mp X hx hj hmp hS hX R hR => acr_calls u n w.heap.size W4.heap.size _ _ σ x va W mp X hx hj hmp hS R hR) _ (fun w5 hJ5 hM5 hC5 => ?_)
 have hJ5 := hJ5.to (Z := fun z => Ac z) (fun z => by rw [Bool.eq_iff_iff, across_run HL.out, HA.out])
 have HF5 := Lib.hid (hC5.blk HF4.out)
 have Hb5 : Hid (Below w.heap.size w w5) := Lib.hid ⟨hM5.os.trans Hb4.out.os, hM5.tape.trans Hb4.out.tape, hM5.output.trans Hb4.out.output, Nat.le_trans hz4 hM5.size, fun k hk => (hM5.block k (by omega) (by omega)).trans (Hb4.out.block k hk)⟩
 have HS5 := Lib.hid hJ5.set
 have o0 := hJ5.box
 have lo := World.block_lt_of_cell? w5 _ o0
 have hz5 := Hb5.out.size
 have Hx : Hid (∀ r, Ac r = true → r < (n : Int)) := Lib.hid (fun r hr => by
  obtain ⟨i, k', b, x, _, _, _, _, h5⟩ := (HA.out r).1 hr
  have := (h5.lt Hfo.out).2
  rw [Hn.out] at this
  exact this)
 clear hJ5 hM5 hC5 u0 u1 lU
 go_wp2_with fail
 refine rising_calls _ _ n _ HS5.out Hx.out _ (fun w6 v6 hb6 hown6 => ?_)
 have Hb6 := Lib.hid (Hb5.out.trans (hb6.mono hz5))
 have HF6 := (hb6.block _ (blk_lt HF5.out)).trans HF5.out
 have lF5 := blk_lt HF5.out
 have Ho6 := Lib.hid (own_le (ownsRow_setCell_below (ownsRow_setCell_below hown6 (a := ⟨w.heap.size + 1, 0, none⟩) lF5 (.int .i64 0)) (a := ⟨w.heap.size + 1, 1, none⟩) lF5 (.int .i64 0)) hz5)
 obtain ⟨A6, c6, rfl⟩ := own_slice hown6
 obtain ⟨f0, f1⟩ := cells_blk HF6
 have lF := blk_lt HF6
 have z0 : w6.frozen? ⟨w.heap.size + 1, 0, none⟩ = false := by simp [World.frozen?, HF6]
 have z1 : w6.frozen? ⟨w.heap.size + 1, 1, none⟩ = false := by simp [World.frozen?, HF6]
 clear hb6 hown6 HF6 o0 lo
 have Hbl := Lib.hid (below_sets Hb6.out [(⟨w.heap.size + 1, 0, none⟩, .int .i64 (0)), (⟨w.heap.size + 1, 1, none⟩, .int .i64 (0))] (by simp))
 go_wp2
 refine bodyPost_ret (v := .tuple #[.slice A6 (rowX (fun z => Ac z) n).length c6, (.agg #[.int .i64 (((0 : Int), (0 : Int))).1, .int .i64 (((0 : Int), (0 : Int))).2])]) (by simp [results, Tryz.results40, go_sem, f0, f1, lF]) rfl ?_
 exact HR.out _ _ Hbl.out Ho6.out
end Go.Proofs.YtdanebboiekieaaGreatDoor
namespace Go.Proofs.YtdanebboiekieaaGreatDoor
open Go.RowKit Go.Shelf
set_option linter.unusedSimpArgs false
set_option linter.unusedVariables false
attribute [local go_sem] Oper.semAt_some

def iAt (S : List Int) (k : Nat) : Int := S.getD k 0
/-- A row of ints (the block may be longer). -/
def IntAt (g : Nat) (S : List Int) (w : World) : Prop := ∃ A, w.heap[g]? = some (.cells A 3 (0, 0)) ∧ ∀ k, k < S.length → A[k]? = some (.int .i64 (iAt S k))
theorem IntAt.cell {g : Nat} {S : List Int} {w : World} (h : IntAt g S w) {k : Nat} (hk : k < S.length) : w.cell? ⟨g, k, none⟩ = some (.int .i64 (iAt S k)) := by
 obtain ⟨A, h1, h2⟩ := h
 rw [blk_cells h1]
 exact h2 k hk
theorem IntAt.frozen {g : Nat} {S : List Int} {w : World} (h : IntAt g S w) (k : Nat) : w.frozen? ⟨g, k, none⟩ = false := by
 obtain ⟨A, h1, h2⟩ := h
 simp [World.frozen?, h1]
theorem IntAt.lt {g : Nat} {S : List Int} {w : World} (h : IntAt g S w) : g < w.heap.size := by
 obtain ⟨A, h1, h2⟩ := h
 exact blk_lt h1
theorem iAt_set {S : List Int} {i k : Nat} {x : Int} (h : i < S.length) : iAt (S.set i x) k = if k = i then x else iAt S k := by
 unfold iAt
 rw [List.getD_eq_getElem?_getD, List.getD_eq_getElem?_getD, List.getElem?_set]
 by_cases e : i = k
 ·subst e
  rw [if_pos rfl, if_pos h, if_pos rfl]
  rfl
 ·rw [if_neg e, if_neg (fun x => e x.symm)]
theorem IntAt.set {g : Nat} {S : List Int} {w : World} (h : IntAt g S w) (k : Nat) (x : Int) : IntAt g (S.set k x) (w.setCell ⟨g, k, none⟩ (.int .i64 x)) := by
 obtain ⟨A, h1, h2⟩ := h
 refine ⟨A.setIfInBounds k (.int .i64 x), by rw [block_set h1], fun j hj => ?_⟩
 rw [List.length_set] at hj
 have h3 := h2 j hj
 have hjA : j < A.size := (Array.getElem?_eq_some_iff.1 h3).1
 rw [Array.getElem?_setIfInBounds]
 by_cases e : k = j
 ·subst e
  rw [if_pos rfl, if_pos hjA, iAt_set hj, if_pos rfl]
 ·rw [if_neg e, h3]
  rcases Nat.lt_or_ge k S.length with hk | hk
  ·rw [iAt_set hk, if_neg (fun h => e h.symm)]
  ·rw [List.set_eq_of_length_le hk]
theorem IntAt.block {g : Nat} {S : List Int} {w w' : World} (h : IntAt g S w) (hk : ∀ o : Obj, w.heap[g]? = some o → o.isCells = true → w'.heap[g]? = some o) : IntAt g S w' := by
 obtain ⟨A, h1, h2⟩ := h
 exact ⟨A, hk _ h1 rfl, h2⟩
theorem IntAt.below {g : Nat} {S : List Int} {w w' : World} (h : IntAt g S w) (hb : Below w.heap.size w w') : IntAt g S w' := h.block fun o ho _ => (hb.block _ (blk_lt ho)).trans ho
theorem IntAt.alloc {g : Nat} {S : List Int} {w : World} (h : IntAt g S w) (o : Obj) : IntAt g S (w.alloc o) := h.block fun x hx _ => blk_alloc hx o
theorem IntAt.SL {g cp : Nat} {S : List Int} {w : World} (h : IntAt g S w) (hm : S.length ≤ maxLen) (hc : S.length ≤ cp) : rpInt.SL w w.heap.size S (.slice (some ⟨g, 0, none⟩) S.length cp) := by
 refine ⟨_, _, rfl, hm, hc, fun _ => ⟨g, 0, rfl, h.lt, fun k x hk => ⟨_, rfl, fun j u hj => ?_⟩⟩⟩
 cases j with
 | zero =>
   simp at hj
   subst hj
   have hlt := (List.getElem?_eq_some_iff.1 hk).1
   have := h.cell hlt
   unfold iAt at this
   rw [List.getD_eq_getElem?_getD, hk] at this
   simpa [rpInt] using this
 | succ j => simp at hj
/-- The row and what has turned, behind some rounds. -/
def IntI (g : Nat) (S : List Int) (w0 W : World) : Prop := IntAt g S W ∧ w0.grownBy W (some g) ∧ CKeep g w0 W
theorem intI_own {β : Type} {g B : Nat} {f : β → List Int} {w0 : World} (hB : w0.heap.size ≤ B) : OwnFrom B (fun (s : β) W => IntI g (f s) w0 W) := fun s A Z row hs hg hr => by
 obtain ⟨h1, h2, h3⟩ := hs
 have hkeep : ∀ (k : Nat) (o : Obj), A.heap[k]? = some o → o.isCells = true → Z.heap[k]? = some o := fun k o ho hc => by
  rcases (Classical.em (row = some k)) with e | e
  ·obtain ⟨_, o', ho', hc'⟩ := hr k e
   rw [ho] at ho'
   injection ho' with ho'
   subst ho'
   rw [hc] at hc'
   cases hc'
  ·exact (hg.block k (blk_lt ho) (fun h => e h.symm)).trans ho
 refine ⟨h1.block (fun o ho hc => hkeep g o ho hc), ⟨hg.os.trans h2.os, hg.tape.trans h2.tape, hg.output.trans h2.output, Nat.le_trans h2.size hg.size, fun k hk hk2 => ?_⟩, ⟨Nat.le_trans h3.1 hg.size, fun k o ho hc hk => hkeep k o (h3.2 k o ho hc hk) hc⟩⟩
 rw [← h2.block k hk hk2]
 refine hg.block k (by have := h2.size; omega) (fun e => ?_)
 have := (hr k e.symm).1
 omega
theorem IntI.below {g : Nat} {S : List Int} {w0 W W' : World} (h : IntI g S w0 W) (hb : Below W.heap.size W W') : IntI g S w0 W' :=
 ⟨h.1.below hb, h.2.1.trans (grown_of_below hb _), h.2.2.trans (CKeep.of_below hb)⟩
theorem IntI.alloc {g : Nat} {S : List Int} {w0 W : World} (h : IntI g S w0 W) (o : Obj) : IntI g S w0 (W.alloc o) := h.below ((Below.refl _ _).alloc (Nat.le_refl _) o)
/-- How often each register is named, so far. -/
def rowW (l : List Int) (n : Nat) : List Int := (ints n).map (cntW l)
theorem rowW_len (l : List Int) (n : Nat) : (rowW l n).length = n := by
 unfold rowW
 rw [List.length_map, ints_len]
theorem ints_get {n k : Nat} (h : k < n) : (ints n)[k]? = some (k : Int) := by
 unfold ints
 rw [List.getElem?_map, List.getElem?_range h, Option.map_some]
theorem rowW_at {l : List Int} {n k : Nat} (h : k < n) : iAt (rowW l n) k = cntW l (k : Int) := by
 unfold iAt rowW
 rw [List.getD_eq_getElem?_getD, List.getElem?_map, ints_get h, Option.map_some, Option.getD_some]
theorem cntW_snoc (l : List Int) (x r : Int) : cntW (l ++ [x]) r = if x = r then wrap64 (cntW l r + 1) else cntW l r := by
 unfold cntW
 rw [List.count_append]
 by_cases e : x = r
 ·subst e
  rw [if_pos rfl, List.count_singleton_self, Int.natCast_add]
  generalize ((List.count x l : Nat) : Int) = m
  show wrap64 (m + 1) = _
  unfold wrap64
  omega
 ·rw [if_neg e, List.count_singleton, if_neg (by simpa using e), Nat.add_zero]
theorem rowW_snoc {l : List Int} {n k : Nat} (h : k < n) : rowW (l ++ [(k : Int)]) n = (rowW l n).set k (wrap64 (cntW l (k : Int) + 1)) := by
 apply List.ext_getElem?
 intro j
 rcases Nat.lt_or_ge j n with hj | hj
 ·have h1 : (rowW (l ++ [(k : Int)]) n)[j]? = some (cntW (l ++ [(k : Int)]) (j : Int)) := by unfold rowW; rw [List.getElem?_map, ints_get hj, Option.map_some]
  have h2 : (rowW l n)[j]? = some (cntW l (j : Int)) := by unfold rowW; rw [List.getElem?_map, ints_get hj, Option.map_some]
  rw [h1, List.getElem?_set, cntW_snoc]
  by_cases e : k = j
  ·subst e
   rw [if_pos rfl, if_pos rfl, if_pos (by rw [rowW_len]; exact h)]
  ·rw [if_neg e, if_neg (by omega), h2]
 ·rw [List.getElem?_eq_none (by rw [rowW_len]; exact hj), List.getElem?_eq_none (by rw [List.length_set, rowW_len]; exact hj)]
end Go.Proofs.YtdanebboiekieaaGreatDoor
