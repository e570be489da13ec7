/- clash.Weights: its closure; the walk. -/
import Derived.Test.YtdanebboiekieaaGreatDoorQ25
import Derived.Test.YtdanebboiekieaaGreatDoorQ01
import Derived.Test.YtdanebboiekieaaGreatDoorRows
import Derived.IntWalk
import Derived.Outline
import Derived.RangeFuncNested
import Derived.RangeFuncBound
import Derived.RangeFuncCalls
import Derived.RangeFuncLeaves
import Derived.Shelf.Abstract
import Derived.Shelf.RegionOpen
import Derived.WalkKit
import Derived.OwnWalkIn
import Derived.TacticsInMore
import Derived.LoopNIn
import Derived.LoopIn
import Derived.Laws.MakeOwn
import Derived.Laws.EntriesVeiled
import Derived.Deep.CutBlock
import Derived.Deep.DeepCutAuto
import Derived.Deep.CutRange
namespace Go.Proofs.YtdanebboiekieaaGreatDoor
open Go.RowKit Go.Shelf
set_option linter.unusedSimpArgs false
set_option linter.unusedVariables false
attribute [local go_sem] Oper.semAt_some

theorem regsV_one (v : UVal) : regsV [v] = if v.reg = true then [v.n] else [] := by
 rw [regsV_cons]
 simp [regsV]
set_option maxHeartbeats 1000000 in
theorem cnt_calls (l : List Int) (n g ob : Nat) (v : UVal) (w : World) (hS : IntAt g (rowW l n) w) (hB : w.heap[ob]? = some (.cells #[.slice (some ⟨g, 0, none⟩) n n] 26 (0, 0))) (hne : ob ≠ g) (hv : ValOk n v) (R : Ending → World → Prop)
 (hR : ∀ w', IntAt g (rowW (l ++ regsV [v]) n) w' → w.grownBy w' (some g) → R (.returned (.tuple #[])) w') :
 Calls Tryz.prog 77 #[.agg #[.bool v.reg, .int .i64 v.n], .pointer (some ⟨ob, 0, none⟩)] w R := by
 have HR := Lib.hid hR
 have HS := Lib.hid hS
 clear hR hS
 rw [regsV_one] at HR
 obtain ⟨reg, m⟩ := v
 cases reg
 ·have e : l ++ (if (UVal.mk false m).reg = true then [(UVal.mk false m).n] else []) = l := by simp
  rw [e] at HR
  clear e
  go_enter Tryz.func77, Tryz.ntmps77
  go_wp2
  go_end0
  exact HR.out _ (HS.out.alloc _) (World.grownBy_alloc _ _ _)
 ·have hn := hv rfl
  simp only at hn
  obtain ⟨k, rfl⟩ : ∃ k : Nat, m = (k : Int) := ⟨m.toNat, by omega⟩
  have hk : k < n := by omega
  have e : l ++ (if (UVal.mk true (k : Int)).reg = true then [(UVal.mk true (k : Int)).n] else []) = l ++ [(k : Int)] := by simp
  rw [e, rowW_snoc hk] at HR
  have c00 := HS.out.cell (k := k) (by rw [rowW_len]; exact hk)
  rw [rowW_at hk] at c00
  generalize cntW l (k : Int) = q at *
  have f00 := HS.out.frozen k
  have lg0 := HS.out.lt
  have b0 : w.cell? ⟨ob, 0, none⟩ = some (.slice (some ⟨g, 0, none⟩) n n) := by rw [blk_cells hB]; rfl
  have lb0 := blk_lt hB
  have k1 : (0 : Int) ≤ (k : Int) := Int.natCast_nonneg _
  have k2 : (k : Int) < (n : Int) := by omega
  clear hv e
  go_enter Tryz.func77, Tryz.ntmps77
  go_wp2
  go_end0
  exact HR.out _ ((HS.out.set k (wrap64 (q + 1))).alloc _) ((grown_setCell _ _ _).trans (World.grownBy_alloc _ _ _))
theorem info_intW : (Tryz.prog.info? 3).map (fun i => (i.zero, i.size, i.bytes)) = some (some (.int .i64 0), 1, 8) := by kernel_rfl
theorem make_intsW (W : World) (n : Nat) (hn : n ≤ 5000) : (Instr.makeSlice 26 (.int .i64 (n : Int)) (.int .i64 (n : Int))).run Tryz.prog W = .ok (.slice (some ⟨W.heap.size, 0, none⟩) n n) (W.alloc (.cells (Array.replicate n (Value.int .i64 0)) 3)) := by
 obtain ⟨iB, hi, z0, z1, z2⟩ := info_parts info_intW
 have h := run_make (P := Tryz.prog) W 26 3 iB _ Tryz.underlying26 hi z0 .i64 .i64 (n : Int) (n : Int) (by omega) (Int.le_refl _) (by rw [z2]; omega) (by omega)
 rw [z1] at h
 simp only [Int.toNat_natCast, Nat.mul_one] at h
 have e : madeCells (Value.int .i64 0).cells n = Array.replicate n (Value.int .i64 0) := by
  unfold madeCells
  apply Array.ext
  ·simp
  ·intro i h1 h2
   simp [Value.cells, Nat.mod_one]
 rw [e] at h
 exact h
def namesTo (bs : List UBlk) (b : Nat) : List Int := (bs.take b).flatMap regsB
theorem namesTo_step {bs : List UBlk} {b : Nat} (h : b < bs.length) : namesTo bs (b + 1) = (namesTo bs b ++ bs[b].list.flatMap regsX) ++ regsV [bs[b].end_.on] := by
 unfold namesTo
 rw [List.take_succ_eq_append_getElem h, List.flatMap_append]
 simp [regsB]
theorem insTo_step {l : List UIns} {j : Nat} (h : j < l.length) (Z : List Int) : Z ++ (l.take (j + 1)).flatMap regsX = (Z ++ (l.take j).flatMap regsX) ++ regsX l[j] := by
 rw [List.take_succ_eq_append_getElem h, List.flatMap_append]
 simp
set_option pp.deepTerms true in
set_option pp.maxSteps 100000 in
set_option maxRecDepth 100000 in
set_option maxHeartbeats 16000000 in
theorem Weights_calls (u : Unt) (hu : UntI u) (hok : checkF u = (0, 0)) (k : Nat) (f : UFun) (hkf : u.funcs[k]? = some f) (hnp : ∀ b ∈ f.blocks, b.phis = []) (n : Nat) (hn : f.regs = (n : Int)) (gA fA : Option Addr) (gn gc fc : Nat) (w : World) (hW : Ways w) (hg : rpGlobal.SL w w.heap.size u.globals (.slice gA gn gc)) (hf : rpFun.SL w w.heap.size u.funcs (.slice fA u.funcs.length fc)) (R : Ending → World → Prop)
 (hR : ∀ w' g, Below w.heap.size w w' → w.heap.size ≤ g → IntAt g (rowW (regsF f) n) w' → R (.returned (.tuple #[.slice (some ⟨g, 0, none⟩) n n, (.agg #[.int .i64 (((0 : Int), (0 : Int))).1, .int .i64 (((0 : Int), (0 : Int))).2])])) w') :
 Calls Tryz.prog 41 #[.agg #[.slice gA gn gc, .slice fA u.funcs.length fc], .int .i64 (k : Int)] w R := by
 have hfo := funOk hok hkf
 have h40 : f.blocks.length ≤ 40 := hfo.blocks.2
 have hn1 : n ≤ 100 := by have := hfo.regs.2; omega
 have hcl := clash_ok hok hkf hnp
 obtain ⟨hku, hfk⟩ := List.getElem?_eq_some_iff.1 hkf
 obtain ⟨bf, offf, vb, hfA, hbf, hsb, qf0, qf1, qf2, qf3⟩ := hf.fun_at hku
 subst hfA
 rw [hfk] at qf0 qf1 qf2 hsb
 rw [hn] at qf2
 obtain ⟨A, c, rfl, hmx, hcap, hsb⟩ := hsb.cases_
 have k0 : (0 : Int) ≤ (k : Int) := Int.natCast_nonneg _
 have k1 : (k : Int) < (u.funcs.length : Int) := by omega
 have HR := Lib.hid hR
 have Hg := Lib.hid hg
 have Hf := Lib.hid hf
 have HW := Lib.hid hW
 have Hn := Lib.hid hn
 have Hcl := Lib.hid hcl
 have Hfo := Lib.hid hfo
 have Hs := Lib.hid hsb
 clear hR hg hf hW hok hkf hnp hn hcl hfo hsb hfk
 obtain ⟨W2, hW2⟩ : ∃ W2, W2 = (w.alloc (Obj.cells #[.slice gA gn gc, .slice (some ⟨bf, offf, none⟩) u.funcs.length fc] 25)).alloc (Obj.cells #[.int .i64 0, .int .i64 0] 30) := ⟨_, rfl⟩
 have hb2 : Below w.heap.size w W2 := by subst hW2; exact bl0
 have hU2 : W2.heap[w.heap.size]? = some (.cells #[.slice gA gn gc, .slice (some ⟨bf, offf, none⟩) u.funcs.length fc] 25 (0, 0)) := by subst hW2; exact blk_alloc (heap_alloc_new _ _) _
 have hF2 : W2.heap[w.heap.size + 1]? = some (.cells #[.int .i64 0, .int .i64 0] 30 (0, 0)) := by
  subst hW2
  have := heap_alloc_new (w.alloc (Obj.cells #[.slice gA gn gc, .slice (some ⟨bf, offf, none⟩) u.funcs.length fc] 25)) (Obj.cells #[.int .i64 0, .int .i64 0] 30)
  simpa using this
 have Hb2 := Lib.hid hb2
 have HU2 := Lib.hid hU2
 have HF2 := Lib.hid hF2
 have HW2 := Lib.hid hW2.symm
 have hz2 := hb2.size
 obtain ⟨u0, u1⟩ := cells_blk hU2
 have lU := blk_lt hU2
 clear hW2 hb2 hU2 hF2
 refine (callsIn_wide (n := 7)).1 ?_
 refine callsIn_of_wp_marks Tryz.func41 rfl trivial ?_ rfl
 simp only [Tryz.ntmps41, List.size_toArray, List.length_cons, List.length_nil, Nat.reduceAdd, Nat.reduceSub, Array.replicate_succ, Array.replicate_zero, List.push_toArray, List.append_toArray, List.nil_append, List.cons_append]
 refine wpIn_wide.2 (wp_mono (Q := postN Tryz.prog Tryz.f41 R) ?_ postN_le)
 go_upto_region 1 with fail
 rw [HW2.out]
 go_wp2_with fail
 refine ClashFault_calls u hu (k : Int) _ _ _ _ _ _ _ (HW.out.up Hb2.out HW.out.1) (Hg.out.up Hb2.out hz2) (Hf.out.up Hb2.out hz2) _ (fun w3 hb3 => ?_)
 rw [Hcl.out]
 have Hb3 := Lib.hid (Hb2.out.trans (hb3.mono hz2))
 have HU3 := Lib.hid ((hb3.block _ (blk_lt HU2.out)).trans HU2.out)
 have HF3 := Lib.hid ((hb3.block _ (blk_lt HF2.out)).trans HF2.out)
 have hz3 := Hb3.out.size
 clear hb3 u0 u1 lU
 obtain ⟨u0, u1⟩ := cells_blk HU3.out
 have lU := blk_lt HU3.out
 obtain ⟨g, hg⟩ : ∃ g, g = w3.heap.size + 1 := ⟨_, rfl⟩
 have hsz : (w3.alloc (Obj.cells #[.int .i64 0, .int .i64 0] 30)).heap.size = g := by rw [hg]; simp
 have hmk := make_intsW (w3.alloc (Obj.cells #[.int .i64 0, .int .i64 0] 30)) n (by omega)
 rw [hsz] at hmk
 obtain ⟨W5, hW5⟩ : ∃ W5, W5 = (((w3.alloc (Obj.cells #[.int .i64 0, .int .i64 0] 30)).alloc (.cells (Array.replicate n (Value.int .i64 0)) 3)).alloc (Obj.cells #[.slice (some ⟨g, 0, none⟩) n n] 26)).alloc (Obj.cells #[.func (.func 77) #[] #[.pointer (some ⟨g + 1, 0, none⟩)]] 121) := ⟨_, rfl⟩
 have q2 := (Hb3.out.cell (p := ⟨bf, offf + k * 4 + 2, none⟩) hbf).trans qf2
 have q3 := (Hb3.out.cell (p := ⟨bf, offf + k * 4 + 3, none⟩) hbf).trans qf3
 have lbf : bf < w3.heap.size := by omega
 have hb35 : Below w3.heap.size w3 W5 := by subst hW5; exact bl0
 have hI5 : IntAt g (rowW [] n) W5 := by
  subst hW5
  refine ⟨Array.replicate n (Value.int .i64 0), blk_alloc (blk_alloc (by have := heap_alloc_new (w3.alloc (Obj.cells #[.int .i64 0, .int .i64 0] 30)) (.cells (Array.replicate n (Value.int .i64 0)) 3); rw [hsz] at this; exact this) _) _, fun j hj => ?_⟩
  rw [rowW_len] at hj
  rw [rowW_at hj]
  have : cntW [] (j : Int) = 0 := by unfold cntW wrap64; simp
  rw [this]
  simp [hj]
 have hsz2 : ((w3.alloc (Obj.cells #[.int .i64 0, .int .i64 0] 30)).alloc (.cells (Array.replicate n (Value.int .i64 0)) 3)).heap.size = g + 1 := by simp; omega
 have hX5 : W5.heap[g + 1]? = some (.cells #[.slice (some ⟨g, 0, none⟩) n n] 26 (0, 0)) := by
  subst hW5
  refine blk_alloc ?_ _
  have := heap_alloc_new ((w3.alloc (Obj.cells #[.int .i64 0, .int .i64 0] 30)).alloc (.cells (Array.replicate n (Value.int .i64 0)) 3)) (Obj.cells #[.slice (some ⟨g, 0, none⟩) n n] 26)
  rwa [hsz2] at this
 have hQ5 : W5.heap[g + 2]? = some (.cells #[.func (.func 77) #[] #[.pointer (some ⟨g + 1, 0, none⟩)]] 121 (0, 0)) := by
  have := heap_alloc_new (((w3.alloc (Obj.cells #[.int .i64 0, .int .i64 0] 30)).alloc (.cells (Array.replicate n (Value.int .i64 0)) 3)).alloc (Obj.cells #[.slice (some ⟨g, 0, none⟩) n n] 26)) (Obj.cells #[.func (.func 77) #[] #[.pointer (some ⟨g + 1, 0, none⟩)]] 121)
  rw [← hW5] at this
  have e : (((w3.alloc (Obj.cells #[.int .i64 0, .int .i64 0] 30)).alloc (.cells (Array.replicate n (Value.int .i64 0)) 3)).alloc (Obj.cells #[.slice (some ⟨g, 0, none⟩) n n] 26)).heap.size = g + 2 := by simp; omega
  rwa [e] at this
 have Hb5 := Lib.hid (Hb3.out.trans (hb35.mono hz3))
 have HU5 := Lib.hid ((hb35.block _ (blk_lt HU3.out)).trans HU3.out)
 have HF5 := Lib.hid ((hb35.block _ (blk_lt HF3.out)).trans HF3.out)
 have HI5 := Lib.hid hI5
 have HX5 := Lib.hid hX5
 have HQ5 := Lib.hid hQ5
 have HW5 := Lib.hid hW5.symm
 have Hg3 : Hid (w.heap.size + 1 < g ∧ w3.heap.size < g) := Lib.hid ⟨by have := blk_lt HF3.out; omega, by omega⟩
 have Hgs := Lib.hid hg
 have hz5 := Hb5.out.size
 clear hb35 hI5 hX5 hQ5 hW5 hsz hsz2 hg
 go_upto_region 6 with fail
 rw [show w3.heap.size + 1 + 1 = g + 1 from by have := Hgs.out; omega, HW5.out, show g + 1 + 1 = g + 2 from rfl]
 clear u0 u1 lU q2 q3 lbf hmk
 obtain ⟨u0, u1⟩ := cells_blk HU5.out
 have lU := blk_lt HU5.out
 have q3 := (Hb5.out.cell (p := ⟨bf, offf + k * 4 + 3, none⟩) hbf).trans qf3
 have lbf : bf < W5.heap.size := by omega
 go_wp2
 clear u0 u1 lU q3 lbf
 refine wp_loop_lit (fun u => #[u 0, u 1, .pointer (some ⟨w.heap.size, 0, none⟩), u 3, u 4, .pointer (some ⟨w.heap.size + 1, 0, none⟩), u 6, .pointer (some ⟨g + 1, 0, none⟩), .pointer (some ⟨g + 2, 0, none⟩), u 9, u 10, u 11, u 12, u 13, u 14, u 15, u 16, u 17, u 18, u 19, u 20, u 21, u 22, u 23, u 24, u 25, u 26, u 27, u 28, u 29, u 30, u 31, u 32, u 33, .slice A f.blocks.length c, .int .i64 (f.blocks.length : Int), u 36, u 37, u 38, u 39, u 40, u 41, u 42, u 43, u 44, u 45, u 46, u 47, u 48, u 49, u 50, u 51, u 52, u 53, u 54, u 55, u 56, u 57, u 58, u 59, u 60, u 61, u 62, u 63, u 64, u 65, u 66, u 67, u 68, u 69, u 70, u 71])
  (fun gh u ds wr => ∃ b : Nat, b ≤ f.blocks.length ∧ gh = f.blocks.length - b ∧ u 36 = .int .i64 (b : Int) ∧ Hid (IntI g (rowW (namesTo f.blocks b) n) W5 wr) ∧ Hid (DMarks w.heap.size wr ds))
  f.blocks.length rfl ?_ ?_
 ·exact ⟨0, Nat.zero_le _, rfl, rfl, Lib.hid ⟨HI5.out, grown_self _ _, CKeep.refl _ _⟩, Lib.hid .nil⟩
 intro gh us ds w4 hI K HK
 obtain ⟨b, hbN, hgh, h36, HIr, HM⟩ := hI
 dsimp only
 rw [h36]
 have Hgh := Lib.hid hgh
 clear h36 hgh
 have hzr : W5.heap.size ≤ w4.heap.size := HIr.out.2.1.size
 have k2 : (0 : Int) ≤ (b : Int) := Int.natCast_nonneg _
 have Hb4 : Hid (Below w.heap.size w w4) := Lib.hid (Hb5.out.grown HIr.out.2.1 hz5 (fun k e => by have := Option.some.inj e; have := Hg3.out; omega))
 have hz4 := Hb4.out.size
 by_cases hlt : ¬ b < f.blocks.length
 ·have hbe : b = f.blocks.length := by omega
  subst hbe
  have k3 : ¬ ((f.blocks.length : Int) < (f.blocks.length : Int)) := by omega
  clear hlt
  have hXo := HIr.out.2.2.blk HX5.out (by omega)
  have hFo := HIr.out.2.2.blk HF5.out (by have := Hg3.out; omega)
  have o0 : w4.cell? ⟨g + 1, 0, none⟩ = some (.slice (some ⟨g, 0, none⟩) n n) := by rw [blk_cells hXo]; rfl
  have lo := blk_lt hXo
  obtain ⟨f0, f1⟩ := cells_blk hFo
  have lF := blk_lt hFo
  have y0 : w4.frozen? ⟨w.heap.size + 1, 0, none⟩ = false := by simp [World.frozen?, hFo]
  have y1 : w4.frozen? ⟨w.heap.size + 1, 1, none⟩ = false := by simp [World.frozen?, hFo]
  have HFo := Lib.hid hFo
  have hne : w.heap.size + 1 ≠ g := by have := Hg3.out; omega
  have hIe : IntAt g (rowW (regsF f) n) w4 := by
   have := HIr.out.1
   unfold namesTo at this
   rwa [List.take_length] at this
  have HIe := Lib.hid hIe
  clear hXo hFo hIe
  go_wp2
  have hblk : ((w4.setCell ⟨w.heap.size + 1, 0, none⟩ (.int .i64 0)).setCell ⟨w.heap.size + 1, 1, none⟩ (.int .i64 0)).heap[w.heap.size + 1]? = some (.cells #[.int .i64 0, .int .i64 0] 30 (0, 0)) := block_set (j := 1) (block_set (j := 0) HFo.out _) _
  have hI2 : IntAt g (rowW (regsF f) n) ((w4.setCell ⟨w.heap.size + 1, 0, none⟩ (.int .i64 0)).setCell ⟨w.heap.size + 1, 1, none⟩ (.int .i64 0)) := HIe.out.block (fun o ho _ => (Below.heap_setCell _ _ _ _ (show g ≠ w.heap.size + 1 from hne.symm)).trans ((Below.heap_setCell _ _ _ _ (show g ≠ w.heap.size + 1 from hne.symm)).trans ho))
  have hM2 : DMarks w.heap.size ((w4.setCell ⟨w.heap.size + 1, 0, none⟩ (.int .i64 0)).setCell ⟨w.heap.size + 1, 1, none⟩ (.int .i64 0)) ds := (HM.out.grown (grown_setCell w4 ⟨w.heap.size + 1, 0, none⟩ (.int .i64 0)) (fun y h => by have h : w4.heap[w.heap.size + 1]? = _ := h; rw [HFo.out] at h; cases h)).grown (grown_setCell _ ⟨w.heap.size + 1, 1, none⟩ (.int .i64 0)) (fun y h => by
   have h : (w4.setCell ⟨w.heap.size + 1, 0, none⟩ (.int .i64 0)).heap[w.heap.size + 1]? = _ := h
   rw [block_set (j := 0) HFo.out (.int .i64 0)] at h
   cases h)
  have hbl := below_sets Hb4.out [(⟨w.heap.size + 1, 0, none⟩, .int .i64 (0)), (⟨w.heap.size + 1, 1, none⟩, .int .i64 (0))] (by simp)
  refine leaves_marks (n₀ := w.heap.size) (by simp [World.setCell]; omega) hM2 (fun w' hsh => ?_)
  have hblk' := hsh.cells _ _ hblk (fun x e => by cases e)
  refine ⟨_, res_slice_Fault (by rfl) (by rfl) (by rfl) (cells_blk hblk'), ?_⟩
  exact HR.out w' g (hbl.trans hsh.bel) (by have := Hg3.out; omega) (hI2.block (fun o ho hc => hsh.cells _ _ ho (fun x e => by subst e; cases hc)))
 have hlt := Decidable.of_not_not hlt
 have k3 : (b : Int) < (f.blocks.length : Int) := by omega
 obtain ⟨b9, off9, vp, vl, vt, hA9, hb9, hp, hl, ht, q0, q1, q2, q3, q4, q5⟩ := Hs.out.blk_at hlt
 subst hA9
 obtain ⟨Ap, cp, rfl, _, _, hp⟩ := hp.cases_
 obtain ⟨Al, cl, rfl, hlm, _, hl⟩ := hl.cases_
 obtain ⟨At, ct, rfl, _, _, ht⟩ := ht.cases_
 obtain ⟨F, hF⟩ := insRow_of hl
 obtain ⟨bk, hbk⟩ : ∃ bk, bk = f.blocks[b] := ⟨_, rfl⟩
 have hgb : f.blocks[b]? = some bk := by rw [hbk]; exact List.getElem?_eq_getElem hlt
 have Hstep : Hid (namesTo f.blocks (b + 1) = (namesTo f.blocks b ++ bk.list.flatMap regsX) ++ regsV [bk.end_.on]) := Lib.hid (by rw [namesTo_step hlt, hbk])
 rw [← hbk] at hF q0 q1 q2 q3 q4 q5 hl hlm
 have Hin : Hid (∀ x ∈ bk.list, InsOk u n x) := Lib.hid (by rw [← Hn.out]; exact Hfo.out.ins bk (List.mem_of_getElem? hgb))
 have Hon : Hid (ValOk n bk.end_.on) := Lib.hid (by rw [← Hn.out]; exact Hfo.out.on bk (List.mem_of_getElem? hgb))
 have HF := Lib.hid hF
 have r0 := (Hb4.out.cell (p := ⟨b9, off9 + b * 6, none⟩) hb9).trans q0
 have r1 := (Hb4.out.cell (p := ⟨b9, off9 + b * 6 + 1, none⟩) hb9).trans q1
 have r2 := (Hb4.out.cell (p := ⟨b9, off9 + b * 6 + 2, none⟩) hb9).trans q2
 have r3 := (Hb4.out.cell (p := ⟨b9, off9 + b * 6 + 3, none⟩) hb9).trans q3
 have r4 := (Hb4.out.cell (p := ⟨b9, off9 + b * 6 + 4, none⟩) hb9).trans q4
 have r5 := (Hb4.out.cell (p := ⟨b9, off9 + b * 6 + 5, none⟩) hb9).trans q5
 have lb9 : b9 < w4.heap.size := by omega
 clear hF hgb hp hl ht q0 q1 q2 q3 q4 q5 hbk
 obtain ⟨W6, hW6⟩ : ∃ W6, W6 = w4.alloc (Obj.cells #[.slice Ap bk.phis.length cp, .slice Al bk.list.length cl, .int .i64 bk.end_.kind, .bool bk.end_.on.reg, .int .i64 bk.end_.on.n, .slice At bk.end_.to.length ct] 68) := ⟨_, rfl⟩
 have hb6 : Below w4.heap.size w4 W6 := by subst hW6; exact bl0
 have hX6 : W6.heap[w4.heap.size]? = some (.cells #[.slice Ap bk.phis.length cp, .slice Al bk.list.length cl, .int .i64 bk.end_.kind, .bool bk.end_.on.reg, .int .i64 bk.end_.on.n, .slice At bk.end_.to.length ct] 68 (0, 0)) := by subst hW6; exact heap_alloc_new _ _
 obtain ⟨BX, hBX⟩ : ∃ BX, BX = w4.heap.size := ⟨_, rfl⟩
 have HI6 : Hid (IntI g (rowW (namesTo f.blocks b ++ (bk.list.take 0).flatMap regsX) n) W5 W6) := Lib.hid (by simpa using HIr.out.below hb6)
 have HM6 := Lib.hid (HM.out.onto hb6)
 rw [← hBX] at hX6
 have HX6 := Lib.hid hX6
 have hBXl : W5.heap.size ≤ BX := by omega
 have HW6 := Lib.hid hW6.symm
 clear hb6 hX6 hW6
 obtain ⟨x0, x1, x2, x3, x4, x5⟩ := blk6_cells HX6.out
 have lX := blk_lt HX6.out
 go_upto_region 9 with fail
 rw [HW6.out, ← hBX]
 clear hBX r0 r1 r2 r3 r4 r5 lb9
 go_wp2
 clear x0 x1 x2 x3 x4 x5 lX
 refine wp_loop_lit (fun u => #[u 0, u 1, .pointer (some ⟨w.heap.size, 0, none⟩), u 3, u 4, .pointer (some ⟨w.heap.size + 1, 0, none⟩), u 6, .pointer (some ⟨g + 1, 0, none⟩), .pointer (some ⟨g + 2, 0, none⟩), u 9, .pointer (some ⟨BX, 0, none⟩), u 11, u 12, u 13, u 14, u 15, u 16, u 17, u 18, u 19, u 20, u 21, u 22, u 23, u 24, u 25, u 26, u 27, u 28, u 29, u 30, u 31, u 32, u 33, .slice (some ⟨b9, off9, none⟩) f.blocks.length c, .int .i64 (f.blocks.length : Int), .int .i64 (b : Int), u 37, u 38, u 39, u 40, .slice Al bk.list.length cl, .int .i64 (bk.list.length : Int), u 43, u 44, u 45, u 46, u 47, u 48, u 49, u 50, u 51, u 52, u 53, u 54, u 55, u 56, u 57, u 58, u 59, u 60, u 61, u 62, u 63, u 64, u 65, u 66, u 67, u 68, u 69, u 70, u 71])
  (fun gh u ds wr => ∃ j : Nat, j ≤ bk.list.length ∧ gh = bk.list.length - j ∧ u 43 = .int .i64 (j : Int) ∧ Hid (IntI g (rowW (namesTo f.blocks b ++ (bk.list.take j).flatMap regsX) n) W5 wr) ∧ Hid (wr.heap[BX]? = some (.cells #[.slice Ap bk.phis.length cp, .slice Al bk.list.length cl, .int .i64 bk.end_.kind, .bool bk.end_.on.reg, .int .i64 bk.end_.on.n, .slice At bk.end_.to.length ct] 68 (0, 0))) ∧ Hid (DMarks w.heap.size wr ds))
  bk.list.length rfl ?_ ?_
 ·exact ⟨0, Nat.zero_le _, rfl, rfl, HI6, HX6, HM6⟩
 intro gh2 us2 ds2 w7 hI2 K2 HK2
 obtain ⟨j, hjN, hgh2, h43, HI7, HX7, HM7⟩ := hI2
 dsimp only
 rw [h43]
 have Hgh2 := Lib.hid hgh2
 clear h43 hgh2 HI6 HX6 HM6
 have hz7 : W5.heap.size ≤ w7.heap.size := HI7.out.2.1.size
 have j1 : (0 : Int) ≤ (j : Int) := Int.natCast_nonneg _
 by_cases hltj : ¬ j < bk.list.length
 ·have hje : j = bk.list.length := by omega
  subst hje
  have j3 : ¬ ((bk.list.length : Int) < (bk.list.length : Int)) := by omega
  clear hltj
  rw [List.take_length] at HI7
  obtain ⟨x0, x1, x2, x3, x4, x5⟩ := blk6_cells HX7.out
  have lX := blk_lt HX7.out
  have hXo := HI7.out.2.2.blk HX5.out (by omega)
  have hQo := HI7.out.2.2.blk HQ5.out (by omega)
  have o0 : w7.cell? ⟨g + 2, 0, none⟩ = some (.func (.func 77) #[] #[.pointer (some ⟨g + 1, 0, none⟩)]) := by rw [blk_cells hQo]; rfl
  have lq := blk_lt hQo
  have HXo := Lib.hid hXo
  clear hXo hQo
  go_wp2_with fail
  refine cnt_calls _ n g (g + 1) bk.end_.on w7 HI7.out.1 HXo.out (by omega) Hon.out _ (fun w8 h1 h2 => ?_)
  rw [← Hstep.out] at h1
  have HI8 : Hid (IntI g (rowW (namesTo f.blocks (b + 1)) n) W5 w8) := Lib.hid ⟨h1, HI7.out.2.1.trans h2, HI7.out.2.2.trans (CKeep.of_grown h2)⟩
  have HM8 := Lib.hid (HM7.out.grown h2 (fun y h => by
   obtain ⟨A', h3, _⟩ := HI7.out.1
   rw [h3] at h
   cases h))
  clear h1 h2 x0 x1 x2 x3 x4 x5 lX o0 lq
  go_wp2
  refine HK.out (f.blocks.length - (b + 1)) _ _ _ (by have := Hgh.out; omega) ?_ ?_
  ·rfl
  ·exact ⟨b + 1, hlt, rfl, by go_num, HI8, HM8⟩
 have hltj := Decidable.of_not_not hltj
 have j3 : (j : Int) < (bk.list.length : Int) := by omega
 obtain ⟨x, hx⟩ : ∃ x, x = bk.list[j] := ⟨_, rfl⟩
 have Hix : Hid (InsOk u n x) := Lib.hid (Hin.out x (by rw [hx]; exact List.getElem_mem hltj))
 have Hst2 : Hid (namesTo f.blocks b ++ (bk.list.take (j + 1)).flatMap regsX = (namesTo f.blocks b ++ (bk.list.take j).flatMap regsX) ++ regsX x) := Lib.hid (by rw [insTo_step hltj, hx])
 have Hb7 : Hid (Below w.heap.size w w7) := Lib.hid (Hb5.out.grown HI7.out.2.1 hz5 (fun k e => by have := Option.some.inj e; have := Hg3.out; omega))
 obtain ⟨b8, off8, hA8, hb8, hva, q0, q1, q2, q3, q4, q5, q6, q7⟩ := HF.out j hltj
 subst hA8
 rw [← hx] at hva q0 q1 q2 q3 q4 q5 q6
 obtain ⟨Aj, cj, hFj, _, _, hva⟩ := hva.cases_
 rw [hFj] at q7
 have Hva := Lib.hid hva
 have hq : ∀ {o : Nat} {v : Value}, w.cell? ⟨b8, o, none⟩ = some v → w7.cell? ⟨b8, o, none⟩ = some v := fun {o v} h => (Hb7.out.cell (p := ⟨b8, o, none⟩) hb8).trans h
 have r0 := hq q0
 have r1 := hq q1
 have r2 := hq q2
 have r3 := hq q3
 have r4 := hq q4
 have r5 := hq q5
 have r6 := hq q6
 have r7 := hq q7
 have lb8 : b8 < w7.heap.size := by have := Hb7.out.size; omega
 have hd := Hix.out.dst
 clear hva q0 q1 q2 q3 q4 q5 q6 q7 hq hFj hx
 generalize namesTo f.blocks b ++ (bk.list.take j).flatMap regsX = Z at *
 obtain ⟨W8, hW8⟩ : ∃ W8, W8 = w7.alloc (Obj.cells #[.int .i64 x.op, .int .i64 x.dst, .bool x.a.reg, .int .i64 x.a.n, .bool x.b.reg, .int .i64 x.b.n, .int .i64 x.fn, .slice Aj x.args.length cj] 71) := ⟨_, rfl⟩
 obtain ⟨BI, hBI⟩ : ∃ BI, BI = w7.heap.size := ⟨_, rfl⟩
 have hb78 : Below w7.heap.size w7 W8 := by subst hW8; exact bl0
 have hv8 : W8.heap[BI]? = some (.cells #[.int .i64 x.op, .int .i64 x.dst, .bool x.a.reg, .int .i64 x.a.n, .bool x.b.reg, .int .i64 x.b.n, .int .i64 x.fn, .slice Aj x.args.length cj] 71 (0, 0)) := by subst hW8 hBI; exact heap_alloc_new _ _
 have HI8 := Lib.hid (HI7.out.below hb78)
 have HX8 := Lib.hid ((hb78.block _ (blk_lt HX7.out)).trans HX7.out)
 have HM8 := Lib.hid (HM7.out.onto hb78)
 have HV8 := Lib.hid hv8
 have HW8 := Lib.hid hW8.symm
 have hz8 := hb78.size
 have hBIg : g < BI ∧ w.heap.size ≤ BI ∧ BX < BI := by have := HI7.out.1.lt; have := blk_lt HX7.out; have := Hb7.out.size; omega
 have HBIg := Lib.hid hBIg
 clear hb78 hv8 hW8 hBIg HI7 HX7 HM7
 have y1 : W8.cell? ⟨BI, 1, none⟩ = some (.int .i64 x.dst) := by rw [blk_cells HV8.out]; rfl
 have lI := blk_lt HV8.out
 go_upto_region 12 with fail
 rw [HW8.out, ← hBI]
 clear hBI r0 r1 r2 r3 r4 r5 r6 r7 lb8
 go_upto_if 49 with fail
 go_cut [] from 49 to 56 (fun wx => IntI g (rowW (Z ++ (if 0 ≤ x.dst then [x.dst] else [])) n) W5 wx ∧ wx.heap[BI]? = some (.cells #[.int .i64 x.op, .int .i64 x.dst, .bool x.a.reg, .int .i64 x.a.n, .bool x.b.reg, .int .i64 x.b.n, .int .i64 x.fn, .slice Aj x.args.length cj] 71 (0, 0)) ∧ wx.heap[BX]? = some (.cells #[.slice Ap bk.phis.length cp, .slice (some ⟨b8, off8, none⟩) bk.list.length cl, .int .i64 bk.end_.kind, .bool bk.end_.on.reg, .int .i64 bk.end_.on.n, .slice At bk.end_.to.length ct] 68 (0, 0)) ∧ DMarks w.heap.size wx ds2)
 case first =>
  by_cases hd0 : 0 ≤ x.dst
  ·have hdd : x.dst = ((x.dst.toNat : Nat) : Int) := by omega
   have hdn : x.dst.toNat < n := by omega
   have hfin : ∀ q, cntW Z x.dst = q → (IntI g (rowW (Z ++ (if 0 ≤ x.dst then [x.dst] else [])) n) W5 (W8.setCell ⟨g, x.dst.toNat, none⟩ (.int .i64 (wrap64 (q + 1)))) ∧ (W8.setCell ⟨g, x.dst.toNat, none⟩ (.int .i64 (wrap64 (q + 1)))).heap[BI]? = some (.cells #[.int .i64 x.op, .int .i64 x.dst, .bool x.a.reg, .int .i64 x.a.n, .bool x.b.reg, .int .i64 x.b.n, .int .i64 x.fn, .slice Aj x.args.length cj] 71 (0, 0)) ∧ (W8.setCell ⟨g, x.dst.toNat, none⟩ (.int .i64 (wrap64 (q + 1)))).heap[BX]? = some (.cells #[.slice Ap bk.phis.length cp, .slice (some ⟨b8, off8, none⟩) bk.list.length cl, .int .i64 bk.end_.kind, .bool bk.end_.on.reg, .int .i64 bk.end_.on.n, .slice At bk.end_.to.length ct] 68 (0, 0)) ∧ DMarks w.heap.size (W8.setCell ⟨g, x.dst.toNat, none⟩ (.int .i64 (wrap64 (q + 1)))) ds2) := fun q hq => by
    have hgs := grown_setCell W8 ⟨g, x.dst.toNat, none⟩ (.int .i64 (wrap64 (q + 1)))
    refine ⟨⟨?_, HI8.out.2.1.trans hgs, HI8.out.2.2.trans (CKeep.of_grown hgs)⟩, (Below.heap_setCell _ _ _ _ (by have := HBIg.out; show BI ≠ g; omega)).trans HV8.out, (Below.heap_setCell _ _ _ _ (by have := HI5.out.lt; show BX ≠ g; omega)).trans HX8.out, HM8.out.grown hgs (fun y h => by
     obtain ⟨A, h1, _⟩ := HI8.out.1
     rw [h1] at h
     cases h)⟩
    have e := rowW_snoc (l := Z) hdn
    rw [← hdd] at e
    rw [if_pos hd0, e, hq]
    exact HI8.out.1.set x.dst.toNat (wrap64 (q + 1))
   have c0 := HI8.out.1.cell (k := x.dst.toNat) (by rw [rowW_len]; exact hdn)
   rw [rowW_at hdn, ← hdd] at c0
   have f0 := HI8.out.1.frozen x.dst.toNat
   have lg := HI8.out.1.lt
   have hXo := HI8.out.2.2.blk HX5.out (by omega)
   have o0 : W8.cell? ⟨g + 1, 0, none⟩ = some (.slice (some ⟨g, 0, none⟩) n n) := by rw [blk_cells hXo]; rfl
   have lo := blk_lt hXo
   obtain ⟨q, hq⟩ : ∃ q, cntW Z x.dst = q := ⟨_, rfl⟩
   have Hfin := Lib.hid (hfin q hq)
   rw [hq] at c0
   have k6 : x.dst < (n : Int) := by omega
   clear hfin hq hXo hdd
   go_wp2
   go_meet
   exact Hfin.out
  ·have Hnd := Lib.hid hd0
   go_wp2
   go_meet
   exact ⟨by rw [if_neg (by have := Hnd.out; omega), List.append_nil]; exact HI8.out, HV8.out, HX8.out, HM8.out⟩
 case rest =>
  obtain ⟨hI9, hV9, hX9, hM9⟩ := hcut
  rename World => w9
  have hcI : ∀ k v, (insC x (.slice Aj x.args.length cj))[k]? = some v → w9.cell? ⟨BI, k, none⟩ = some v := fun k v h => by rw [blk_cells hV9]; exact h
  have z0 : w9.cell? ⟨BI, 0, none⟩ = some (.int .i64 x.op) := hcI 0 _ rfl
  have z1 : w9.cell? ⟨BI, 1, none⟩ = some (.int .i64 x.dst) := hcI 1 _ rfl
  have z2 : w9.cell? ⟨BI, 2, none⟩ = some (.bool x.a.reg) := hcI 2 _ rfl
  have z3 : w9.cell? ⟨BI, 3, none⟩ = some (.int .i64 x.a.n) := hcI 3 _ rfl
  have z4 : w9.cell? ⟨BI, 4, none⟩ = some (.bool x.b.reg) := hcI 4 _ rfl
  have z5 : w9.cell? ⟨BI, 5, none⟩ = some (.int .i64 x.b.n) := hcI 5 _ rfl
  have z6 : w9.cell? ⟨BI, 6, none⟩ = some (.int .i64 x.fn) := hcI 6 _ rfl
  have z7 : w9.cell? ⟨BI, 7, none⟩ = some (.slice Aj x.args.length cj) := hcI 7 _ rfl
  have lI9 := blk_lt hV9
  have HI9 := Lib.hid hI9
  have HV9 := Lib.hid hV9
  have HX9 := Lib.hid hX9
  have HM9 := Lib.hid hM9
  clear hI9 hV9 hX9 hM9 hcI y1 lI
  go_wp2_with fail
  refine Vals_calls x Aj x.args.length cj _ _ ?_
  clear z0 z1 z2 z3 z4 z5 z6 z7 lI9
  go_wp2
  obtain ⟨W11, hW11⟩ : ∃ W11, W11 = w9.alloc (Obj.cells #[.int .i64 x.op, .int .i64 x.dst, .bool x.a.reg, .int .i64 x.a.n, .bool x.b.reg, .int .i64 x.b.n, .int .i64 x.fn, .slice Aj x.args.length cj] 71) := ⟨_, rfl⟩
  have hb11 : Below w9.heap.size w9 W11 := by subst hW11; exact bl0
  have hbx11 : W11.heap[w9.heap.size]? = some (.cells #[.int .i64 x.op, .int .i64 x.dst, .bool x.a.reg, .int .i64 x.a.n, .bool x.b.reg, .int .i64 x.b.n, .int .i64 x.fn, .slice Aj x.args.length cj] 71 (0, 0)) := by subst hW11; exact heap_alloc_new _ _
  have hs11 := hb11.size
  have HI11 := Lib.hid (HI9.out.below hb11)
  have HX11 := Lib.hid ((hb11.block _ (blk_lt HX9.out)).trans HX9.out)
  have HM11 := Lib.hid (HM9.out.onto hb11)
  have hg9 := HI9.out.1.lt
  have Hb11 : Hid (Below w.heap.size w W11) := Lib.hid (Hb5.out.grown HI11.out.2.1 hz5 (fun k e => by have := Option.some.inj e; have := Hg3.out; omega))
  have hVN : ValsNeed x (.slice Aj x.args.length cj) w9.heap.size w.heap.size g W11 := ⟨hbx11, Hva.out.below Hb11.out, by omega, by have := Hg3.out; omega, by omega⟩
  have HVN := Lib.hid hVN
  have HWS : Hid (W5.heap.size ≤ W11.heap.size) := Lib.hid HI11.out.2.1.size
  rw [← hW11]
  clear hW11 hb11 hbx11 hVN
  obtain ⟨Z1, hZ1⟩ : ∃ Z1, Z1 = Z ++ (if 0 ≤ x.dst then [x.dst] else []) := ⟨_, rfl⟩
  rw [← hZ1] at HI11
  have Hst3 : Hid (namesTo f.blocks b ++ (bk.list.take (j + 1)).flatMap regsX = Z1 ++ regsV (valsOf x)) := Lib.hid (by rw [Hst2.out, hZ1]; unfold regsX; rw [List.append_assoc])
  have HX11' := HI11.out.2.2.blk HX5.out (by omega)
  have HQ11' := HI11.out.2.2.blk HQ5.out (by omega)
  clear hZ1 Hst2 HI9 HV9 HX9 HM9 HI8 HX8 HM8 HV8 HW8
  refine (wpIn_wide (n := 7)).1 ?_
  refine wpIn_rangeFunc_ownH (F := Fence.wide) rfl (by decide) (gf := 100) (lb := #[.pointer (some ⟨w9.heap.size, 0, none⟩)]) rfl trivial (enters_of Tryz.func100 (by kernel_rfl) rfl)
   (Vals_stops 6 (by decide) w9.heap.size w.heap.size g x (.slice Aj x.args.length cj) W11 HVN.out) (fun h k => h.trans k) (fun W l o o' _ h1 h2 _ => CKeep.putObj W l o o' h1 h2) (Below.refl _ _) (fun _ => rfl)
   (fun (pre : List (VX x)) (W : World) => IntI g (rowW (Z1 ++ regsV (pre.map (·.1))) n) W11 W ∧ W.heap[g + 1]? = some (.cells #[.slice (some ⟨g, 0, none⟩) n n] 26 (0, 0)) ∧ W.heap[g + 2]? = some (.cells #[.func (.func 77) #[] #[.pointer (some ⟨g + 1, 0, none⟩)]] 121 (0, 0)))
   (fun _ _ _ => False)
   (OwnFrom.and (intI_own (f := fun pre : List (VX x) => rowW (Z1 ++ regsV (pre.map (·.1))) n) (Nat.le_refl _)) (OwnFrom.and (blk_own _ _ _ _ _) (blk_own _ _ _ _ _))) (fun _ _ _ _ _ hs _ _ => hs) ⟨by simpa [regsV] using ⟨HI11.out.1, grown_self _ _, CKeep.refl _ _⟩, HX11', HQ11'⟩
   (fun (v : VX x) (a' : Act) (W : World) => ∃ Bv, W.heap[Bv]? = some (Obj.cells #[.bool v.1.reg, .int .i64 v.1.n] 64 ((0, 0) : Nat × Nat)) ∧ a' = { tmps := #[us2 0, us2 1, .pointer (some ⟨w.heap.size, 0, none⟩), us2 3, us2 4, .pointer (some ⟨w.heap.size + 1, 0, none⟩), us2 6, .pointer (some ⟨g + 1, 0, none⟩), .pointer (some ⟨g + 2, 0, none⟩), us2 9, .pointer (some ⟨BX, 0, none⟩), us2 11, .pointer (some ⟨BI, 0, none⟩), .pointer (some ⟨Bv, 0, none⟩), us2 14, us2 15, us2 16, us2 17, us2 18, us2 19, us2 20, us2 21, us2 22, us2 23, us2 24, us2 25, us2 26, us2 27, us2 28, us2 29, us2 30, us2 31, us2 32, us2 33, .slice (some ⟨b9, off9, none⟩) f.blocks.length c, .int .i64 (f.blocks.length : Int), .int .i64 (b : Int), us2 37, us2 38, us2 39, us2 40, .slice (some ⟨b8, off8, none⟩) bk.list.length cl, .int .i64 (bk.list.length : Int), .int .i64 (j : Int), .bool true, .pointer (some ⟨b8, off8 + j * 8, none⟩), .agg #[.int .i64 x.op, .int .i64 x.dst, .bool x.a.reg, .int .i64 x.a.n, .bool x.b.reg, .int .i64 x.b.n, .int .i64 x.fn, .slice Aj x.args.length cj], .pointer (some ⟨BI, 1, none⟩), .int .i64 x.dst, u49, u50, u51, u52, u53, u54, u55, u56, .agg #[.int .i64 x.op, .int .i64 x.dst, .bool x.a.reg, .int .i64 x.a.n, .bool x.b.reg, .int .i64 x.b.n, .int .i64 x.fn, .slice Aj x.args.length cj], .func (.func 100) #[] #[.pointer (some ⟨w9.heap.size, 0, none⟩)], .agg #[.bool v.1.reg, .int .i64 v.1.n], us2 60, us2 61, us2 62, us2 63, us2 64, us2 65, us2 66, us2 67, us2 68, us2 69, us2 70, us2 71], defers := [] })
   (fun (v : VX x) a' s X Y row hs hg hr => by obtain ⟨Bv, h1, h2⟩ := hs; exact ⟨Bv, blk_own Bv #[.bool v.1.reg, .int .i64 v.1.n] 64 (0, 0) W11.heap.size () X Y row h1 hg hr, h2⟩) ?assign ?body ?done ?stop
  case assign =>
   rintro l pre v W K9 ⟨hI, hB, hQ⟩ hK
   unfold encV
   gi_wp2
   exact hK _ _ ((KeepsOthers.alloc _ _).from _) (CKeep.of_below ((Below.refl W.heap.size W).alloc (Nat.le_refl _) _)) ⟨hI.alloc _, blk_alloc hB _, blk_alloc hQ _⟩ ⟨W.heap.size, heap_alloc_new _ _, rfl⟩
  case body =>
   rintro l pre v a' W hl ⟨r, hr⟩ ⟨hI, hB, hQ⟩ ⟨Bv, hv, rfl⟩ hlen
   obtain ⟨v0, v1⟩ := cells_blk hv
   have lv := blk_lt hv
   have o0 : W.cell? ⟨g + 2, 0, none⟩ = some (.func (.func 77) #[] #[.pointer (some ⟨g + 1, 0, none⟩)]) := by rw [blk_cells hQ]; rfl
   have lq := blk_lt hQ
   have HIv := Lib.hid hI
   have HBv := Lib.hid hB
   have HQv := Lib.hid hQ
   have Hvo := Lib.hid (valsOf_ok Hix.out v.1 v.2)
   clear hI hB hQ hv
   gi_wp2_with fail
   refine ⟨trivial, CallsIn.inRound l (callsIn_wide.2 (cnt_calls (Z1 ++ regsV (pre.map (·.1))) n g (g + 1) v.1 W HIv.out.1 HBv.out (by omega) Hvo.out _ (fun w2' h1 h2 => ?_)))⟩
   have h3 := CKeep.of_grown h2
   have hI2 : IntI g (rowW (Z1 ++ regsV ((pre ++ [v]).map (·.1))) n) W11 w2' := ⟨by rw [List.map_append, regsV_append, ← List.append_assoc]; exact h1, HIv.out.2.1.trans h2, HIv.out.2.2.trans h3⟩
   have hB2 := h3.blk HBv.out (by omega)
   have hQ2 := h3.blk HQv.out (by omega)
   have hKF : KeepsFrom W11.heap.size W w2' := KeepsFrom.of_grownBy h2 (fun j e => by cases e; have := HI11.out.1.lt; omega)
   gi_wp2
   exact ⟨hKF, h3, hI2, hB2, hQ2⟩
  case done =>
   rintro D ys W hD hys ⟨hI, hB, hQ⟩ hK
   have hys' : ys.map (·.1) = valsOf x := hys
   rw [hys', ← Hst3.out] at hI
   have hI2 : IntI g (rowW (namesTo f.blocks b ++ (bk.list.take (j + 1)).flatMap regsX) n) W5 W := ⟨hI.1, HI11.out.2.1.trans hI.2.1, HI11.out.2.2.trans hI.2.2⟩
   have hX2 := hI.2.2.blk HX11.out (by have := HI5.out.lt; omega)
   have hM2 : DMarks w.heap.size W ({ target := .collected D, args := #[] } :: ds2) := DMarks.push HM11.out (HM11.out.grown hI.2.1 (fun y h => by
    obtain ⟨A', h1, _⟩ := HI11.out.1
    rw [h1] at h
    cases h)) (by have := Hb11.out.size; omega) hD hK
   have HI2' := Lib.hid hI2
   have HX2 := Lib.hid hX2
   have HM2 := Lib.hid hM2
   clear hI hB hQ hK hys hys' hI2 hX2 hM2
   go_wp2
   refine HK2.out (bk.list.length - (j + 1)) _ _ _ (by have := Hgh2.out; omega) ?_ ?_
   ·rfl
   ·exact ⟨j + 1, hltj, rfl, by go_num, HI2', HX2, HM2⟩
  case stop =>
   rintro D c pre W _ _ h _
   exact h.elim
end Go.Proofs.YtdanebboiekieaaGreatDoor
