/- FrameFits: the frame that is told fits. -/
import Derived.Test.YtdanebboiekieaaGreatDoorQ42
import Derived.Test.YtdanebboiekieaaGreatDoorQ01
import Derived.Test.YtdanebboiekieaaGreatDoorRows
import Derived.IntWalk
import Derived.BigRegion
import Derived.Deep.QuietTactic
import Derived.BigQuiet
import Derived.Outline
import Derived.Deep.LoopGhost
import Derived.Deep.RegionLaw
import Derived.Deep.RegionHeld3
import Derived.Deep.CutBlock
import Derived.Deep.DeepCutAuto
namespace Go.Proofs.YtdanebboiekieaaGreatDoor
open Go.RowKit
set_option linter.unusedSimpArgs false
set_option linter.unusedVariables false

set_option maxRecDepth 100000 in
set_option maxHeartbeats 8000000 in
theorem FrameFits_calls {u : Unt} (hu : UntI u) (k many : Int) (hmn : I64 many) (gA fA : Option Addr) (gn gc fn fc : Nat) (w : World) (hW : Ways w) (hg : rpGlobal.SL w w.heap.size u.globals (.slice gA gn gc)) (hf : rpFun.SL w w.heap.size u.funcs (.slice fA fn fc)) (R : Ending → World → Prop)
 (hR : ∀ w', Below w.heap.size w w' → R (.returned (.bool true)) w') :
 Calls Tryz.prog 4 #[.agg #[.slice gA gn gc, .slice fA fn fc], .int .i64 k, .int .i64 many] w R := by
 obtain ⟨m, hm⟩ : ∃ m, m = 2 + many % 13 := ⟨_, rfl⟩
 have hm1 := Int.emod_nonneg many (show (13 : Int) ≠ 0 by decide)
 have hm2 := Int.emod_lt_of_pos many (show (0 : Int) < 13 by decide)
 have hm14 : 2 ≤ m ∧ m ≤ 14 := by omega
 obtain ⟨pl, fl, hc⟩ := colIs_ex u k m
 have HF := Lib.hid (fits hc)
 have HC := Lib.hid hc
 have HR := Lib.hid hR
 have Hg := Lib.hid hg
 have Hf := Lib.hid hf
 have HW := Lib.hid hW
 have Hmn := Lib.hid hmn
 have Hm14 := Lib.hid hm14
 have Hm := Lib.hid hm
 have ewm : IntKind.i64.wrap (2 + many % 13) = m := (IntWalk.i64_in _ (by omega)).trans hm.symm
 clear hR hg hf hW hmn hc hm hm1 hm2 hm14
 go_enter Tryz.func4, Tryz.ntmps4
 go_upto_region 1 with fail
 obtain ⟨W1, hW1⟩ : ∃ W1, W1 = w.alloc (Obj.cells #[.slice gA gn gc, .slice fA fn fc] 25) := ⟨_, rfl⟩
 have hb1 : Below w.heap.size w W1 := by subst hW1; exact bl0
 have hU1 : W1.heap[w.heap.size]? = some (.cells #[.slice gA gn gc, .slice fA fn fc] 25 (0, 0)) := by subst hW1; exact heap_alloc_new _ _
 rw [← hW1]
 have Hb1 := Lib.hid hb1
 have HU1 := Lib.hid hU1
 have hz1 := hb1.size
 clear hW1 hb1 hU1
 go_wp2_with fail
 have hI6 : IntAt W1.heap.size [6] (W1.alloc (Obj.cells #[.int .i64 6] 3)) := ⟨_, heap_alloc_new _ _, fun j hj => by
  have e : j = 0 := by simp at hj; exact hj
  subst e
  rfl⟩
 refine Leave_good 0 _ [6] _ (hI6.SLn ⟨by decide, by decide⟩) (by decide) (by decide) (by decide) (by decide) _ (fun w2 v2 hb2 ho2 => ?_)
 clear hI6
 obtain ⟨lA, lc, hl2⟩ : ∃ A c, v2 = .slice A 2 c := own_slice ho2
 subst hl2
 have hz0 : w.heap.size ≤ (W1.alloc (Obj.cells #[.int .i64 6] 3)).heap.size := by simp; omega
 have Hb2 := Lib.hid ((Hb1.out.alloc hz1 (Obj.cells #[.int .i64 6] 3)).trans (hb2.mono hz0))
 have HU2 := Lib.hid ((hb2.block w.heap.size (by have := blk_lt HU1.out; simp; omega)).trans (blk_alloc HU1.out (Obj.cells #[.int .i64 6] 3)))
 have hz2 := Hb2.out.size
 clear hb2 ho2 hz0
 obtain ⟨E, hE⟩ : ∃ E, E = w2.heap.size := ⟨_, rfl⟩
 obtain ⟨W3, hW3⟩ : ∃ W3, W3 = w2.alloc (Obj.cells #[.int .i64 0, .int .i64 0] 30) := ⟨_, rfl⟩
 have hb23 : Below w2.heap.size w2 W3 := by subst hW3; exact bl0
 have hE3 : W3.heap[E]? = some (.cells #[.int .i64 0, .int .i64 0] 30 (0, 0)) := by subst hW3 hE; exact heap_alloc_new _ _
 have Hb3 := Lib.hid (Hb2.out.trans (hb23.mono hz2))
 have HU3 := Lib.hid ((hb23.block _ (blk_lt HU2.out)).trans HU2.out)
 have HW3 := Lib.hid hW3.symm
 have HEe := Lib.hid hE
 have hz3 := Hb3.out.size
 obtain ⟨e0, e1⟩ := cells_blk hE3
 have lE := blk_lt hE3
 obtain ⟨u0, u1⟩ := cells_blk HU3.out
 have lU := blk_lt HU3.out
 clear hW3 hb23 hE3 hE HU2 HU1 Hb2 Hb1
 go_upto_region 2 with fail
 rw [← HEe.out, HW3.out]
 go_wp2_with fail
 refine Picked_calls many 13 (by decide) (by decide) Hmn.out _ _ ?_
 go_wp2_with fail
 refine FrameOf_calls hu HC.out _ _ _ _ _ _ _ (HW.out.up Hb3.out HW.out.1) (Hg.out.up Hb3.out hz3) (Hf.out.up Hb3.out hz3) _ (fun w5 vs hb5 ho5 => ?_)
 obtain ⟨sA, sc, hvs⟩ := own_slice ho5
 subst hvs
 obtain ⟨⟨c, a⟩, hca⟩ : ∃ p, p = fl := ⟨_, rfl⟩
 have HF0 := HF.out
 rw [← hca] at HF0 ⊢
 obtain ⟨s, hs⟩ : ∃ s, s = spillsP pl := ⟨_, rfl⟩
 obtain ⟨S, hS⟩ : ∃ S, S = savesP pl := ⟨_, rfl⟩
 rw [← hs, ← hS] at HF0
 rw [← hS] at ho5
 rw [← hs, ← hS]
 have HFt := Lib.hid HF0
 clear hca HC HF HF0 hs hS
 dsimp only
 obtain ⟨F, hF⟩ : ∃ F, F = w5.heap.size := ⟨_, rfl⟩
 obtain ⟨W6, hW6⟩ : ∃ W6, W6 = (w5.alloc (Obj.cells #[.int .i64 s, .slice sA S.length sc] 28)).alloc (Obj.cells #[.int .i64 c, .int .i64 a] 30) := ⟨_, rfl⟩
 have hb56 : Below w5.heap.size w5 W6 := by subst hW6; exact bl0
 have hF6 : W6.heap[F]? = some (.cells #[.int .i64 s, .slice sA S.length sc] 28 (0, 0)) := by subst hW6 hF; exact blk_alloc (heap_alloc_new _ _) _
 have hG6 : W6.heap[F + 1]? = some (.cells #[.int .i64 c, .int .i64 a] 30 (0, 0)) := by
  subst hW6 hF
  have := heap_alloc_new (w5.alloc (Obj.cells #[.int .i64 s, .slice sA S.length sc] 28)) (Obj.cells #[.int .i64 c, .int .i64 a] 30)
  simpa using this
 have Hb6 := Lib.hid (Hb3.out.trans ((hb5.trans (hb56.mono hb5.size)).mono hz3))
 have HO6 := Lib.hid (own_below ho5 hb56)
 have HF6 := Lib.hid hF6
 have HW6 := Lib.hid hW6.symm
 have HFe := Lib.hid hF
 obtain ⟨f0, f1⟩ := cells_blk hF6
 have lF := blk_lt hF6
 obtain ⟨g0, g1⟩ := cells_blk hG6
 have lG := blk_lt hG6
 have hz6 := Hb6.out.size
 clear hb5 ho5 hb56 hF6 hG6 hW6 hF e0 e1 lE u0 u1 lU HW3 HEe HU3
 go_upto_region 6 with fail
 rw [← HFe.out, HW6.out]
 rcases HFt.out.bad with h0 | ⟨h0, h1, h2⟩
 ·injection h0 with h0 h1
  subst h0 h1
  obtain ⟨hs0, hs1⟩ := HFt.out.spills
  have hl8 := HFt.out.len
  go_wp2
  go_loopg [12] S.length (fun gh s12 wr => ∃ i : Nat, i ≤ S.length ∧ gh = S.length - i ∧ s12 = .int .i64 (i : Int) ∧ Hid (Below W6.heap.size W6 wr))
  case atStart => exact ⟨0, Nat.zero_le _, rfl, rfl, Lib.hid (Below.refl _ _)⟩
  case round =>
   clear f0 f1 lF g0 g1 lG
   obtain ⟨i, hi, rfl, rfl, Hb⟩ := hrel
   have hFr := (Hb.out.block _ (blk_lt HF6.out)).trans HF6.out
   obtain ⟨f0, f1⟩ := cells_blk hFr
   have lF := blk_lt hFr
   have hzr := Hb.out.size
   have i1 : (0 : Int) ≤ (i : Int) := Int.natCast_nonneg _
   clear hFr
   by_cases hlt : i < S.length
   ·have i2 : (i : Int) < (S.length : Int) := by omega
    have hOr := own_below HO6.out Hb.out
    obtain ⟨gs, cap, hgs, hg1, hg2, hg3, hg4⟩ := own_some hOr (by omega)
    injection hgs with t1 t2 t3
    subst t1 t3
    have hI := (own_intAt hOr).1
    have ci := hI.cell hlt
    have lgs := hI.lt
    obtain ⟨hgv, h6, h14⟩ := HFt.out.at_ hlt
    have Hgv := Lib.hid hgv
    have hn6 : ¬ iAt S i < 6 := by omega
    have hnx : 0 < i → iAt S (i - 1) < iAt S i ∧ wr.cell? ⟨gs, i - 1, none⟩ = some (.int .i64 (iAt S (i - 1))) := fun h => by
     have h1 := HFt.out.next (i := i - 1) (by omega)
     rw [Nat.sub_add_cancel h] at h1
     exact ⟨h1, hI.cell (by omega)⟩
    obtain ⟨x, hx⟩ : ∃ x, x = iAt S i := ⟨_, rfl⟩
    rw [← hx] at ci Hgv hn6 hnx
    have Hgc : Hid (∀ w : World, Calls Tryz.prog 12 #[.int .i64 m, .int .i64 x] w fun e w' => e = .returned (.bool true) ∧ w' = w) := Lib.hid fun w => GivenR_calls m Hm14.out x w _ (by rw [Hgv.out]; exact ⟨rfl, rfl⟩)
    have d6 : decide (x < 6) = false := decide_eq_false hn6
    clear hI hOr h14 h6 hx hgv hn6
    by_cases h0 : i = 0
    ·have n0 : decide (0 < i) = false := decide_eq_false (by omega)
     clear hnx h0
     go_upto_region 11 with fail
     go_quiet ((go_at_call 12; exact Calls.quiet_of_same (Hgc.out _)))
     have Hbq := Lib.hid (below_drewN Hb.out nq)
     go_wp2
     go_roundg (S.length - (i + 1))
     case measure => omega
     case rel => exact ⟨i + 1, hlt, rfl, by go_num, Hbq⟩
    ·obtain ⟨j, hj⟩ : ∃ j, j = i - 1 := ⟨_, rfl⟩
     have n0 : decide (0 < i) = true := decide_eq_true (by omega)
     obtain ⟨hyx, cj⟩ := hnx (by omega)
     rw [← hj] at hyx cj
     obtain ⟨y, hy⟩ : ∃ y, y = iAt S j := ⟨_, rfl⟩
     rw [← hy] at hyx cj
     have j1 : (0 : Int) ≤ (j : Int) := Int.natCast_nonneg _
     have j2 : (j : Int) < (S.length : Int) := by omega
     have ej : IntKind.i64.wrap ((i : Int) - 1) = (j : Int) := (IntWalk.i64_in _ (by omega)).trans (by omega)
     have hyn : decide (y ≥ x) = false := decide_eq_false (by omega)
     clear hnx h0 hy hj hyx
     go_upto_region 11 with fail
     go_quiet ((go_at_call 12; exact Calls.quiet_of_same (Hgc.out _)))
     have Hbq := Lib.hid (below_drewN Hb.out nq)
     clear ej
     go_wp2
     go_roundg (S.length - (i + 1))
     case measure => omega
     case rel => exact ⟨i + 1, hlt, rfl, by go_num, Hbq⟩
   ·obtain rfl : i = S.length := by omega
    have i2 : ¬ (S.length : Int) < (S.length : Int) := by omega
    have hge : s ≥ 0 := hs0
    have ews : IntKind.i64.wrap (s + (S.length : Int)) = s + (S.length : Int) := IntWalk.i64_in _ (by omega)
    have hle : s + (S.length : Int) ≤ 120 := by omega
    have Hbz := Lib.hid (Hb6.out.trans (Hb.out.mono hz6))
    go_wp2
    exact HR.out _ Hbz.out
 ·subst h1 h2
  have hc : ¬ c = 0 := h0
  clear h0
  go_wp2
  exact HR.out _ Hb6.out
end Go.Proofs.YtdanebboiekieaaGreatDoor
