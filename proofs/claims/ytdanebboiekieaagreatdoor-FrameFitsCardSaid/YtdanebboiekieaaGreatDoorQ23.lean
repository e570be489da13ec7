/- clash.Of's closures, walked. clash.Of's second closure; clash.Across's. clash.Across's closure. clash.Of, clash.Across plainly: what their closures come to, over all instructions. -/
import Derived.Test.YtdanebboiekieaaGreatDoorQ22
import Derived.Test.YtdanebboiekieaaGreatDoorQ01
import Derived.Test.YtdanebboiekieaaGreatDoorRows
import Derived.IntWalk
import Derived.Outline
import Derived.Deep.LoopGhost
import Derived.Deep.CutBlock
import Derived.Deep.DeepCutAuto
import Derived.Maps.OwnIn
namespace Go.Proofs.YtdanebboiekieaaGreatDoor
open Go.RowKit
set_option linter.unusedSimpArgs false
set_option linter.unusedVariables false
open Go.Maps Go.WideShapes Go.MapKept Go.ChangeMaps Go.ChangeShapes

def clashS (σ : Int → Int → Bool) (a b : Int) : Int → Int → Bool := fun i j => σ i j || (!decide (a = b) && ((decide (i = a) && decide (j = b)) || (decide (i = b) && decide (j = a))))
/-- The sets of clash.Of, in memory. -/
structure JO (n b0 n0 g c sb cb : Nat) (ms : Nat → Nat) (σ : Int → Int → Bool) (W : World) : Prop where
 box : W.cell? ⟨sb, 0, none⟩ = some (.slice (some ⟨g, 0, none⟩) n c)
 cbox : W.cell? ⟨cb, 0, none⟩ = some (.func (.func 72) #[] #[.pointer (some ⟨sb, 0, none⟩)])
 row : ∀ k, k < n → W.cell? ⟨g, k, none⟩ = some (.map (some (ms k)))
 sets : ∀ k, k < n → SetM W (ms k) (σ (k : Int))
 inj : ∀ j k, j < n → k < n → ms j = ms k → j = k
 lo : sb < n0 ∧ g < n0 ∧ cb < n0 ∧ n0 ≤ W.heap.size ∧ ∀ k, k < n → b0 ≤ ms k ∧ ms k < n0
theorem JO.below {n b0 n0 g c sb cb : Nat} {ms : Nat → Nat} {σ : Int → Int → Bool} {W W' : World} (h : JO n b0 n0 g c sb cb ms σ W) (hb : Below n0 W W') : JO n b0 n0 g c sb cb ms σ W' := by
 obtain ⟨h1, h2, h3, h4, h5⟩ := h.lo
 exact ⟨(hb.cell (p := ⟨sb, 0, none⟩) h1).trans h.box, (hb.cell (p := ⟨cb, 0, none⟩) h3).trans h.cbox, fun k hk => (hb.cell (p := ⟨g, k, none⟩) h2).trans (h.row k hk), fun k hk => (h.sets k hk).block (hb.block _ (h5 k hk).2), h.inj, h1, h2, h3, Nat.le_trans h4 hb.size, h5⟩
set_option maxRecDepth 100000 in
set_option maxHeartbeats 4000000 in
theorem of1_calls (n b0 n0 g c sb cb : Nat) (ms : Nat → Nat) (σ : Int → Int → Bool) (a b : Nat) (W : World) (h : JO n b0 n0 g c sb cb ms σ W) (ha : a < n) (hb : b < n) (hn : n ≤ 100) (R : Ending → World → Prop)
 (hR : ∀ W', JO n b0 n0 g c sb cb ms (clashS σ a b) W' → Mid b0 n0 W W' → CKeepA W W' → R (.returned (.tuple #[])) W') :
 Calls Tryz.prog 72 #[.int .i64 (a : Int), .int .i64 (b : Int), .pointer (some ⟨sb, 0, none⟩)] W R := by
 have HR := Lib.hid hR
 have H := Lib.hid h
 have H' := H
 clear hR h
 by_cases hab : a = b
 ·subst hab
  have he : clashS σ (a : Int) (a : Int) = σ := by
   funext i j
   simp [clashS]
  rw [he] at HR
  clear he
  go_enter Tryz.func72, Tryz.ntmps72
  go_wp2
  refine bodyPost_ret (results_none rfl _ _ _) rfl ?_
  exact HR.out _ H.out (Grew.refl _ _) (CKeepA.refl _)
 ·have hab2 : ¬ (a : Int) = (b : Int) := by omega
  have hne : ((a : Int) == (b : Int)) = false := by simpa using hab2
  obtain ⟨C, hC⟩ : ∃ C : ROC, C = ⟨W, .slice (some ⟨g, 0, none⟩) n c, g, 0, n, c, a, b, ms a, ms b, σ a, σ b, sb, rfl, H.out.box, ha, hb, hn, by rw [Nat.zero_add]; exact H.out.row a ha, by rw [Nat.zero_add]; exact H.out.row b hb, fun e => hab (H.out.inj a b ha hb e)⟩ := ⟨_, rfl⟩
  have HC := Lib.hid hC
  go_enter Tryz.func72, Tryz.ntmps72
  go_upto_region 1 with fail
  refine reg_inv (by kernel_rfl) ROS (RO C) (edges_ok (by decide +kernel)) (by simp [ROS]) (guards_ok (by decide +kernel)) ?start ?step ?stop
  case start =>
   subst hC
   exact ⟨⟨rfl, rfl, rfl, Nat.le_refl _, fun _ _ _ => rfl⟩, ⟨Nat.le_refl _, fun _ _ h _ => h⟩, H.out.sets a ha, H.out.sets b hb, (fun h => by cases h), (fun h => by cases h), (fun h => by cases h), (fun h => by cases h), (fun h => by cases h), (fun h => by cases h), (fun h => by cases h), (fun h => by cases h), (fun h => by cases h), (fun h => by cases h), (fun h => by cases h), (fun h => by cases h), (fun h => by cases h), (fun h => by cases h), (fun h => by cases h), (fun h => by cases h), fun _ => rfl, fun _ => rfl⟩
  case step =>
   rintro d a' w' i o ho hd hall hag H
   have hi18 : i < 18 := (Array.getElem?_eq_some_iff.1 ho).1
   have c1 : C.a = a := by rw [hC]
   have c2 : C.b = b := by rw [hC]
   have c3 : C.sb = sb := by rw [hC]
   rcases (show i = 0 ∨ i = 1 ∨ i = 2 ∨ i = 3 ∨ i = 4 ∨ i = 5 ∨ i = 6 ∨ i = 7 ∨ i = 8 ∨ i = 9 ∨ i = 10 ∨ i = 11 ∨ i = 12 ∨ i = 13 ∨ i = 14 ∨ i = 15 ∨ i = 16 ∨ i = 17 by omega) with rfl | rfl | rfl | rfl | rfl | rfl | rfl | rfl | rfl | rfl | rfl | rfl | rfl | rfl | rfl | rfl | rfl | rfl
   all_goals cases ho
   ·exact H.q0 hag (by rw [c3]; rfl) rfl rfl
   ·exact H.q1 hag (by rw [c1]; rfl) rfl rfl
   ·exact H.q2 hag (hall { on := 0, ground := .data } (by simp) rfl) (hall { on := 1, ground := .data } (by simp) rfl) rfl rfl
   ·exact H.q3 hag (hall { on := 2, ground := .data } (by simp) rfl) rfl rfl
   ·exact H.q4 hag (by rw [c2]; rfl) rfl rfl
   ·exact H.q5 hag (by rw [c3]; rfl) rfl rfl
   ·exact H.q6 hag (by rw [c2]; rfl) rfl rfl
   ·exact H.q7 hag (hall { on := 5, ground := .data } (by simp) rfl) (hall { on := 6, ground := .data } (by simp) rfl) rfl rfl
   ·exact H.q8 hag (hall { on := 7, ground := .data } (by simp) rfl) rfl rfl
   ·exact H.q9 hag (by rw [c1]; rfl) rfl rfl
   ·exact H.q10 hag rfl rfl
   ·exact H.q11 hag rfl rfl
   ·exact H.q12 hag (hall { on := 3, ground := .data } (by simp) rfl) (hall { on := 4, ground := .data } (by simp) rfl) hd rfl rfl
   ·exact H.q13 hag (hall { on := 12, ground := .data } (by simp) rfl) rfl rfl
   ·exact H.q14 hag (hall { on := 3, ground := .data } (by simp) rfl) (hall { on := 13, ground := .data } (by simp) rfl) (hall { on := 10, ground := .data } (by simp) rfl) rfl rfl
   ·exact H.q15 hag (hall { on := 8, ground := .data } (by simp) rfl) (hall { on := 9, ground := .data } (by simp) rfl) hd rfl rfl
   ·exact H.q16 hag (hall { on := 15, ground := .data } (by simp) rfl) rfl rfl
   ·exact H.q17 hag (hall { on := 8, ground := .data } (by simp) rfl) (hall { on := 16, ground := .data } (by simp) rfl) (hall { on := 11, ground := .data } (by simp) rfl) rfl rfl
  case stop =>
   rintro d vs w' hall hold H
   have hd : ∀ k, k < 18 → d k = true := hall
   have hsa := H.sa
   have hsb := H.sb
   have hgr := H.gr
   have hck := H.ck
   rw [hd 12 (by omega), if_pos rfl] at hsa
   rw [hd 15 (by omega), if_pos rfl] at hsb
   rw [hC] at hsa hsb hgr hck
   clear hall hold H hd hC HC
   dsimp only at hsa hsb hgr hck
   have hJ : JO n b0 n0 g c sb cb ms (clashS σ a b) w' := by
    obtain ⟨h1, h2, h3, h4, h5⟩ := H'.out.lo
    refine ⟨hck.cell H'.out.box, hck.cell H'.out.cbox, fun k hk => hck.cell (H'.out.row k hk), fun k hk => ?_, H'.out.inj, h1, h2, h3, Nat.le_trans h4 hgr.size, h5⟩
    by_cases e1 : k = a
    ·subst e1
     refine hsa.congr fun x => ?_
     have : ¬ ((k : Int) = (b : Int)) := by omega
     simp [setIns, clashS, this]
    ·by_cases e2 : k = b
     ·subst e2
      refine hsb.congr fun x => ?_
      have : ¬ ((a : Int) = (k : Int)) := by omega
      have h8 : ¬ ((k : Int) = (a : Int)) := by omega
      simp [setIns, clashS, this, h8]
     ·have hb1 : w'.heap[ms k]? = W.heap[ms k]? := hgr.block _ (H'.out.sets k hk).lt (fun e => by
       rcases e with e | e
       ·exact e1 (H'.out.inj k a hk ha e)
       ·exact e2 (H'.out.inj k b hk hb e))
      refine ((H'.out.sets k hk).block hb1).congr fun x => ?_
      have h7 : ¬ ((k : Int) = (a : Int)) := by omega
      have h8 : ¬ ((k : Int) = (b : Int)) := by omega
      simp [clashS, h7, h8]
   have hM : Mid b0 n0 W w' := Grew.more hgr (fun j _ e => by
    obtain ⟨h1, h2, h3, h4, h5⟩ := H'.out.lo
    rcases e with rfl | rfl
    ·exact h5 a ha
    ·exact h5 b hb)
   have Hfin := Lib.hid (HR.out _ hJ hM hck)
   clear hJ hM hck hsa hsb hgr
   go_wp2
   refine bodyPost_ret (results_none rfl _ _ _) rfl ?_
   exact Hfin.out
end Go.Proofs.YtdanebboiekieaaGreatDoor
namespace Go.Proofs.YtdanebboiekieaaGreatDoor
open Go.RowKit
set_option linter.unusedSimpArgs false
set_option linter.unusedVariables false
open Go.Maps Go.WideShapes Go.MapKept Go.ChangeMaps Go.ChangeShapes

def condX (x : UIns) (r : Int) : Bool := !(decide (x.op = 1) && isR x.a r)
def meetS (σ : Int → Int → Bool) (d : Int) (P : Int → Bool) : Int → Int → Bool := fun i j => σ i j || (!decide (i = j) && ((decide (i = d) && P j) || (decide (j = d) && P i)))
/-- What clash.Of does with an instruction. -/
def updO (σ : Int → Int → Bool) (x : UIns) (X : Int → Bool) : Int → Int → Bool := if x.dst < 0 then σ else meetS σ x.dst (fun r => X r && condX x r)
theorem meetS_none (σ : Int → Int → Bool) (d : Int) {P : Int → Bool} (h : ∀ z, P z = false) : meetS σ d P = σ := by
 funext i j
 simp [meetS, h]
theorem meetS_step (σ : Int → Int → Bool) (d r : Int) (P : Int → Bool) : clashS (meetS σ d P) d r = meetS σ d (fun z => P z || decide (z = r)) := by
 funext i j
 rw [Bool.eq_iff_iff]
 simp only [clashS, meetS, Bool.or_eq_true, Bool.and_eq_true, Bool.not_eq_true', decide_eq_false_iff_not, decide_eq_true_eq]
 constructor
 ·rintro ((h | ⟨h1, h2⟩) | ⟨h1, h2⟩)
  ·exact .inl h
  ·rcases h2 with ⟨h2, h3⟩ | ⟨h2, h3⟩
   ·exact .inr ⟨h1, .inl ⟨h2, .inl h3⟩⟩
   ·exact .inr ⟨h1, .inr ⟨h2, .inl h3⟩⟩
  ·rcases h2 with ⟨rfl, rfl⟩ | ⟨rfl, rfl⟩
   ·exact .inr ⟨h1, .inl ⟨rfl, .inr rfl⟩⟩
   ·exact .inr ⟨fun e => h1 e.symm, .inr ⟨rfl, .inr rfl⟩⟩
 ·rintro (h | ⟨h1, ⟨rfl, h2 | rfl⟩ | ⟨rfl, h2 | rfl⟩⟩)
  ·exact .inl (.inl h)
  ·exact .inl (.inr ⟨h1, .inl ⟨rfl, h2⟩⟩)
  ·exact .inr ⟨h1, .inl ⟨rfl, rfl⟩⟩
  ·exact .inl (.inr ⟨h1, .inr ⟨rfl, h2⟩⟩)
  ·exact .inr ⟨fun e => h1 e.symm, .inr ⟨rfl, rfl⟩⟩
theorem SetR.blocks {w w' : World} {B r : Nat} {X Lf : Int → Bool} {cnt : Nat} (h : SetR w B r X Lf cnt) (hB : w'.heap[B]? = w.heap[B]?) (hr : w'.heap[r]? = w.heap[r]?) : SetR w' B r X Lf cnt := by
 obtain ⟨D, l, left, ⟨es, clock, since, seen, c0, hb, F, hs, hD, hr', rest⟩, h2⟩ := h
 exact ⟨D, l, left, ⟨es, clock, since, seen, c0, hB.trans hb, F, hs, hD, hr.trans hr', rest⟩, h2⟩
theorem SetR.iter {w : World} {B r : Nat} {X Lf : Int → Bool} {cnt : Nat} (h : SetR w B r X Lf cnt) : ∃ o : Obj, w.heap[r]? = some o ∧ o.isCells = false := by
 obtain ⟨D, l, left, ⟨es, clock, since, seen, c0, hb, F, hs, hD, hr', rest⟩, h2⟩ := h
 exact ⟨_, hr', rfl⟩
theorem JO.to {n b0 n0 g c sb cb : Nat} {ms : Nat → Nat} {σ τ : Int → Int → Bool} {W : World} (h : JO n b0 n0 g c sb cb ms σ W) (e : σ = τ) : JO n b0 n0 g c sb cb ms τ W := e ▸ h
set_option maxRecDepth 100000 in
set_option maxHeartbeats 4000000 in
theorem of2_calls (u : Unt) (n b0 n0 g c sb cb : Nat) (ms : Nat → Nat) (σ : Int → Int → Bool) (x : UIns) (va : Value) (W : World) (mp : Nat) (X : Int → Bool) (hx : InsOk u n x) (h : JO n b0 n0 g c sb cb ms σ W) (hn : n ≤ 100) (hmp : n0 ≤ mp) (hS : SetM W mp X) (hX : ∀ z, X z = true → z < (n : Int)) (R : Ending → World → Prop)
 (hR : ∀ W', JO n b0 n0 g c sb cb ms (updO σ x X) W' → Mid b0 n0 W W' → CKeepA W W' → R (.returned (.tuple #[])) W') :
 Calls Tryz.prog 74 #[.agg #[.int .i64 x.op, .int .i64 x.dst, .bool x.a.reg, .int .i64 x.a.n, .bool x.b.reg, .int .i64 x.b.n, .int .i64 x.fn, va], .map (some mp), .pointer (some ⟨cb, 0, none⟩)] W R := by
 have HR := Lib.hid hR
 have H := Lib.hid h
 have HS := Lib.hid hS
 have HX := Lib.hid hX
 have hdst := hx.dst
 clear hR h hS hX hx
 obtain ⟨W2, hW2⟩ : ∃ W2, W2 = W.alloc (Obj.cells #[.int .i64 x.op, .int .i64 x.dst, .bool x.a.reg, .int .i64 x.a.n, .bool x.b.reg, .int .i64 x.b.n, .int .i64 x.fn, va] 71) := ⟨_, rfl⟩
 have hb2 : Below W.heap.size W W2 := by subst hW2; exact bl0
 have hv2 : W2.heap[W.heap.size]? = some (.cells #[.int .i64 x.op, .int .i64 x.dst, .bool x.a.reg, .int .i64 x.a.n, .bool x.b.reg, .int .i64 x.b.n, .int .i64 x.fn, va] 71 (0, 0)) := by subst hW2; exact heap_alloc_new _ _
 have H2 := Lib.hid (H.out.below (hb2.mono H.out.lo.2.2.2.1))
 have HS2 := Lib.hid (HS.out.below hb2)
 have Hb2 := Lib.hid hb2
 have Hv2 := Lib.hid hv2
 have HW2 := Lib.hid hW2.symm
 have hz2 := hb2.size
 have x0 : W2.cell? ⟨W.heap.size, 0, none⟩ = some (.int .i64 x.op) := by rw [blk_cells hv2]; rfl
 have x1 : W2.cell? ⟨W.heap.size, 1, none⟩ = some (.int .i64 x.dst) := by rw [blk_cells hv2]; rfl
 have lx := blk_lt hv2
 clear hW2 hb2 hv2
 by_cases hd : x.dst < 0
 ·have he : updO σ x X = σ := if_pos hd
  rw [he] at HR
  clear he
  go_enter Tryz.func74, Tryz.ntmps74
  go_upto_region 1 with fail
  rw [HW2.out]
  go_wp2
  refine bodyPost_ret (results_none rfl _ _ _) rfl ?_
  exact HR.out _ H2.out (Mid.of_below Hb2.out) (CKeepA.of_below Hb2.out)
 ·have he : updO σ x X = meetS σ x.dst (fun r => X r && condX x r) := if_neg hd
  rw [he] at HR
  clear he
  obtain ⟨d, hdd⟩ : ∃ d : Nat, x.dst = (d : Int) := ⟨x.dst.toNat, by omega⟩
  have hdn : d < n := by omega
  rw [hdd] at HR hd x1 
  have Hdd := Lib.hid hdd
  clear hdd hdst
  go_enter Tryz.func74, Tryz.ntmps74
  go_upto_region 1 with fail
  rw [HW2.out]
  go_wp2_with (at_range; refine wpList_rangeM rfl _ 115 rfl Tryz.underlying115 mp X rfl HS2.out ?_)
  intro w3 cnt hr3 hg3 hz3
  have hb23 : Below W2.heap.size W2 w3 := (Below.refl W2.heap.size W2).grown hg3 (Nat.le_refl _) (fun k e => by cases e)
  have Hr3 := Lib.hid hr3
  have H3 := Lib.hid (H2.out.below (hb23.mono H2.out.lo.2.2.2.1))
  have Hb23 := Lib.hid hb23
  have Hv3 := Lib.hid ((hb23.block _ lx).trans Hv2.out)
  clear hr3 hg3 hb23 x0 x1
  go_wp2_with fail
  obtain ⟨vx, hvx⟩ : ∃ vx, vx = Value.agg #[.int .i64 x.op, .int .i64 x.dst, .bool x.a.reg, .int .i64 x.a.n, .bool x.b.reg, .int .i64 x.b.n, .int .i64 x.fn, va] := ⟨_, rfl⟩
  rw [← hvx]
  clear hvx
  go_loopg [] cnt (fun gh wr => ∃ Lf : Int → Bool, Hid (SetR wr mp W2.heap.size X Lf gh) ∧ Hid (JO n b0 n0 g c sb cb ms (meetS σ (d : Int) (fun r => (X r && !Lf r) && condX x r)) wr) ∧ Hid (Grew (fun k => (b0 ≤ k ∧ k < n0) ∨ k = W2.heap.size) w3 wr) ∧ Hid (CKeepA w3 wr))
  case atStart => exact ⟨X, Hr3, Lib.hid (H3.out.to (meetS_none _ _ (fun z => by simp)).symm), Lib.hid (Grew.refl _ _), Lib.hid (CKeepA.refl _)⟩
  case round =>
   obtain ⟨Lf, HSr, HJr, HG, HC⟩ := hrel
   have hzr : w3.heap.size ≤ wr.heap.size := HG.out.size
   go_wp2_with (at_next; refine wpList_nextM rfl _ rfl mp W2.heap.size X Lf gk rfl HSr.out ?_ ?_)
   ·intro hdone
    have he : meetS σ (d : Int) (fun r => (X r && !Lf r) && condX x r) = meetS σ (d : Int) (fun r => X r && condX x r) := by
     congr 1
     funext r
     rw [hdone r]
     simp
    have hM : Mid b0 n0 W wr := ⟨HG.out.os.trans (Hb23.out.os.trans Hb2.out.os), HG.out.tape.trans (Hb23.out.tape.trans Hb2.out.tape), HG.out.output.trans (Hb23.out.output.trans Hb2.out.output), by omega, fun k hk hx => (HG.out.block k (by omega) (by omega)).trans ((Hb23.out.block k (by omega)).trans (Hb2.out.block k hk))⟩
    have Hfin := Lib.hid (HR.out wr (HJr.out.to he) hM ((CKeepA.of_below Hb2.out).trans ((CKeepA.of_below Hb23.out).trans HC.out)))
    clear hdone he hM
    go_wp2
    refine bodyPost_ret (results_none rfl _ _ _) rfl ?_
    exact Hfin.out
   ·intro z w4 cnt4 hLz hz0 hz1 hs4 hlt4 hg4 hz4 hen4
    obtain ⟨r, rfl⟩ : ∃ r : Nat, z = (r : Int) := ⟨z.toNat, by omega⟩
    have hXr := HSr.out.sub _ hLz
    have hrn : r < n := by have := HX.out _ hXr; omega
    have hn0 : n0 ≤ W.heap.size := H.out.lo.2.2.2.1
    have hb4 : Below W2.heap.size wr w4 := (Below.refl _ _).grown hg4 (by omega) (fun k e => by cases e; exact Nat.le_refl _)
    have hJ4 := HJr.out.below (hb4.mono (by omega))
    have hck4 : CKeepA wr w4 := CKeepA.of_grown hg4 (fun k e => by cases e; exact HSr.out.iter)
    have hG4 : Grew (fun k => (b0 ≤ k ∧ k < n0) ∨ k = W2.heap.size) w3 w4 := Grew.trans HG.out ⟨hg4.os, hg4.tape, hg4.output, hg4.size, fun k hk hx => hg4.block k hk (fun e => hx (.inr (Option.some.inj e)))⟩ (fun _ _ h => h)
    have hv4 := (HC.out.trans hck4).blk Hv3.out
    have x0 : w4.cell? ⟨W.heap.size, 0, none⟩ = some (.int .i64 x.op) := by rw [blk_cells hv4]; rfl
    have x1 : w4.cell? ⟨W.heap.size, 1, none⟩ = some (.int .i64 (d : Int)) := by rw [blk_cells hv4, ← Hdd.out]; rfl
    have x2 : w4.cell? ⟨W.heap.size, 2, none⟩ = some (.bool x.a.reg) := by rw [blk_cells hv4]; rfl
    have x3 : w4.cell? ⟨W.heap.size, 3, none⟩ = some (.int .i64 x.a.n) := by rw [blk_cells hv4]; rfl
    have lx4 := blk_lt hv4
    have c0 := hJ4.cbox
    have lc := World.block_lt_of_cell? w4 _ c0
    have HS4 := Lib.hid hs4
    have HJ4 := Lib.hid hJ4
    have HC4 := Lib.hid (HC.out.trans hck4)
    have HG4 := Lib.hid hG4
    have Hlt4 := Lib.hid hlt4
    have HLz := Lib.hid hLz
    have HXr := Lib.hid hXr
    clear hs4 hJ4 hck4 hG4 hlt4 hLz hXr hg4 hb4 hv4
    obtain ⟨bb, hbb⟩ : ∃ bb, bb = condX x (r : Int) := ⟨_, rfl⟩
    have Hbb := Lib.hid hbb
    clear hbb
    go_upto_region 5 with fail
    go_cut [24] (fun s wx => s = .bool bb ∧ wx = w4)
    case first =>
     by_cases e1 : x.op = 1
     ·cases hr : x.a.reg
      ·have hb : bb = true := by rw [Hbb.out]; simp [condX, isR, hr]
       subst hb
       go_wp2
       go_meet
       exact ⟨rfl, rfl⟩
      ·by_cases e2 : x.a.n = (r : Int)
       ·have hb : bb = false := by rw [Hbb.out]; simp [condX, isR, hr, e1, e2]
        subst hb
        go_wp2
        go_meet
        exact ⟨rfl, rfl⟩
       ·have hb : bb = true := by rw [Hbb.out]; simp [condX, isR, hr, e2]
        subst hb
        go_wp2
        go_meet
        exact ⟨rfl, rfl⟩
     ·have hb : bb = true := by rw [Hbb.out]; simp [condX, e1]
      subst hb
      go_wp2
      go_meet
      exact ⟨rfl, rfl⟩
    case rest =>
     obtain ⟨rfl, rfl⟩ := hcut
     rename World => w4
     have hst : ∀ z, ((X z && !(Lf z && !decide (z = (r : Int)))) && condX x z) = (((X z && !Lf z) && condX x z) || (decide (z = (r : Int)) && bb)) := fun z => by
      by_cases e : z = (r : Int)
      ·subst e
       rw [HXr.out, HLz.out, ← Hbb.out]
       simp
      ·simp [e]
     have Hst := Lib.hid hst
     clear hst x0 x2 x3
     cases bb
     ·have he : meetS σ (d : Int) (fun z => (X z && !(Lf z && !decide (z = (r : Int)))) && condX x z) = meetS σ (d : Int) (fun z => (X z && !Lf z) && condX x z) := by
       congr 1
       funext z
       rw [Hst.out]
       simp
      have HJ5 := Lib.hid (HJ4.out.to he.symm)
      clear he
      go_wp2
      go_roundg cnt4
      case measure => exact Hlt4.out
      case rel => exact ⟨_, HS4, HJ5, HG4, HC4⟩
     ·have he : meetS σ (d : Int) (fun z => (X z && !(Lf z && !decide (z = (r : Int)))) && condX x z) = clashS (meetS σ (d : Int) (fun z => (X z && !Lf z) && condX x z)) (d : Int) (r : Int) := by
       rw [meetS_step]
       congr 1
       funext z
       rw [Hst.out]
       simp
      have He := Lib.hid he
      clear he
      go_wp2_with fail
      refine of1_calls n b0 n0 g c sb cb ms _ d r _ HJ4.out hdn hrn hn _ (fun w5 hJ5 hM5 hC5 => ?_)
      have HS5 := Lib.hid (HS4.out.blocks (hM5.block mp HS4.out.set.lt (by omega)) (hM5.block W2.heap.size HS4.out.lt (by omega)))
      have HJ5 := Lib.hid (hJ5.to He.out.symm)
      have HG5 := Lib.hid (Grew.trans HG4.out hM5 (fun _ _ h => .inl h))
      have HC5 := Lib.hid (HC4.out.trans hC5)
      clear hJ5 hM5 hC5 x1 c0
      go_wp2
      go_roundg cnt4
      case measure => exact Hlt4.out
      case rel => exact ⟨_, HS5, HJ5, HG5, HC5⟩
end Go.Proofs.YtdanebboiekieaaGreatDoor
namespace Go.Proofs.YtdanebboiekieaaGreatDoor
open Go.RowKit
set_option linter.unusedSimpArgs false
set_option linter.unusedVariables false
open Go.Maps Go.WideShapes Go.MapKept Go.ChangeMaps Go.ChangeShapes

/-- The set of clash.Across, in memory. -/
structure JA (b0 n0 ob om : Nat) (Y : Int → Bool) (W : World) : Prop where
 box : W.cell? ⟨ob, 0, none⟩ = some (.map (some om))
 set : SetM W om Y
 lo : ob < n0 ∧ n0 ≤ W.heap.size ∧ b0 ≤ om ∧ om < n0
theorem JA.below {b0 n0 ob om : Nat} {Y : Int → Bool} {W W' : World} (h : JA b0 n0 ob om Y W) (hb : Below n0 W W') : JA b0 n0 ob om Y W' := by
 obtain ⟨h1, h2, h3, h4⟩ := h.lo
 exact ⟨(hb.cell (p := ⟨ob, 0, none⟩) h1).trans h.box, h.set.block (hb.block _ h4), h1, Nat.le_trans h2 hb.size, h3, h4⟩
theorem JA.to {b0 n0 ob om : Nat} {Y Z : Int → Bool} {W : World} (h : JA b0 n0 ob om Y W) (e : ∀ z, Y z = Z z) : JA b0 n0 ob om Z W := ⟨h.box, h.set.congr e, h.lo⟩
/-- What clash.Across does with an instruction. -/
def updA (Y : Int → Bool) (x : UIns) (X : Int → Bool) : Int → Bool := if x.op = 20 then fun z => Y z || (X z && !decide (z = x.dst)) else Y
set_option maxRecDepth 100000 in
set_option maxHeartbeats 4000000 in
theorem acr_calls (u : Unt) (n b0 n0 ob om : Nat) (Y : Int → Bool) (x : UIns) (va : Value) (W : World) (mp : Nat) (X : Int → Bool) (hx : InsOk u n x) (h : JA b0 n0 ob om Y W) (hmp : n0 ≤ mp) (hS : SetM W mp X) (R : Ending → World → Prop)
 (hR : ∀ W', JA b0 n0 ob om (updA Y x X) W' → Mid b0 n0 W W' → CKeepA W W' → R (.returned (.tuple #[])) W') :
 Calls Tryz.prog 76 #[.agg #[.int .i64 x.op, .int .i64 x.dst, .bool x.a.reg, .int .i64 x.a.n, .bool x.b.reg, .int .i64 x.b.n, .int .i64 x.fn, va], .map (some mp), .pointer (some ⟨ob, 0, none⟩)] W R := by
 have HR := Lib.hid hR
 have H := Lib.hid h
 have HS := Lib.hid hS
 clear hR h hS hx
 obtain ⟨W2, hW2⟩ : ∃ W2, W2 = W.alloc (Obj.cells #[.int .i64 x.op, .int .i64 x.dst, .bool x.a.reg, .int .i64 x.a.n, .bool x.b.reg, .int .i64 x.b.n, .int .i64 x.fn, va] 71) := ⟨_, rfl⟩
 have hb2 : Below W.heap.size W W2 := by subst hW2; exact bl0
 have hv2 : W2.heap[W.heap.size]? = some (.cells #[.int .i64 x.op, .int .i64 x.dst, .bool x.a.reg, .int .i64 x.a.n, .bool x.b.reg, .int .i64 x.b.n, .int .i64 x.fn, va] 71 (0, 0)) := by subst hW2; exact heap_alloc_new _ _
 have H2 := Lib.hid (H.out.below (hb2.mono H.out.lo.2.1))
 have HS2 := Lib.hid (HS.out.below hb2)
 have Hb2 := Lib.hid hb2
 have Hv2 := Lib.hid hv2
 have HW2 := Lib.hid hW2.symm
 have hz2 := hb2.size
 have x0 : W2.cell? ⟨W.heap.size, 0, none⟩ = some (.int .i64 x.op) := by rw [blk_cells hv2]; rfl
 have lx := blk_lt hv2
 clear hW2 hb2 hv2
 by_cases hop : x.op = 20
 ·have he : updA Y x X = fun z => Y z || (X z && !decide (z = x.dst)) := if_pos hop
  rw [he] at HR
  rw [hop] at x0
  have Hop := Lib.hid hop
  clear he hop
  go_enter Tryz.func76, Tryz.ntmps76
  go_upto_region 1 with fail
  rw [HW2.out]
  go_wp2_with (at_range; refine wpList_rangeM rfl _ 115 rfl Tryz.underlying115 mp X rfl HS2.out ?_)
  intro w3 cnt hr3 hg3 hz3
  have hb23 : Below W2.heap.size W2 w3 := (Below.refl W2.heap.size W2).grown hg3 (Nat.le_refl _) (fun k e => by cases e)
  have Hr3 := Lib.hid hr3
  have H3 := Lib.hid (H2.out.below (hb23.mono H2.out.lo.2.1))
  have Hb23 := Lib.hid hb23
  have Hv3 := Lib.hid ((hb23.block _ lx).trans Hv2.out)
  clear hr3 hg3 hb23 x0
  go_wp2_with fail
  obtain ⟨vx, hvx⟩ : ∃ vx, vx = Value.agg #[.int .i64 x.op, .int .i64 x.dst, .bool x.a.reg, .int .i64 x.a.n, .bool x.b.reg, .int .i64 x.b.n, .int .i64 x.fn, va] := ⟨_, rfl⟩
  rw [← hvx]
  clear hvx
  go_loopg [] cnt (fun gh wr => ∃ Lf : Int → Bool, Hid (SetR wr mp W2.heap.size X Lf gh) ∧ Hid (JA b0 n0 ob om (fun z => Y z || ((X z && !Lf z) && !decide (z = x.dst))) wr) ∧ Hid (Grew (fun k => (b0 ≤ k ∧ k < n0) ∨ k = W2.heap.size) w3 wr) ∧ Hid (CKeepA w3 wr))
  case atStart => exact ⟨X, Hr3, Lib.hid (H3.out.to (fun z => by simp)), Lib.hid (Grew.refl _ _), Lib.hid (CKeepA.refl _)⟩
  case round =>
   obtain ⟨Lf, HSr, HJr, HG, HC⟩ := hrel
   have hzr : w3.heap.size ≤ wr.heap.size := HG.out.size
   have hn0 : n0 ≤ W.heap.size := H.out.lo.2.1
   go_wp2_with (at_next; refine wpList_nextM rfl _ rfl mp W2.heap.size X Lf gk rfl HSr.out ?_ ?_)
   ·intro hdone
    have hM : Mid b0 n0 W wr := ⟨HG.out.os.trans (Hb23.out.os.trans Hb2.out.os), HG.out.tape.trans (Hb23.out.tape.trans Hb2.out.tape), HG.out.output.trans (Hb23.out.output.trans Hb2.out.output), by omega, fun k hk hx => (HG.out.block k (by omega) (by omega)).trans ((Hb23.out.block k (by omega)).trans (Hb2.out.block k hk))⟩
    have Hfin := Lib.hid (HR.out wr (HJr.out.to (fun z => by rw [hdone z]; simp)) hM ((CKeepA.of_below Hb2.out).trans ((CKeepA.of_below Hb23.out).trans HC.out)))
    clear hdone hM
    go_wp2
    refine bodyPost_ret (results_none rfl _ _ _) rfl ?_
    exact Hfin.out
   ·intro z w4 cnt4 hLz hz0 hz1 hs4 hlt4 hg4 hz4 hen4
    have hXr := HSr.out.sub _ hLz
    have hb4 : Below W2.heap.size wr w4 := (Below.refl _ _).grown hg4 (by omega) (fun k e => by cases e; exact Nat.le_refl _)
    have hJ4 := HJr.out.below (hb4.mono (by omega))
    have hck4 : CKeepA wr w4 := CKeepA.of_grown hg4 (fun k e => by cases e; exact HSr.out.iter)
    have hG4 : Grew (fun k => (b0 ≤ k ∧ k < n0) ∨ k = W2.heap.size) w3 w4 := Grew.trans HG.out ⟨hg4.os, hg4.tape, hg4.output, hg4.size, fun k hk hx => hg4.block k hk (fun e => hx (.inr (Option.some.inj e)))⟩ (fun _ _ h => h)
    have hv4 := (HC.out.trans hck4).blk Hv3.out
    have x1 : w4.cell? ⟨W.heap.size, 1, none⟩ = some (.int .i64 x.dst) := by rw [blk_cells hv4]; rfl
    have lx4 := blk_lt hv4
    have c0 := hJ4.box
    have lc := World.block_lt_of_cell? w4 _ c0
    have HS4 := Lib.hid hs4
    have HJ4 := Lib.hid hJ4
    have HC4 := Lib.hid (HC.out.trans hck4)
    have HG4 := Lib.hid hG4
    have Hlt4 := Lib.hid hlt4
    have HLz := Lib.hid hLz
    have HXr := Lib.hid hXr
    have Hz : Hid (0 ≤ z ∧ z < 100) := Lib.hid ⟨hz0, hz1⟩
    clear hs4 hJ4 hck4 hG4 hlt4 hLz hXr hg4 hb4 hv4 hz0 hz1
    by_cases e : z = x.dst
    ·have he : ∀ y, (Y y || ((X y && !Lf y) && !decide (y = x.dst))) = (Y y || ((X y && !(Lf y && !decide (y = z))) && !decide (y = x.dst))) := fun y => by
      rw [← e]
      by_cases e2 : y = z
      ·simp [e2]
      ·simp [e2]
     have HJ5 := Lib.hid (HJ4.out.to he)
     have hne : (z == x.dst) = true := by simpa using e
     clear he e
     go_wp2
     go_roundg cnt4
     case measure => exact Hlt4.out
     case rel => exact ⟨_, HS4, HJ5, HG4, HC4⟩
    ·have he : ∀ y, setIns (fun y => Y y || ((X y && !Lf y) && !decide (y = x.dst))) z y = (Y y || ((X y && !(Lf y && !decide (y = z))) && !decide (y = x.dst))) := fun y => by
      unfold setIns
      by_cases e2 : y = z
      ·subst e2
       simp [HXr.out, e]
      ·simp [e2]
     have He := Lib.hid he
     have hne : (z == x.dst) = false := by simpa using e
     clear he e
     go_wp2_with (at_mapUpdate; refine wpList_putM rfl _ _ _ rfl om _ z rfl rfl rfl Hz.out HJ4.out.set ?_)
     intro w5 hs5 ht5
     have hg5 := ht5.grown
     have hlo := HJ4.out.lo
     have hC5 := turned_cellsA HJ4.out.set hg5
     have HS5 := Lib.hid (HS4.out.blocks (hg5.block mp HS4.out.set.lt (fun e => by have := Option.some.inj e; omega)) (hg5.block W2.heap.size HS4.out.lt (fun e => by have := Option.some.inj e; omega)))
     have HJ5 : Hid (JA b0 n0 ob om (fun y => Y y || ((X y && !(Lf y && !decide (y = z))) && !decide (y = x.dst))) w5) := Lib.hid ⟨hC5.cell HJ4.out.box, hs5.congr He.out, hlo.1, Nat.le_trans hlo.2.1 hg5.size, hlo.2.2⟩
     have HG5 := Lib.hid (Grew.trans HG4.out (Y := fun k => (b0 ≤ k ∧ k < n0) ∨ k = W2.heap.size) ⟨hg5.os, hg5.tape, hg5.output, hg5.size, fun k hk hx => hg5.block k hk (fun e => by have := Option.some.inj e; omega)⟩ (fun _ _ h => h))
     have HC5 := Lib.hid (HC4.out.trans hC5)
     clear hs5 ht5 hg5 hlo hC5 x1 c0
     go_wp2
     go_roundg cnt4
     case measure => exact Hlt4.out
     case rel => exact ⟨_, HS5, HJ5, HG5, HC5⟩
 ·have he : updA Y x X = Y := if_neg hop
  rw [he] at HR
  have hne : (x.op == 20) = false := by simpa using hop
  clear he hop
  go_enter Tryz.func76, Tryz.ntmps76
  go_upto_region 1 with fail
  rw [HW2.out]
  go_wp2
  refine bodyPost_ret (results_none rfl _ _ _) rfl ?_
  exact HR.out _ H2.out (Mid.of_below Hb2.out) (CKeepA.of_below Hb2.out)
end Go.Proofs.YtdanebboiekieaaGreatDoor
namespace Go.Proofs.YtdanebboiekieaaGreatDoor
open Go.RowKit
set_option linter.unusedSimpArgs false
set_option linter.unusedVariables false

theorem runB_A {l : List UIns} {L : Nat → Int → Bool} : ∀ (m : Nat) (Y : Int → Bool) (z : Int), runB updA l L m Y z = true ↔ (Y z = true ∨ ∃ k x, k < m ∧ l[k]? = some x ∧ x.op = 20 ∧ x.dst ≠ z ∧ L (k + 1) z = true)
 | 0, Y, z => by
   simp only [runB]
   constructor
   ·exact fun h => .inl h
   ·rintro (h | ⟨k, _, hk, _⟩)
    ·exact h
    ·omega
 | m + 1, Y, z => by
   simp only [runB]
   rw [runB_A m]
   cases hx : l[m]? with
   | none =>
     dsimp only
     constructor
     ·rintro (h | ⟨k, x, hk, h⟩)
      ·exact .inl h
      ·exact .inr ⟨k, x, by omega, h⟩
     ·rintro (h | ⟨k, x, hk, h⟩)
      ·exact .inl h
      ·have : k ≠ m := fun e => by subst e; rw [hx] at h; cases h.1
       exact .inr ⟨k, x, by omega, h⟩
   | some x0 =>
     dsimp only
     have hu : updA Y x0 (L (m + 1)) z = true ↔ (Y z = true ∨ (x0.op = 20 ∧ x0.dst ≠ z ∧ L (m + 1) z = true)) := by
      unfold updA
      by_cases ho : x0.op = 20
      ·rw [if_pos ho]
       simp only [Bool.or_eq_true, Bool.and_eq_true, Bool.not_eq_true', decide_eq_false_iff_not]
       constructor
       ·rintro (h | ⟨h1, h2⟩)
        ·exact .inl h
        ·exact .inr ⟨ho, fun e => h2 e.symm, h1⟩
       ·rintro (h | ⟨_, h1, h2⟩)
        ·exact .inl h
        ·exact .inr ⟨h2, fun e => h1 e.symm⟩
      ·rw [if_neg ho]
       constructor
       ·exact fun h => .inl h
       ·rintro (h | ⟨h, _⟩)
        ·exact h
        ·exact absurd h ho
     rw [hu]
     constructor
     ·rintro ((h | h) | ⟨k, x, hk, h⟩)
      ·exact .inl h
      ·exact .inr ⟨m, x0, by omega, hx, h⟩
      ·exact .inr ⟨k, x, by omega, h⟩
     ·rintro (h | ⟨k, x, hk, h1, h2⟩)
      ·exact .inl (.inl h)
      ·by_cases e : k = m
       ·subst e
        rw [hx] at h1
        cases h1
        exact .inl (.inr h2)
       ·exact .inr ⟨k, x, by omega, h1, h2⟩
theorem runF_A {bs : List UBlk} {L : Nat → Nat → Int → Bool} : ∀ (m : Nat) (Y : Int → Bool) (z : Int), m ≤ bs.length → (runF updA bs L m Y z = true ↔ (Y z = true ∨ ∃ i k b x, i < m ∧ bs[i]? = some b ∧ b.list[k]? = some x ∧ x.op = 20 ∧ x.dst ≠ z ∧ L i (k + 1) z = true))
 | 0, Y, z, _ => by
   simp only [runF]
   constructor
   ·exact fun h => .inl h
   ·rintro (h | ⟨i, _, _, _, hk, _⟩)
    ·exact h
    ·omega
 | m + 1, Y, z, hm => by
   have hb : bs[m]? = some bs[m] := List.getElem?_eq_getElem (by omega)
   rw [runF_succ updA hb, runB_A, runF_A m Y z (by omega)]
   constructor
   ·rintro ((h | ⟨i, k, b, x, hi, h⟩) | ⟨k, x, hk, h⟩)
    ·exact .inl h
    ·exact .inr ⟨i, k, b, x, by omega, h⟩
    ·exact .inr ⟨m, k, _, x, by omega, hb, h⟩
   ·rintro (h | ⟨i, k, b, x, hi, h1, h2, h3⟩)
    ·exact .inl (.inl h)
    ·by_cases e : i = m
     ·subst e
      rw [hb] at h1
      cases h1
      exact .inr ⟨k, x, (List.getElem?_eq_some_iff.1 h2).1, h2, h3⟩
     ·exact .inl (.inr ⟨i, k, b, x, by omega, h1, h2, h3⟩)
theorem across_run {f : UFun} {L : Nat → Nat → Int → Bool} (hL : ∀ i k r, L i k r = true ↔ LvI f r i k) (z : Int) : runF updA f.blocks L f.blocks.length (fun _ => false) z = true ↔ Across f z := by
 rw [runF_A _ _ _ (Nat.le_refl _)]
 unfold Across
 constructor
 ·rintro (h | ⟨i, k, b, x, hi, h1, h2, h3, h4, h5⟩)
  ·cases h
  ·exact ⟨i, k, b, x, h1, h2, h3, h4, (hL _ _ _).1 h5⟩
 ·rintro ⟨i, k, b, x, h1, h2, h3, h4, h5⟩
  exact .inr ⟨i, k, b, x, (List.getElem?_eq_some_iff.1 h1).1, h1, h2, h3, h4, (hL _ _ _).2 h5⟩
/-- Two registers meet at an instruction. -/
def MeetX (x : UIns) (Lz : Int → Bool) (i j : Int) : Prop := 0 ≤ x.dst ∧ i ≠ j ∧ ((i = x.dst ∧ Lz j = true ∧ condX x j = true) ∨ (j = x.dst ∧ Lz i = true ∧ condX x i = true))
theorem updO_iff (σ : Int → Int → Bool) (x : UIns) (X : Int → Bool) (i j : Int) : updO σ x X i j = true ↔ (σ i j = true ∨ MeetX x X i j) := by
 unfold updO MeetX
 by_cases hd : x.dst < 0
 ·rw [if_pos hd]
  constructor
  ·exact fun h => .inl h
  ·rintro (h | ⟨h, _⟩)
   ·exact h
   ·omega
 ·rw [if_neg hd]
  unfold meetS
  simp only [Bool.or_eq_true, Bool.and_eq_true, Bool.not_eq_true', decide_eq_false_iff_not, decide_eq_true_eq]
  constructor
  ·rintro (h | ⟨h1, h2⟩)
   ·exact .inl h
   ·exact .inr ⟨by omega, h1, h2⟩
  ·rintro (h | ⟨_, h1, h2⟩)
   ·exact .inl h
   ·exact .inr ⟨h1, h2⟩
theorem runB_O {l : List UIns} {L : Nat → Int → Bool} : ∀ (m : Nat) (σ : Int → Int → Bool) (i j : Int), runB updO l L m σ i j = true ↔ (σ i j = true ∨ ∃ k x, k < m ∧ l[k]? = some x ∧ MeetX x (L (k + 1)) i j)
 | 0, σ, i, j => by
   simp only [runB]
   constructor
   ·exact fun h => .inl h
   ·rintro (h | ⟨k, _, hk, _⟩)
    ·exact h
    ·omega
 | m + 1, σ, i, j => by
   simp only [runB]
   rw [runB_O m]
   cases hx : l[m]? with
   | none =>
     dsimp only
     constructor
     ·rintro (h | ⟨k, x, hk, h⟩)
      ·exact .inl h
      ·exact .inr ⟨k, x, by omega, h⟩
     ·rintro (h | ⟨k, x, hk, h⟩)
      ·exact .inl h
      ·have : k ≠ m := fun e => by subst e; rw [hx] at h; cases h.1
       exact .inr ⟨k, x, by omega, h⟩
   | some x0 =>
     dsimp only
     rw [updO_iff]
     constructor
     ·rintro ((h | h) | ⟨k, x, hk, h⟩)
      ·exact .inl h
      ·exact .inr ⟨m, x0, by omega, hx, h⟩
      ·exact .inr ⟨k, x, by omega, h⟩
     ·rintro (h | ⟨k, x, hk, h1, h2⟩)
      ·exact .inl (.inl h)
      ·by_cases e : k = m
       ·subst e
        rw [hx] at h1
        cases h1
        exact .inl (.inr h2)
       ·exact .inr ⟨k, x, by omega, h1, h2⟩
theorem runF_O {bs : List UBlk} {L : Nat → Nat → Int → Bool} : ∀ (m : Nat) (σ : Int → Int → Bool) (i j : Int), m ≤ bs.length → (runF updO bs L m σ i j = true ↔ (σ i j = true ∨ ∃ p k b x, p < m ∧ bs[p]? = some b ∧ b.list[k]? = some x ∧ MeetX x (L p (k + 1)) i j))
 | 0, σ, i, j, _ => by
   simp only [runF]
   constructor
   ·exact fun h => .inl h
   ·rintro (h | ⟨p, _, _, _, hk, _⟩)
    ·exact h
    ·omega
 | m + 1, σ, i, j, hm => by
   have hb : bs[m]? = some bs[m] := List.getElem?_eq_getElem (by omega)
   rw [runF_succ updO hb, runB_O, runF_O m σ i j (by omega)]
   constructor
   ·rintro ((h | ⟨p, k, b, x, hi, h⟩) | ⟨k, x, hk, h⟩)
    ·exact .inl h
    ·exact .inr ⟨p, k, b, x, by omega, h⟩
    ·exact .inr ⟨m, k, _, x, by omega, hb, h⟩
   ·rintro (h | ⟨p, k, b, x, hi, h1, h2, h3⟩)
    ·exact .inl (.inl h)
    ·by_cases e : p = m
     ·subst e
      rw [hb] at h1
      cases h1
      exact .inr ⟨k, x, (List.getElem?_eq_some_iff.1 h2).1, h2, h3⟩
     ·exact .inl (.inr ⟨p, k, b, x, by omega, h1, h2, h3⟩)
theorem condX_iff (x : UIns) (r : Int) : condX x r = true ↔ ¬ (x.op = 1 ∧ isR x.a r = true) := by
 unfold condX
 by_cases h : x.op = 1 <;> simp [h]
theorem clash_run {f : UFun} {L : Nat → Nat → Int → Bool} (hL : ∀ i k r, L i k r = true ↔ LvI f r i k) {σ0 : Int → Int → Bool} (h0 : ∀ i j, σ0 i j = true ↔ (i ≠ j ∧ LvI f i 0 0 ∧ LvI f j 0 0)) {i j : Int} (hi : 0 ≤ i) (hj : 0 ≤ j) :
 runF updO f.blocks L f.blocks.length σ0 i j = true ↔ Clash f i j := by
 rw [runF_O _ _ _ _ (Nat.le_refl _), h0]
 unfold Clash Crosses MeetX
 constructor
 ·rintro (⟨h1, h2, h3⟩ | ⟨p, k, b, x, hp, h1, h2, h3, h4, h5⟩)
  ·exact ⟨hi, hj, h1, .inl ⟨h2, h3⟩⟩
  ·rcases h5 with ⟨h5, h6, h7⟩ | ⟨h5, h6, h7⟩
   ·exact ⟨hi, hj, h4, .inr (.inl ⟨p, k, b, x, h1, h2, h5.symm, (hL _ _ _).1 h6, (condX_iff _ _).1 h7⟩)⟩
   ·exact ⟨hi, hj, h4, .inr (.inr ⟨p, k, b, x, h1, h2, h5.symm, (hL _ _ _).1 h6, (condX_iff _ _).1 h7⟩)⟩
 ·rintro ⟨_, _, h1, h2 | ⟨p, k, b, x, h2, h3, h4, h5, h6⟩ | ⟨p, k, b, x, h2, h3, h4, h5, h6⟩⟩
  ·exact .inl ⟨h1, h2⟩
  ·exact .inr ⟨p, k, b, x, (List.getElem?_eq_some_iff.1 h2).1, h2, h3, by omega, h1, .inl ⟨h4.symm, (hL _ _ _).2 h5, (condX_iff _ _).2 h6⟩⟩
  ·exact .inr ⟨p, k, b, x, (List.getElem?_eq_some_iff.1 h2).1, h2, h3, by omega, h1, .inr ⟨h4.symm, (hL _ _ _).2 h5, (condX_iff _ _).2 h6⟩⟩
end Go.Proofs.YtdanebboiekieaaGreatDoor
