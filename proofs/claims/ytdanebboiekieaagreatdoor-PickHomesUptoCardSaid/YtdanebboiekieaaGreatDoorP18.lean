/- The walks, part 18. -/
import Derived.Test.YtdanebboiekieaaGreatDoorP17
set_option linter.unusedSimpArgs false
set_option linter.unusedVariables false
set_option maxRecDepth 100000
set_option maxHeartbeats 16000000
namespace Go.Proofs.YtdanebboiekieaaGreatDoor
open Go.RowKit
attribute [local go_sem] Oper.semAt_some
structure VC where
 r : Nat
 pm : Int
 PB : Nat
 Br : Nat
 Bp : Nat
 Rc : Nat
 lp : Nat
 ys : List Int
 J : List Int -> World -> Prop
 Jx : List Int -> World -> Prop
 Need : World -> Prop
 cells : ∀ w, Need w -> w.cell? ⟨Br, 0, none⟩ = some (.int .i64 (r : Int)) ∧ w.cell? ⟨Bp, 0, none⟩ = some (.pointer (some ⟨PB, 0, none⟩)) ∧ w.cell? ⟨PB, 1, none⟩ = some (.int .i64 pm)
 keep : ∀ w w', Need w -> CKeep Rc w w' -> Need w'
def VC.B (C : VC) : Bool := decide ((C.r : Int) < C.pm)
def VC.q (C : VC) : List Int := if C.B = true then [(C.r : Int)] else []
structure ActV (C : VC) (a0 : Act) : Prop where
 t0 : vals a0 0 = .func (.yield C.lp) #[] #[]
 t1 : vals a0 1 = .pointer (some ⟨C.Br, 0, none⟩)
 t2 : vals a0 2 = .pointer (some ⟨C.Bp, 0, none⟩)
def VIS : List Nat := [78, 79, 80, 81, 82, 83, 84, 85, 86, 87, 88, 89, 90]
structure VR (C : VC) (c : Bool) (d : Nat -> Bool) (val : Nat -> Value) (w : World) : Prop where
 lv : c = true -> C.Need w ∧ C.J (C.ys ++ (if d 10 = true then C.q else [])) w
 x1 : c = false -> C.Jx (C.ys ++ [(C.r : Int)]) w
 n1 : d 10 = false -> c = true
 b1 : C.B = false -> c = true
 v78 : d 0 = true -> val 78 = (.int .i64 (C.r : Int))
 v79 : d 1 = true -> val 79 = (.pointer (some ⟨C.PB, 0, none⟩))
 v80 : d 2 = true -> val 80 = (.pointer (some ⟨C.PB, 0, none⟩))
 v81 : d 3 = true -> val 81 = (.pointer (some ⟨C.PB, 0, none⟩))
 v82 : d 4 = true -> val 82 = (.pointer (some ⟨C.PB, 1, none⟩))
 v83 : d 5 = true -> val 83 = (.int .i64 C.pm)
 v84 : d 6 = true -> val 84 = (.bool C.B)
 v85 : d 7 = true -> val 85 = (.bool C.B)
 v86 : d 8 = true -> C.B = true -> val 86 = (.func (.yield C.lp) #[] #[])
 v87 : d 9 = true -> C.B = true -> val 87 = (.int .i64 (C.r : Int))
 v88 : d 10 = true -> C.B = true -> val 88 = (.bool c)
 v89 : d 11 = true -> C.B = true -> val 89 = (.bool (!c))
 v90 : d 12 = true -> val 90 = (.bool (!c))
def VRI (C : VC) (d : Nat -> Bool) (val : Nat -> Value) (w : World) : Prop := ∃ c, VR C c d val w
section
variable {C : VC} {c : Bool} {d : Nat -> Bool} {val : Nat -> Value} {w : World} {a0 a : Act} {Q : Exit -> Act -> World -> Prop} {o : Oper} {ops : Array Oper} {N : Nat}
theorem VR.f0 (H : VR C c d val w) : VR C c (don d 0) (setVl val 78 (.int .i64 (C.r : Int))) w :=
 ⟨fun h1 => by rw [qx (by decide)]; exact H.lv h1, H.x1, fun h => H.n1 (by rwa [qx (by decide)] at h), H.b1, fun _ => q0s, wk1 H.v79, wk1 H.v80, wk1 H.v81, wk1 H.v82, wk1 H.v83, wk1 H.v84, wk1 H.v85, wk2 H.v86, wk2 H.v87, wk2 H.v88, wk2 H.v89, wk1 H.v90⟩
theorem VR.f1 (H : VR C c d val w) : VR C c (don d 1) (setVl val 79 (.pointer (some ⟨C.PB, 0, none⟩))) w :=
 ⟨fun h1 => by rw [qx (by decide)]; exact H.lv h1, H.x1, fun h => H.n1 (by rwa [qx (by decide)] at h), H.b1, wk1 H.v78, fun _ => q0s, wk1 H.v80, wk1 H.v81, wk1 H.v82, wk1 H.v83, wk1 H.v84, wk1 H.v85, wk2 H.v86, wk2 H.v87, wk2 H.v88, wk2 H.v89, wk1 H.v90⟩
theorem VR.f2 (H : VR C c d val w) : VR C c (don d 2) (setVl val 80 (.pointer (some ⟨C.PB, 0, none⟩))) w :=
 ⟨fun h1 => by rw [qx (by decide)]; exact H.lv h1, H.x1, fun h => H.n1 (by rwa [qx (by decide)] at h), H.b1, wk1 H.v78, wk1 H.v79, fun _ => q0s, wk1 H.v81, wk1 H.v82, wk1 H.v83, wk1 H.v84, wk1 H.v85, wk2 H.v86, wk2 H.v87, wk2 H.v88, wk2 H.v89, wk1 H.v90⟩
theorem VR.f3 (H : VR C c d val w) : VR C c (don d 3) (setVl val 81 (.pointer (some ⟨C.PB, 0, none⟩))) w :=
 ⟨fun h1 => by rw [qx (by decide)]; exact H.lv h1, H.x1, fun h => H.n1 (by rwa [qx (by decide)] at h), H.b1, wk1 H.v78, wk1 H.v79, wk1 H.v80, fun _ => q0s, wk1 H.v82, wk1 H.v83, wk1 H.v84, wk1 H.v85, wk2 H.v86, wk2 H.v87, wk2 H.v88, wk2 H.v89, wk1 H.v90⟩
theorem VR.f4 (H : VR C c d val w) : VR C c (don d 4) (setVl val 82 (.pointer (some ⟨C.PB, 1, none⟩))) w :=
 ⟨fun h1 => by rw [qx (by decide)]; exact H.lv h1, H.x1, fun h => H.n1 (by rwa [qx (by decide)] at h), H.b1, wk1 H.v78, wk1 H.v79, wk1 H.v80, wk1 H.v81, fun _ => q0s, wk1 H.v83, wk1 H.v84, wk1 H.v85, wk2 H.v86, wk2 H.v87, wk2 H.v88, wk2 H.v89, wk1 H.v90⟩
theorem VR.f5 (H : VR C c d val w) : VR C c (don d 5) (setVl val 83 (.int .i64 C.pm)) w :=
 ⟨fun h1 => by rw [qx (by decide)]; exact H.lv h1, H.x1, fun h => H.n1 (by rwa [qx (by decide)] at h), H.b1, wk1 H.v78, wk1 H.v79, wk1 H.v80, wk1 H.v81, wk1 H.v82, fun _ => q0s, wk1 H.v84, wk1 H.v85, wk2 H.v86, wk2 H.v87, wk2 H.v88, wk2 H.v89, wk1 H.v90⟩
theorem VR.f6 (H : VR C c d val w) : VR C c (don d 6) (setVl val 84 (.bool C.B)) w :=
 ⟨fun h1 => by rw [qx (by decide)]; exact H.lv h1, H.x1, fun h => H.n1 (by rwa [qx (by decide)] at h), H.b1, wk1 H.v78, wk1 H.v79, wk1 H.v80, wk1 H.v81, wk1 H.v82, wk1 H.v83, fun _ => q0s, wk1 H.v85, wk2 H.v86, wk2 H.v87, wk2 H.v88, wk2 H.v89, wk1 H.v90⟩
theorem VR.f7 (H : VR C c d val w) : VR C c (don d 7) (setVl val 85 (.bool C.B)) w :=
 ⟨fun h1 => by rw [qx (by decide)]; exact H.lv h1, H.x1, fun h => H.n1 (by rwa [qx (by decide)] at h), H.b1, wk1 H.v78, wk1 H.v79, wk1 H.v80, wk1 H.v81, wk1 H.v82, wk1 H.v83, wk1 H.v84, fun _ => q0s, wk2 H.v86, wk2 H.v87, wk2 H.v88, wk2 H.v89, wk1 H.v90⟩
theorem VR.f8 (H : VR C c d val w) (g0 : C.B = true) : VR C c (don d 8) (setVl val 86 (.func (.yield C.lp) #[] #[])) w :=
 ⟨fun h1 => by rw [qx (by decide)]; exact H.lv h1, H.x1, fun h => H.n1 (by rwa [qx (by decide)] at h), H.b1, wk1 H.v78, wk1 H.v79, wk1 H.v80, wk1 H.v81, wk1 H.v82, wk1 H.v83, wk1 H.v84, wk1 H.v85, fun _ _ => q0s, wk2 H.v87, wk2 H.v88, wk2 H.v89, wk1 H.v90⟩
theorem VR.u8 (H : VR C c d val w) (g : C.B = false) : VR C c (don d 8) (setVl val 86 undef) w :=
 ⟨fun h1 => by rw [qx (by decide)]; exact H.lv h1, H.x1, fun h => H.n1 (by rwa [qx (by decide)] at h), H.b1, wk1 H.v78, wk1 H.v79, wk1 H.v80, wk1 H.v81, wk1 H.v82, wk1 H.v83, wk1 H.v84, wk1 H.v85, fun h0 h1 => absurd h1 (by rw [g]; decide), wk2 H.v87, wk2 H.v88, wk2 H.v89, wk1 H.v90⟩
theorem VR.f9 (H : VR C c d val w) (g0 : C.B = true) : VR C c (don d 9) (setVl val 87 (.int .i64 (C.r : Int))) w :=
 ⟨fun h1 => by rw [qx (by decide)]; exact H.lv h1, H.x1, fun h => H.n1 (by rwa [qx (by decide)] at h), H.b1, wk1 H.v78, wk1 H.v79, wk1 H.v80, wk1 H.v81, wk1 H.v82, wk1 H.v83, wk1 H.v84, wk1 H.v85, wk2 H.v86, fun _ _ => q0s, wk2 H.v88, wk2 H.v89, wk1 H.v90⟩
theorem VR.u9 (H : VR C c d val w) (g : C.B = false) : VR C c (don d 9) (setVl val 87 undef) w :=
 ⟨fun h1 => by rw [qx (by decide)]; exact H.lv h1, H.x1, fun h => H.n1 (by rwa [qx (by decide)] at h), H.b1, wk1 H.v78, wk1 H.v79, wk1 H.v80, wk1 H.v81, wk1 H.v82, wk1 H.v83, wk1 H.v84, wk1 H.v85, wk2 H.v86, fun h0 h1 => absurd h1 (by rw [g]; decide), wk2 H.v88, wk2 H.v89, wk1 H.v90⟩
theorem VR.f11 (H : VR C c d val w) (g0 : C.B = true) : VR C c (don d 11) (setVl val 89 (.bool (!c))) w :=
 ⟨fun h1 => by rw [qx (by decide)]; exact H.lv h1, H.x1, fun h => H.n1 (by rwa [qx (by decide)] at h), H.b1, wk1 H.v78, wk1 H.v79, wk1 H.v80, wk1 H.v81, wk1 H.v82, wk1 H.v83, wk1 H.v84, wk1 H.v85, wk2 H.v86, wk2 H.v87, wk2 H.v88, fun _ _ => q0s, wk1 H.v90⟩
theorem VR.u11 (H : VR C c d val w) (g : C.B = false) : VR C c (don d 11) (setVl val 89 undef) w :=
 ⟨fun h1 => by rw [qx (by decide)]; exact H.lv h1, H.x1, fun h => H.n1 (by rwa [qx (by decide)] at h), H.b1, wk1 H.v78, wk1 H.v79, wk1 H.v80, wk1 H.v81, wk1 H.v82, wk1 H.v83, wk1 H.v84, wk1 H.v85, wk2 H.v86, wk2 H.v87, wk2 H.v88, fun h0 h1 => absurd h1 (by rw [g]; decide), wk1 H.v90⟩
theorem VR.f12 (H : VR C c d val w) : VR C c (don d 12) (setVl val 90 (.bool (!c))) w :=
 ⟨fun h1 => by rw [qx (by decide)]; exact H.lv h1, H.x1, fun h => H.n1 (by rwa [qx (by decide)] at h), H.b1, wk1 H.v78, wk1 H.v79, wk1 H.v80, wk1 H.v81, wk1 H.v82, wk1 H.v83, wk1 H.v84, wk1 H.v85, wk2 H.v86, wk2 H.v87, wk2 H.v88, wk2 H.v89, fun _ => q0s⟩
theorem VR.u10 (H : VR C c d val w) (g : C.B = false) : VR C c (don d 10) (setVl val 88 undef) w := by
 have hq : C.q = [] := if_neg (by rw [g]; decide);refine ⟨fun h1 => ?_, H.x1, fun _ => H.b1 g, H.b1, wk1 H.v78, wk1 H.v79, wk1 H.v80, wk1 H.v81, wk1 H.v82, wk1 H.v83, wk1 H.v84, wk1 H.v85, wk2 H.v86, wk2 H.v87, fun h0 h1 => absurd h1 (by rw [g]; decide), wk2 H.v89, wk1 H.v90⟩;have h3 := H.lv h1;rw [hq, ite_self] at h3 ⊢;exact h3
theorem VR.f10 (H : VR C c d val w) (hz : ∀ j, 10 ≤ j -> j < 13 -> d j = false) (g0 : C.B = true) {w' : World} {b : Bool} (ht : b = true -> C.Need w' ∧ C.J (C.ys ++ [(C.r : Int)]) w') (hf : b = false -> C.Jx (C.ys ++ [(C.r : Int)]) w') : VR C b (don d 10) (setVl val 88 (.bool b)) w' := by
 have hq : C.q = [(C.r : Int)] := if_pos g0;refine ⟨fun h1 => ?_, hf, fun h => absurd h (by rw [q9p]; decide), fun h => absurd h (by rw [g0]; decide), wk1 H.v78, wk1 H.v79, wk1 H.v80, wk1 H.v81, wk1 H.v82, wk1 H.v83, wk1 H.v84, wk1 H.v85, wk2 H.v86, wk2 H.v87, fun _ _ => q0s, fun h0 => absurd (q0i (by decide) h0) (by rw [hz 11 (by omega) (by omega)]; decide), fun h0 => absurd (q0i (by decide) h0) (by rw [hz 12 (by omega) (by omega)]; decide)⟩;rw [q9p, if_pos rfl, hq];exact ht h1
theorem VR.q0 (H : VR C c d (vals a) w) (hag : Ag VIS a0 a) (HA : ActV C a0) (hw : Region.wanted o (yielded ops a.tmps) = true) (hdst : o.dst = some 78) (z10 : d 10 = false) (hop : o.op = .load 3 (.tmp 1)) : StepIn Fence.wide N Tryz.prog ops Q VIS a0 (VRI C) d 0 o a w := by
 have hN := (H.lv (H.n1 z10)).1;obtain ⟨m0, m1, m2⟩ := C.cells w hN;have e1 : a.eval (.tmp 1) = _ := (hag.old (by decide)).trans HA.t1
 refine qc (v := (.int .i64 (C.r : Int))) (w' := w) hag hdst (by decide) hw (fun _ _ => trivial) (by rw [hop]; intro c h; cases h) (by
  simp only [execOp, hop, e1];simp [go_sem, m0]) ⟨c, H.f0⟩
theorem VR.q1 (H : VR C c d (vals a) w) (hag : Ag VIS a0 a) (HA : ActV C a0) (hw : Region.wanted o (yielded ops a.tmps) = true) (hdst : o.dst = some 79) (z10 : d 10 = false) (hop : o.op = .load 93 (.tmp 2)) : StepIn Fence.wide N Tryz.prog ops Q VIS a0 (VRI C) d 1 o a w := by
 have hN := (H.lv (H.n1 z10)).1;obtain ⟨m0, m1, m2⟩ := C.cells w hN;have e2 : a.eval (.tmp 2) = _ := (hag.old (by decide)).trans HA.t2
 refine qc (v := (.pointer (some ⟨C.PB, 0, none⟩))) (w' := w) hag hdst (by decide) hw (fun _ _ => trivial) (by rw [hop]; intro c h; cases h) (by
  simp only [execOp, hop, e2];simp [go_sem, m1]) ⟨c, H.f1⟩
theorem VR.q2 (H : VR C c d (vals a) w) (hag : Ag VIS a0 a) (HA : ActV C a0) (hw : Region.wanted o (yielded ops a.tmps) = true) (hdst : o.dst = some 80) (h1 : d 1 = true) (hop : o.op = .nilCheck (.tmp 79)) : StepIn Fence.wide N Tryz.prog ops Q VIS a0 (VRI C) d 2 o a w := by
 have e79 : a.eval (.tmp 79) = _ := H.v79 h1
 refine qc (v := (.pointer (some ⟨C.PB, 0, none⟩))) (w' := w) hag hdst (by decide) hw (fun _ _ => trivial) (by rw [hop]; intro c h; cases h) (by
  simp only [execOp, hop, e79];simp [go_sem]) ⟨c, H.f2⟩
theorem VR.q3 (H : VR C c d (vals a) w) (hag : Ag VIS a0 a) (HA : ActV C a0) (hw : Region.wanted o (yielded ops a.tmps) = true) (hdst : o.dst = some 81) (h2 : d 2 = true) (hop : o.op = .fieldAddr 96 (.tmp 80) 0) : StepIn Fence.wide N Tryz.prog ops Q VIS a0 (VRI C) d 3 o a w := by
 have e80 : a.eval (.tmp 80) = _ := H.v80 h2
 refine qc (v := (.pointer (some ⟨C.PB, 0, none⟩))) (w' := w) hag hdst (by decide) hw (fun _ _ => trivial) (by rw [hop]; intro c h; cases h) (by
  simp only [execOp, hop, e80];simp [go_sem]) ⟨c, H.f3⟩
theorem VR.q4 (H : VR C c d (vals a) w) (hag : Ag VIS a0 a) (HA : ActV C a0) (hw : Region.wanted o (yielded ops a.tmps) = true) (hdst : o.dst = some 82) (h3 : d 3 = true) (hop : o.op = .fieldAddr 56 (.tmp 81) 1) : StepIn Fence.wide N Tryz.prog ops Q VIS a0 (VRI C) d 4 o a w := by
 have e81 : a.eval (.tmp 81) = _ := H.v81 h3
 refine qc (v := (.pointer (some ⟨C.PB, 1, none⟩))) (w' := w) hag hdst (by decide) hw (fun _ _ => trivial) (by rw [hop]; intro c h; cases h) (by
  simp only [execOp, hop, e81];simp [go_sem]) ⟨c, H.f4⟩
theorem VR.q5 (H : VR C c d (vals a) w) (hag : Ag VIS a0 a) (HA : ActV C a0) (hw : Region.wanted o (yielded ops a.tmps) = true) (hdst : o.dst = some 83) (h4 : d 4 = true) (z10 : d 10 = false) (hop : o.op = .load 3 (.tmp 82)) : StepIn Fence.wide N Tryz.prog ops Q VIS a0 (VRI C) d 5 o a w := by
 have hN := (H.lv (H.n1 z10)).1;obtain ⟨m0, m1, m2⟩ := C.cells w hN;have e82 : a.eval (.tmp 82) = _ := H.v82 h4
 refine qc (v := (.int .i64 C.pm)) (w' := w) hag hdst (by decide) hw (fun _ _ => trivial) (by rw [hop]; intro c h; cases h) (by
  simp only [execOp, hop, e82];simp [go_sem, m2]) ⟨c, H.f5⟩
theorem VR.q6 (H : VR C c d (vals a) w) (hag : Ag VIS a0 a) (HA : ActV C a0) (hw : Region.wanted o (yielded ops a.tmps) = true) (hdst : o.dst = some 84) (h0 : d 0 = true) (h5 : d 5 = true) (hop : o.op = .binOp .lss 3 (.tmp 78) (.tmp 83) 3) : StepIn Fence.wide N Tryz.prog ops Q VIS a0 (VRI C) d 6 o a w := by
 have e78 : a.eval (.tmp 78) = _ := H.v78 h0;have e83 : a.eval (.tmp 83) = _ := H.v83 h5
 refine qc (v := (.bool C.B)) (w' := w) hag hdst (by decide) hw (fun _ _ => trivial) (by rw [hop]; intro c h; cases h) (by
  simp only [execOp, hop, e78, e83];simp [go_sem, VC.B]) ⟨c, H.f6⟩
theorem VR.q7 (H : VR C c d (vals a) w) (hag : Ag VIS a0 a) (HA : ActV C a0) (hw : Region.wanted o (yielded ops a.tmps) = true) (hdst : o.dst = some 85) (h6 : d 6 = true) (hop : o.op = .move (.tmp 84)) : StepIn Fence.wide N Tryz.prog ops Q VIS a0 (VRI C) d 7 o a w := by
 have e84 : a.eval (.tmp 84) = _ := H.v84 h6
 refine qc (v := (.bool C.B)) (w' := w) hag hdst (by decide) hw (fun _ _ => trivial) (by rw [hop]; intro c h; cases h) (by
  simp only [execOp, hop, e84];rfl) ⟨c, H.f7⟩
theorem VR.q8 (H : VR C c d (vals a) w) (hag : Ag VIS a0 a) (HA : ActV C a0) (hw : Region.wanted o (yielded ops a.tmps) = true) (hdst : o.dst = some 86) (g0 : C.B = true) (hop : o.op = .move (.tmp 0)) : StepIn Fence.wide N Tryz.prog ops Q VIS a0 (VRI C) d 8 o a w := by
 have e0 : a.eval (.tmp 0) = _ := (hag.old (by decide)).trans HA.t0
 refine qc (v := (.func (.yield C.lp) #[] #[])) (w' := w) hag hdst (by decide) hw (fun _ _ => trivial) (by rw [hop]; intro c h; cases h) (by
  simp only [execOp, hop, e0];rfl) ⟨c, H.f8 g0⟩
theorem VR.q9 (H : VR C c d (vals a) w) (hag : Ag VIS a0 a) (HA : ActV C a0) (hw : Region.wanted o (yielded ops a.tmps) = true) (hdst : o.dst = some 87) (g0 : C.B = true) (z10 : d 10 = false) (hop : o.op = .load 3 (.tmp 1)) : StepIn Fence.wide N Tryz.prog ops Q VIS a0 (VRI C) d 9 o a w := by
 have hN := (H.lv (H.n1 z10)).1;obtain ⟨m0, m1, m2⟩ := C.cells w hN;have e1 : a.eval (.tmp 1) = _ := (hag.old (by decide)).trans HA.t1
 refine qc (v := (.int .i64 (C.r : Int))) (w' := w) hag hdst (by decide) hw (fun _ _ => trivial) (by rw [hop]; intro c h; cases h) (by
  simp only [execOp, hop, e1];simp [go_sem, m0]) ⟨c, H.f9 g0⟩
theorem VR.q11 (H : VR C c d (vals a) w) (hag : Ag VIS a0 a) (HA : ActV C a0) (hw : Region.wanted o (yielded ops a.tmps) = true) (hdst : o.dst = some 89) (h10 : d 10 = true) (g0 : C.B = true) (hop : o.op = .unOp .not 4 (.tmp 88)) : StepIn Fence.wide N Tryz.prog ops Q VIS a0 (VRI C) d 11 o a w := by
 have e88 : a.eval (.tmp 88) = _ := H.v88 h10 g0
 refine qc (v := (.bool (!c))) (w' := w) hag hdst (by decide) hw (fun _ _ => trivial) (by rw [hop]; intro c h; cases h) (by
  simp only [execOp, hop, e88];simp [go_sem]) ⟨c, H.f11 g0⟩
theorem VR.q12 (H : VR C c d (vals a) w) (hag : Ag VIS a0 a) (HA : ActV C a0) (hw : Region.wanted o (yielded ops a.tmps) = true) (hdst : o.dst = some 90) (h7 : d 7 = true) (h11 : d 11 = true) (hop : o.op = .pick (.tmp 85) (.tmp 89) (.const (.bool false))) : StepIn Fence.wide N Tryz.prog ops Q VIS a0 (VRI C) d 12 o a w := by
 have e85 : a.eval (.tmp 85) = _ := H.v85 h7
 refine qc (v := .bool (!c)) (w' := w) hag hdst (by decide) hw (fun _ _ => trivial) (by rw [hop]; intro c h; cases h) (by
  cases hb : C.B
  ·rw [hb] at e85;have := H.b1 hb;subst this;simp only [execOp, hop, e85];rfl
  ·rw [hb] at e85;have e89 : a.eval (.tmp 89) = _ := H.v89 h11 hb;simp only [execOp, hop, e85, e89];rfl) ⟨c, H.f12⟩
theorem VR.s8 (H : VR C c d (vals a) w) (hag : Ag VIS a0 a) (hw : Region.wanted o (yielded ops a.tmps) = false) (hdst : o.dst = some 86) (g : C.B = false) : StepIn Fence.wide N Tryz.prog ops Q VIS a0 (VRI C) d 8 o a w :=
 qg hag hdst (by decide) hw (fun _ _ => trivial) ⟨c, H.u8 g⟩
theorem VR.s9 (H : VR C c d (vals a) w) (hag : Ag VIS a0 a) (hw : Region.wanted o (yielded ops a.tmps) = false) (hdst : o.dst = some 87) (g : C.B = false) : StepIn Fence.wide N Tryz.prog ops Q VIS a0 (VRI C) d 9 o a w :=
 qg hag hdst (by decide) hw (fun _ _ => trivial) ⟨c, H.u9 g⟩
theorem VR.s10 (H : VR C c d (vals a) w) (hag : Ag VIS a0 a) (hw : Region.wanted o (yielded ops a.tmps) = false) (hdst : o.dst = some 88) (g : C.B = false) : StepIn Fence.wide N Tryz.prog ops Q VIS a0 (VRI C) d 10 o a w :=
 qg hag hdst (by decide) hw (fun _ _ => trivial) ⟨c, H.u10 g⟩
theorem VR.s11 (H : VR C c d (vals a) w) (hag : Ag VIS a0 a) (hw : Region.wanted o (yielded ops a.tmps) = false) (hdst : o.dst = some 89) (g : C.B = false) : StepIn Fence.wide N Tryz.prog ops Q VIS a0 (VRI C) d 11 o a w :=
 qg hag hdst (by decide) hw (fun _ _ => trivial) ⟨c, H.u11 g⟩
def qhr (C : VC) (N : Nat) (ys : List Int) (v : Int) : Prop := ∀ W, C.J ys W -> YieldAt Fence.wide (N - 1) Tryz.prog C.lp #[.int .i64 v] W fun e W' => (e = .returned (.bool true) ∧ C.J (ys ++ [v]) W' ∧ CKeep C.Rc W W') ∨ (e = .returned (.bool false) ∧ C.Jx (ys ++ [v]) W')
theorem VR.q10 (H : VR C c d (vals a) w) (hag : Ag VIS a0 a) (HA : ActV C a0) (hw : Region.wanted o (yielded ops a.tmps) = true) (hdst : o.dst = some 88) (h8 : d 8 = true) (h9 : d 9 = true) (g0 : C.B = true) (hz : ∀ j, 10 ≤ j -> j < 13 -> d j = false)
 (hY : qhr C N C.ys C.r) (hop : o.op = .call { callee := .value (.tmp 86), args := #[.tmp 87], argTypes := #[3] }) : StepIn Fence.wide N Tryz.prog ops Q VIS a0 (VRI C) d 10 o a w := by
 have e1 : a.eval (.tmp 86) = _ := H.v86 h8 g0;have e2 : a.eval (.tmp 87) = _ := H.v87 h9 g0;have hL := H.lv (H.n1 (hz 10 (by omega) (by omega)));rw [hz 10 (by omega) (by omega), if_neg (by decide), List.append_nil] at hL;obtain ⟨fn5, tm5, as5, bd5, hy5, hR5⟩ := hY w hL.2
 refine q4x hag hdst (by decide) hw (fun _ _ => trivial) (by rw [hop]; intro c h; cases h) (fun h => by cases h) (by
  simp only [execOp, hop, resolve, e1, e2];simp [go_sem, e1, (by rw [<- Array.getD_eq_getD_getElem?]; exact e2 : a.tmps[87]?.getD undef = .int .i64 (C.r : Int)), hy5]) hR5 (fun e w' he => ?_)
 rcases he with ⟨rfl, h1, h2⟩ | ⟨rfl, h1⟩
 ·exact ⟨_, rfl, true, H.f10 hz g0 (fun _ => ⟨C.keep w w' hL.1 h2, h1⟩) (fun h => by cases h)⟩
 ·exact ⟨_, rfl, false, H.f10 hz g0 (fun h => by cases h) (fun _ => h1)⟩
end
structure V11Ops (ops : Array Oper) : Prop where
 sz : ops.size = 13
 eg : qex ops = true
 o0 : OpIs ops 0 78 none (.load 3 (.tmp 1)) []
 o1 : OpIs ops 1 79 none (.load 93 (.tmp 2)) []
 o2 : OpIs ops 2 80 none (.nilCheck (.tmp 79)) [1]
 o3 : OpIs ops 3 81 none (.fieldAddr 96 (.tmp 80) 0) [2]
 o4 : OpIs ops 4 82 none (.fieldAddr 56 (.tmp 81) 1) [3]
 o5 : OpIs ops 5 83 none (.load 3 (.tmp 82)) [4]
 o6 : OpIs ops 6 84 none (.binOp .lss 3 (.tmp 78) (.tmp 83) 3) [0, 5]
 o7 : OpIs ops 7 85 none (.move (.tmp 84)) [6]
 o8 : OpIs ops 8 86 (some (7, true)) (.move (.tmp 0)) [7]
 o9 : OpIs ops 9 87 (some (7, true)) (.load 3 (.tmp 1)) [7]
 o10 : OpIs ops 10 88 (some (7, true)) (.call { callee := .value (.tmp 86), args := #[.tmp 87], argTypes := #[3] }) [8, 9, 7]
 o11 : OpIs ops 11 89 (some (7, true)) (.unOp .not 4 (.tmp 88)) [10, 7]
 o12 : OpIs ops 12 90 none (.pick (.tmp 85) (.tmp 89) (.const (.bool false))) [7, 11]
theorem hzV {ops : Array Oper} (hO : V11Ops ops) {d : Nat -> Bool} (hcl : q5y ops d) (hdi : d 10 = false) : ∀ j, 10 ≤ j -> j < 13 -> d j = false := by
 intro j h1 h2
 rcases (show j = 10 ∨ j = 11 ∨ j = 12 by omega) with rfl | rfl | rfl
 ·exact hdi
 ·exact qk (fun h => (hO.o11.deps hcl h 10 (by decide))) hdi
 ·exact qk (fun h => (hO.o11.deps hcl (hO.o12.deps hcl h 11 (by decide)) 10 (by decide))) hdi
theorem qhm {C : VC} {N id : Nat} {ops : Array Oper} {Q : Exit -> Act -> World -> Prop} {a0 : Act} {w : World} (hm : (Tryz.prog).follows .mixedOrders = true) (hO : V11Ops ops) (hsl : ∀ k ∈ VIS, k < a0.tmps.size) (HA : ActV C a0) (hN : C.Need w.drew) (hJ : C.J C.ys w.drew)
 (hY : C.B = true -> qhr C N C.ys C.r)
 (hQ : ∀ (vs : Nat -> Value) w', (∀ k, k ∉ VIS -> vs k = vals a0 k) -> ((vs 90 = .bool false ∧ C.Need w' ∧ C.J (C.ys ++ C.q) w') ∨ (vs 90 = .bool true ∧ ∃ zs, zs <+: C.ys ++ C.q ∧ C.Jx zs w')) -> Q .normal (over a0 (VIS.map fun k => (k, vs k))) w') :
 (Code.region id ops true).wpIn Fence.wide N Tryz.prog Q a0 w := by
 refine qa0 hm VIS (VRI C) (qah hO.eg) hsl ⟨true, ?_⟩ ?_ ?_
 ·refine ⟨fun _ => ⟨hN, ?_⟩, (fun h => by cases h), (fun _ => rfl), (fun _ => rfl), (fun h => by cases h), (fun h => by cases h), (fun h => by cases h), (fun h => by cases h), (fun h => by cases h), (fun h => by cases h), (fun h => by cases h), (fun h => by cases h), (fun h => by cases h), (fun h => by cases h), (fun h => by cases h), (fun h => by cases h), (fun h => by cases h)⟩;rw [if_neg (by decide), List.append_nil];exact hJ
 ·rintro d a w' i o ho hdi hall hcl hag ⟨c, H⟩
  have hi : i < 13 := by
   rw [<- hO.sz];exact (Array.getElem?_eq_some_iff.1 ho).1
  rcases (show i = 0 ∨ i = 1 ∨ i = 2 ∨ i = 3 ∨ i = 4 ∨ i = 5 ∨ i = 6 ∨ i = 7 ∨ i = 8 ∨ i = 9 ∨ i = 10 ∨ i = 11 ∨ i = 12 by omega) with rfl | rfl | rfl | rfl | rfl | rfl | rfl | rfl | rfl | rfl | rfl | rfl | rfl
  ·obtain ⟨h1, h2, h3, h4⟩ := hO.o0.all ho hall;exact H.q0 hag HA (qz h2) h1 (qk (fun h => (hO.o6.deps hcl (hO.o7.deps hcl (hO.o10.deps hcl h 7 (by decide)) 6 (by decide)) 0 (by decide))) hdi) h3
  ·obtain ⟨h1, h2, h3, h4⟩ := hO.o1.all ho hall;exact H.q1 hag HA (qz h2) h1 (qk (fun h => (hO.o2.deps hcl (hO.o3.deps hcl (hO.o4.deps hcl (hO.o5.deps hcl (hO.o6.deps hcl (hO.o7.deps hcl (hO.o10.deps hcl h 7 (by decide)) 6 (by decide)) 5 (by decide)) 4 (by decide)) 3 (by decide)) 2 (by decide)) 1 (by decide))) hdi) h3
  ·obtain ⟨h1, h2, h3, h4⟩ := hO.o2.all ho hall;exact H.q2 hag HA (qz h2) h1 (h4 1 (by decide)) h3
  ·obtain ⟨h1, h2, h3, h4⟩ := hO.o3.all ho hall;exact H.q3 hag HA (qz h2) h1 (h4 2 (by decide)) h3
  ·obtain ⟨h1, h2, h3, h4⟩ := hO.o4.all ho hall;exact H.q4 hag HA (qz h2) h1 (h4 3 (by decide)) h3
  ·obtain ⟨h1, h2, h3, h4⟩ := hO.o5.all ho hall;exact H.q5 hag HA (qz h2) h1 (h4 4 (by decide)) (qk (fun h => (hO.o6.deps hcl (hO.o7.deps hcl (hO.o10.deps hcl h 7 (by decide)) 6 (by decide)) 5 (by decide))) hdi) h3
  ·obtain ⟨h1, h2, h3, h4⟩ := hO.o6.all ho hall;exact H.q6 hag HA (qz h2) h1 (h4 0 (by decide)) (h4 5 (by decide)) h3
  ·obtain ⟨h1, h2, h3, h4⟩ := hO.o7.all ho hall;exact H.q7 hag HA (qz h2) h1 (h4 6 (by decide)) h3
  ·obtain ⟨h1, h2, h3, h4⟩ := hO.o8.all ho hall;have hwn := qp h2 hO.o7 (by rw [hag.sz]; exact hsl 85 (by decide)) (H.v85 (h4 7 (by decide)))
   cases hb : C.B
   ·rw [hb] at hwn;exact H.s8 hag hwn h1 hb
   ·rw [hb] at hwn;exact H.q8 hag HA hwn h1 hb h3
  ·obtain ⟨h1, h2, h3, h4⟩ := hO.o9.all ho hall;have hwn := qp h2 hO.o7 (by rw [hag.sz]; exact hsl 85 (by decide)) (H.v85 (h4 7 (by decide)))
   cases hb : C.B
   ·rw [hb] at hwn;exact H.s9 hag hwn h1 hb
   ·rw [hb] at hwn;exact H.q9 hag HA hwn h1 hb (qk (fun h => (hO.o10.deps hcl h 9 (by decide))) hdi) h3
  ·obtain ⟨h1, h2, h3, h4⟩ := hO.o10.all ho hall;have hwn := qp h2 hO.o7 (by rw [hag.sz]; exact hsl 85 (by decide)) (H.v85 (h4 7 (by decide)))
   cases hb : C.B
   ·rw [hb] at hwn;exact H.s10 hag hwn h1 hb
   ·rw [hb] at hwn;exact H.q10 hag HA hwn h1 (h4 8 (by decide)) (h4 9 (by decide)) hb (hzV hO hcl hdi) (hY hb) h3
  ·obtain ⟨h1, h2, h3, h4⟩ := hO.o11.all ho hall;have hwn := qp h2 hO.o7 (by rw [hag.sz]; exact hsl 85 (by decide)) (H.v85 (h4 7 (by decide)))
   cases hb : C.B
   ·rw [hb] at hwn;exact H.s11 hag hwn h1 hb
   ·rw [hb] at hwn;exact H.q11 hag HA hwn h1 (h4 10 (by decide)) hb h3
  ·obtain ⟨h1, h2, h3, h4⟩ := hO.o12.all ho hall;exact H.q12 hag HA (qz h2) h1 (h4 7 (by decide)) (h4 11 (by decide)) h3
 ·rintro d vs w' hall hold ⟨c, H⟩;have hd : ∀ k, k < 13 -> d k = true := fun k hk => hall k (by rw [hO.sz]; exact hk);have hv := H.v90 (hd 12 (by omega));refine hQ vs w' hold ?_
  cases c
  ·refine .inr ⟨hv, C.ys ++ [(C.r : Int)], ?_, H.x1 rfl⟩
   have hb : C.B = true := by
    cases hb : C.B
    ·have := H.b1 hb
     cases this
    ·rfl
   have hq : C.q = [(C.r : Int)] := if_pos hb;rw [hq];exact List.prefix_refl _
  ·have hl := H.lv rfl;rw [hd 10 (by omega), if_pos rfl] at hl;exact .inl ⟨hv, hl⟩
end Go.Proofs.YtdanebboiekieaaGreatDoor
namespace Go.Proofs.YtdanebboiekieaaGreatDoor
open Go.RowKit Go.Shelf
attribute [local go_sem] Oper.semAt_some
def asksI (pl : List Int) (r : Int) (x : UIns) : List Int :=
 if x.op = 1 ∧ x.a.reg = true then (if x.a.n = r then [iAt pl x.dst.toNat] else []) ++ (if x.dst = r then [iAt pl x.a.n.toNat] else []) else []
def asksJ (pl : List Int) (r : Int) (b : UBlk) : List Int := b.list.flatMap (asksI pl r)
structure WP where
 f : UFun
 pl : List Int
 gv : List Int
 r : Nat
 nm : Value
 clV : Value
 acV : Value
 A : Option Addr
 cb : Nat
 PB : Nat
 Br : Nat
 Bp : Nat
 gp : Nat
 cp : Nat
 gg : Nat
 cg : Nat
 b0 : Nat
 Rc : Nat
 n : Nat
 hlen : pl.length = n
 hx : ∀ b ∈ f.blocks, ∀ x ∈ b.list, x.op = 1 -> x.a.reg = true -> (0 ≤ x.dst ∧ x.dst < (n : Int)) ∧ (0 ≤ x.a.n ∧ x.a.n < (n : Int))
def WP.wishL (P : WP) : List Int := P.f.blocks.flatMap (asksJ P.pl P.r) ++ (if (P.r : Int) < P.f.params then [(P.r : Int)] else []) ++ P.gv
structure WishN (P : WP) (W : World) : Prop where
 rb : W.heap[P.Br]? = some (.cells #[.int .i64 (P.r : Int)] 3 (0, 0))
 pb : W.heap[P.Bp]? = some (.cells #[.pointer (some ⟨P.PB, 0, none⟩)] 93 (0, 0))
 bx : W.heap[P.PB]? = some (.cells #[P.nm, .int .i64 P.f.params, .int .i64 P.f.regs, .slice P.A P.f.blocks.length P.cb, P.clV, P.acV, .slice (some ⟨P.gg, 0, none⟩) P.gv.length P.cg, .slice (some ⟨P.gp, 0, none⟩) P.n P.cp] 96 (0, 0))
 bl : rpBlk.SL W P.b0 P.f.blocks (.slice P.A P.f.blocks.length P.cb)
 pl : IntAt P.gp P.pl W
 gv : IntAt P.gg P.gv W
 ne : P.Br ≠ P.Rc ∧ P.Bp ≠ P.Rc ∧ P.PB ≠ P.Rc ∧ P.gp ≠ P.Rc ∧ P.gg ≠ P.Rc
 le : P.b0 ≤ P.Rc
 lt : P.Rc < W.heap.size
theorem IntAt.keep {g Rc : Nat} {S : List Int} {w w' : World} (h : IntAt g S w) (hk : CKeep Rc w w') (hn : g ≠ Rc) : IntAt g S w' := h.block fun o ho hc => hk.2 _ o ho hc hn
theorem WishN.keep {P : WP} {W W' : World} (h : WishN P W) (hk : CKeep P.Rc W W') : WishN P W' :=
 ⟨hk.blk h.rb h.ne.1, hk.blk h.pb h.ne.2.1, hk.blk h.bx h.ne.2.2.1, h.bl.mono (fun p u hp hc => hk.cell hc (by have := h.le; omega)), h.pl.keep hk h.ne.2.2.2.1, h.gv.keep hk h.ne.2.2.2.2, h.ne, h.le, Nat.lt_of_lt_of_le h.lt hk.1⟩
def WP.wB (P : WP) (b : Nat) : List Int := (P.f.blocks.take b).flatMap (asksJ P.pl P.r)
def WP.wI (P : WP) (b j : Nat) (bk : UBlk) : List Int := P.wB b ++ (bk.list.take j).flatMap (asksI P.pl P.r)
theorem WP.wB_step (P : WP) {b : Nat} (h : b < P.f.blocks.length) : P.wB (b + 1) = P.wI b P.f.blocks[b].list.length P.f.blocks[b] := by
 unfold WP.wB WP.wI WP.wB;rw [List.take_succ_eq_append_getElem h, List.flatMap_append, List.take_length];simp [asksJ]
theorem WP.wI_step (P : WP) {b j : Nat} {bk : UBlk} (h : j < bk.list.length) : P.wI b (j + 1) bk = P.wI b j bk ++ asksI P.pl P.r bk.list[j] := by
 unfold WP.wI;rw [List.take_succ_eq_append_getElem h, List.flatMap_append];simp
theorem q3d {α β : Type} (f : α -> List β) (l : List α) (k : Nat) : (l.take k).flatMap f <+: l.flatMap f := by
 have : l.flatMap f = (l.take k).flatMap f ++ (l.drop k).flatMap f := by rw [<- List.flatMap_append, List.take_append_drop]
 rw [this];exact List.prefix_append _ _
theorem WP.wB_pre (P : WP) (b : Nat) : P.wB b <+: P.wishL := by
 unfold WP.wB WP.wishL;rw [List.append_assoc];exact (q3d _ _ _).trans (List.prefix_append _ _)
theorem WP.wI_pre (P : WP) {b : Nat} (j : Nat) (h : b < P.f.blocks.length) : P.wI b j P.f.blocks[b] <+: P.wishL := by
 refine List.IsPrefix.trans ?_ (P.wB_pre (b + 1));rw [P.wB_step h];unfold WP.wI;rw [List.take_length];exact (List.prefix_append_right_inj _).2 (q3d _ _ _)
theorem WP.wB_end (P : WP) : P.wB P.f.blocks.length = P.f.blocks.flatMap (asksJ P.pl P.r) := by
 unfold WP.wB;rw [List.take_length]
def WP.wP (P : WP) : List Int := P.wB P.f.blocks.length ++ (if (P.r : Int) < P.f.params then [(P.r : Int)] else [])
theorem WP.wG_pre (P : WP) (k : Nat) : P.wP ++ P.gv.take k <+: P.wishL := by
 unfold WP.wP WP.wishL;rw [P.wB_end];exact (List.prefix_append_right_inj _).2 (List.take_prefix _ _)
theorem WP.wG_end (P : WP) : P.wP ++ P.gv.take P.gv.length = P.wishL := by
 unfold WP.wP WP.wishL;rw [P.wB_end, List.take_length]
theorem CKeep.drew (g : Nat) (W : World) : CKeep g W W.drew := ⟨Nat.le_refl _, fun _ _ h _ _ => h⟩
end Go.Proofs.YtdanebboiekieaaGreatDoor
namespace Go.Proofs.YtdanebboiekieaaGreatDoor
open Go.RowKit Go.Shelf
attribute [local go_sem] Oper.semAt_some
theorem qho (N : Nat) (hN1 : 1 ≤ N) (lp : Nat) (P : WP) (n₀ : Nat) (J Jx : List Int -> World -> Prop) (hmx : P.f.blocks.length ≤ maxLen ∧ P.gv.length ≤ maxLen ∧ ∀ b ∈ P.f.blocks, b.list.length ≤ maxLen) (hJ : AbidesFrom n₀ J)
 (hY : ∀ (pre : List Int) (v : Int), pre ++ [v] <+: P.wishL -> ∀ W, J pre W -> YieldAt Fence.wide (N - 1) Tryz.prog lp #[.int .i64 v] W fun e W' => (e = .returned (.bool true) ∧ J (pre ++ [v]) W' ∧ CKeep P.Rc W W') ∨ (e = .returned (.bool false) ∧ Jx (pre ++ [v]) W'))
 (W : World) (hN : WishN P W) (h0 : J [] W) :
 CallsIn Fence.wide N Tryz.prog 104 #[.func (.yield lp) #[] #[], .pointer (some ⟨P.Br, 0, none⟩), .pointer (some ⟨P.Bp, 0, none⟩)] W fun e W' => (∃ v, e = .returned v) ∧
  (J P.wishL W' ∨ (∃ pre : List Int, pre <+: P.wishL ∧ Jx pre W')) := by
 obtain ⟨HY, HJ, HN, H0⟩ := lh4 hY hJ hN h0;unfold maxLen at hmx;obtain ⟨hm1, hm2, hm3⟩ := hmx;clear hY h0 hJ;have x0 : W.cell? ⟨P.Br, 0, none⟩ = some (.int .i64 (P.r : Int)) := by rw [qb hN.rb]; rfl
 have lx := qa hN.rb;have W4e : ∃ W4, W4 = W.alloc (Obj.cells #[.bool true, .int .i64 (P.r : Int)] 64) := ⟨_, rfl⟩;obtain ⟨W4, hW4⟩ := W4e;have hb4 : Below W.heap.size W W4 := by subst hW4; exact bl0
 have HN4 := lh (hN.keep (CKeep.of_below hb4));have HJ4 := lh (qt HJ.out H0.out hb4);obtain ⟨B4, hB4⟩ := nmm (W.heap.size);have hV4 : W4.heap[B4]? = some (.cells #[.bool true, .int .i64 (P.r : Int)] 64 (0, 0)) := by subst hW4 hB4; exact heap_alloc_new _ _
 have HV4 := lh hV4;have hB4r : B4 ≠ P.Rc := by have := hN.lt; omega
 have HW4 := lh hW4.symm;have y0 : W4.cell? ⟨P.Bp, 0, none⟩ = some (.pointer (some ⟨P.PB, 0, none⟩)) := by rw [qb HN4.out.pb]; rfl
 have y1 : W4.cell? ⟨P.PB, 3, none⟩ = some (.slice P.A P.f.blocks.length P.cb) := by rw [qb HN4.out.bx]; rfl
 have ly := qa HN4.out.pb;have lz := qa HN4.out.bx;clear hN hb4 hV4 hW4;refine callsIn_of_wp Tryz.func104 rfl trivial ?_ rfl;simp only [Tryz.ntmps104, List.size_toArray, List.length_cons, List.length_nil, Nat.reduceAdd, Nat.reduceSub, Array.replicate_succ, Array.replicate_zero, List.push_toArray, List.append_toArray, List.nil_append, List.cons_append]
 gi_upto_region 1 with fail
 rw [HW4.out, <- hB4];clear hB4
 gi_wp2
 clear x0 lx y0 y1 ly lz
 gi_loopw [19] (fun i wr => ∃ (b : Nat), b ≤ P.f.blocks.length ∧ i = .int .i64 (b : Int) ∧ Hid (J (P.wB b) wr) ∧ Hid (WishN P wr) ∧ Hid (wr.heap[B4]? = some (.cells #[.bool true, .int .i64 (P.r : Int)] 64 (0, 0))))
  (fun i _ => P.f.blocks.length - (intOf i).toNat)
 case atStart => exact ⟨0, Nat.zero_le _, rfl, HJ4, HN4, HV4⟩
 case round =>
  obtain ⟨b, hb, rfl, HJr, HNr, HVr⟩ := hrel
  by_cases hlt : b < P.f.blocks.length
  ·obtain ⟨b9, off9, vp, vl, vt, hA9, hb9, hp, hl, ht, q0, q1, q2, q3, q4, q5⟩ := HNr.out.bl.blk_at hlt;obtain ⟨Ap, cp, rfl, _, _, hp⟩ := hp.cases_;obtain ⟨Al, cl, rfl, hlm, _, hl⟩ := hl.cases_;obtain ⟨At, ct, rfl, _, _, ht⟩ := ht.cases_;obtain ⟨F, hF⟩ := q6d hl;obtain ⟨bk, hbk⟩ : ∃ bk, bk = P.f.blocks[b] := ⟨_, rfl⟩;have Hbk := lh hbk;rw [<- hbk] at hF q0 q1 q2 q3 q4 q5 hlm;have Hm := lh (hm3 bk (by rw [hbk]; exact List.getElem_mem hlt));have Hx := lh (P.hx bk (by rw [hbk]; exact List.getElem_mem hlt));have HF := lh hF;have lb9 : b9 < wr.heap.size := World.block_lt_of_cell? wr _ q0;have k1 := nnn b;have k2 : (b : Int) < (P.f.blocks.length : Int) := by omega
   obtain ⟨W6, hW6⟩ : ∃ W6, W6 = wr.alloc (Obj.cells #[.slice Ap bk.phis.length cp, .slice Al bk.list.length cl, .int .i64 bk.end_.kind, .bool bk.end_.on.reg, .int .i64 bk.end_.on.n, .slice At bk.end_.to.length ct] 68) := ⟨_, rfl⟩;have hb6 : Below wr.heap.size wr W6 := by subst hW6; exact bl0
   obtain ⟨BX, hBX⟩ := nmm (wr.heap.size);have hX6 : W6.heap[BX]? = some (.cells #[.slice Ap bk.phis.length cp, .slice Al bk.list.length cl, .int .i64 bk.end_.kind, .bool bk.end_.on.reg, .int .i64 bk.end_.on.n, .slice At bk.end_.to.length ct] 68 (0, 0)) := by subst hW6 hBX; exact heap_alloc_new _ _
   have hk6 := CKeep.of_below (g := P.Rc) hb6;have HN6 := lh (HNr.out.keep hk6)
   have HJ6 : Hid (J (P.wI b 0 bk) W6) := lh (by
    have := qt HJ.out HJr.out hb6;simpa [WP.wI] using this)
   have HF6 := lh (HF.out.keep hk6 HNr.out.le);have HV6 := lh (hk6.blk HVr.out hB4r);obtain ⟨x0, x1, x2, x3, x4, x5⟩ := q1d hX6;have lX := qa hX6;have HW6 := lh hW6.symm;have HA9 := lh hA9;rw [hA9];clear hp hl ht hF hbk hb6 hk6 hW6 hX6 HJr HVr
   gi_upto_region 4 with fail
   rw [HW6.out, <- hBX];clear q0 q1 q2 q3 q4 q5 lb9 hBX
   gi_wp2
   clear x0 x1 x2 x3 x4 x5 lX
   gi_loopw [26] (fun i wr => ∃ (j : Nat), j ≤ bk.list.length ∧ i = .int .i64 (j : Int) ∧ Hid (J (P.wI b j bk) wr) ∧ Hid (WishN P wr) ∧ Hid (wr.heap[B4]? = some (.cells #[.bool true, .int .i64 (P.r : Int)] 64 (0, 0))) ∧ Hid (InsRow bk.list F P.b0 Al wr))
    (fun i _ => bk.list.length - (intOf i).toNat)
   case atStart => exact ⟨0, Nat.zero_le _, rfl, HJ6, HN6, HV6, HF6⟩
   case round =>
    clear HNr HN6 HJ6 HF6 HV6;obtain ⟨j, hj, rfl, HJr, HNr, HVr, HFr⟩ := hrel
    by_cases hltj : j < bk.list.length
    ·obtain ⟨ba, oa, hAl, hba, hva, i0, i1, i2, i3, i4, i5, i6, i7⟩ := HFr.out j hltj;obtain ⟨x, hxe⟩ : ∃ x, x = bk.list[j] := ⟨_, rfl⟩;have Hst : Hid (P.wI b (j + 1) bk = P.wI b j bk ++ asksI P.pl P.r x) := lh (by rw [P.wI_step hltj, hxe])
     have Hpr : Hid (P.wI b j bk ++ asksI P.pl P.r x <+: P.wishL) := lh (by
      have := P.wI_pre (j + 1) hlt;rw [<- Hbk.out, Hst.out] at this;exact this)
     have Hxx := lh (Hx.out x (by rw [hxe]; exact List.getElem_mem hltj));obtain ⟨Aa, ca, hFj, _, _, _⟩ := hva.cases_;rw [hFj] at i7;rw [<- hxe] at i0 i1 i2 i3 i4 i5 i6 i7;have lba : ba < wr.heap.size := World.block_lt_of_cell? wr _ i0;have j1 := nnn j;have j2 : (j : Int) < (bk.list.length : Int) := by omega
     obtain ⟨W8, hW8⟩ : ∃ W8, W8 = wr.alloc (Obj.cells #[.int .i64 x.op, .int .i64 x.dst, .bool x.a.reg, .int .i64 x.a.n, .bool x.b.reg, .int .i64 x.b.n, .int .i64 x.fn, .slice Aa x.args.length ca] 71) := ⟨_, rfl⟩;have hb8 : Below wr.heap.size wr W8 := by subst hW8; exact bl0
     obtain ⟨B8, hB8⟩ := nmm (wr.heap.size);have hX8 : W8.heap[B8]? = some (.cells #[.int .i64 x.op, .int .i64 x.dst, .bool x.a.reg, .int .i64 x.a.n, .bool x.b.reg, .int .i64 x.b.n, .int .i64 x.fn, .slice Aa x.args.length ca] 71 (0, 0)) := by subst hW8 hB8; exact heap_alloc_new _ _
     have hk8 := CKeep.of_below (g := P.Rc) hb8;have HN8 := lh (HNr.out.keep hk8);have HJ8 : Hid (J (P.wI b j bk) W8) := lh (qt HJ.out HJr.out hb8);have HF8 : Hid (InsRow bk.list F P.b0 (some ⟨ba, oa, none⟩) W8) := lh (by rw [<- hAl]; exact HFr.out.keep hk8 HNr.out.le);have HV8 := lh (hk8.blk HVr.out hB4r);have hB8r : B8 ≠ P.Rc := by have := HNr.out.lt; omega
     have HX8 := lh hX8;have HW8 := lh hW8.symm;rw [hAl];clear hb8 hk8 hW8 hX8 HJr HVr hva hxe
     gi_upto_region 7 with fail
     rw [HW8.out, <- hB8];clear i0 i1 i2 i3 i4 i5 i6 i7 lba hB8;have c0 : W8.cell? ⟨B8, 0, none⟩ = some (.int .i64 x.op) := cqq HX8.out;have c2 : W8.cell? ⟨B8, 2, none⟩ = some (.bool x.a.reg) := cqq HX8.out;have lX := qa HX8.out
     by_cases h1 : x.op = 1
     ·by_cases h2 : x.a.reg = true
      ·have hd := (Hxx.out h1 h2).1;have ha := (Hxx.out h1 h2).2;rw [h1] at c0;rw [h2] at c2
       gi_upto_region 8 with fail
       obtain ⟨C, hC⟩ : ∃ C : WC, C = ⟨x, .slice Aa x.args.length ca, P.r, P.n, P.gp, P.cp, P.Br, P.Bp, P.PB, B4, B8, P.Rc, lp, 0, P.pl, P.wI b j bk, J, Jx,
        fun w => WishN P w ∧ w.heap[B4]? = some (.cells #[.bool true, .int .i64 (P.r : Int)] 64 (0, 0)) ∧ w.heap[B8]? = some (.cells #[.int .i64 x.op, .int .i64 x.dst, .bool x.a.reg, .int .i64 x.a.n, .bool x.b.reg, .int .i64 x.b.n, .int .i64 x.fn, .slice Aa x.args.length ca] 71 (0, 0)) ∧ InsRow bk.list F P.b0 (some ⟨ba, oa, none⟩) w,
        P.hlen, h2, hd, ha, fun w h => ⟨by rw [qb h.1.rb]; rfl, by rw [qb h.1.pb]; rfl, by rw [qb h.1.bx]; rfl, h.2.2.1, h.2.1, h.1.pl⟩, fun w w' h hk => ⟨h.1.keep hk, hk.blk h.2.1 hB4r, hk.blk h.2.2.1 hB8r, h.2.2.2.keep hk h.1.le⟩⟩ := ⟨_, rfl⟩
       have Cq : asksI P.pl P.r x = C.q1 ++ C.q2 := by
        subst hC;simp [asksI, h1, h2, WC.q1, WC.q2, WC.B1, WC.B2, WC.p1, WC.p2]
       have HC := lh hC;have Hst2 : Hid (P.wI b (j + 1) bk = C.ys ++ C.q1 ++ C.q2) := lh (by rw [Hst.out, Cq, List.append_assoc, hC])
       have Hpr2 : Hid (C.ys ++ C.q1 ++ C.q2 <+: P.wishL) := lh (by
        have := Hpr.out;rw [Cq, <- List.append_assoc] at this;rw [hC] at this ⊢;exact this)
       clear Cq
       gi_cut [75] from 105 (fun s75 wx => (s75 = .bool false ∧ Hid (C.Need wx) ∧ Hid (C.J (C.ys ++ C.q1 ++ C.q2) wx)) ∨ (s75 = .bool true ∧ ∃ zs, Hid (zs <+: C.ys ++ C.q1 ++ C.q2) ∧ Hid (C.Jx zs wx)))
       case first =>
        rename_i K1 K2 hJ1 hK1;refine qkn (C := C) (by kernel_rfl) ⟨rfl, by decide +kernel, ⟨_, rfl, rfl, rfl, rfl, by decide +kernel⟩, ⟨_, rfl, rfl, rfl, rfl, by decide +kernel⟩, ⟨_, rfl, rfl, rfl, rfl, by decide +kernel⟩, ⟨_, rfl, rfl, rfl, rfl, by decide +kernel⟩, ⟨_, rfl, rfl, rfl, rfl, by decide +kernel⟩, ⟨_, rfl, rfl, rfl, rfl, by decide +kernel⟩, ⟨_, rfl, rfl, rfl, rfl, by decide +kernel⟩, ⟨_, rfl, rfl, rfl, rfl, by decide +kernel⟩, ⟨_, rfl, rfl, rfl, rfl, by decide +kernel⟩, ⟨_, rfl, rfl, rfl, rfl, by decide +kernel⟩, ⟨_, rfl, rfl, rfl, rfl, by decide +kernel⟩, ⟨_, rfl, rfl, rfl, rfl, by decide +kernel⟩, ⟨_, rfl, rfl, rfl, rfl, by decide +kernel⟩, ⟨_, rfl, rfl, rfl, rfl, by decide +kernel⟩, ⟨_, rfl, rfl, rfl, rfl, by decide +kernel⟩, ⟨_, rfl, rfl, rfl, rfl, by decide +kernel⟩, ⟨_, rfl, rfl, rfl, rfl, by decide +kernel⟩, ⟨_, rfl, rfl, rfl, rfl, by decide +kernel⟩, ⟨_, rfl, rfl, rfl, rfl, by decide +kernel⟩, ⟨_, rfl, rfl, rfl, rfl, by decide +kernel⟩, ⟨_, rfl, rfl, rfl, rfl, by decide +kernel⟩, ⟨_, rfl, rfl, rfl, rfl, by decide +kernel⟩, ⟨_, rfl, rfl, rfl, rfl, by decide +kernel⟩, ⟨_, rfl, rfl, rfl, rfl, by decide +kernel⟩, ⟨_, rfl, rfl, rfl, rfl, by decide +kernel⟩, ⟨_, rfl, rfl, rfl, rfl, by decide +kernel⟩, ⟨_, rfl, rfl, rfl, rfl, by decide +kernel⟩, ⟨_, rfl, rfl, rfl, rfl, by decide +kernel⟩, ⟨_, rfl, rfl, rfl, rfl, by decide +kernel⟩, ⟨_, rfl, rfl, rfl, rfl, by decide +kernel⟩, ⟨_, rfl, rfl, rfl, rfl, by decide +kernel⟩, ⟨_, rfl, rfl, rfl, rfl, by decide +kernel⟩, ⟨_, rfl, rfl, rfl, rfl, by decide +kernel⟩, ⟨_, rfl, rfl, rfl, rfl, by decide +kernel⟩, ⟨_, rfl, rfl, rfl, rfl, by decide +kernel⟩, ⟨_, rfl, rfl, rfl, rfl, by decide +kernel⟩, ⟨_, rfl, rfl, rfl, rfl, by decide +kernel⟩⟩ (by simp [WIS]) ?act ?need ?start ?y1 ?y2 ?fin
        case act => subst hC; exact ⟨rfl, rfl, rfl, rfl, rfl⟩
        case need => subst hC; exact ⟨HN8.out.keep (CKeep.drew _ _), HV8.out, HX8.out, HF8.out.keep (CKeep.drew _ _) HN8.out.le⟩
        case start => subst hC; exact qt HJ.out HJ8.out (Below.refl _ _).drew
        case y1 =>
         intro hB;have hq : C.q1 = [C.p1] := if_pos hB
         have hp1 : C.ys ++ [C.p1] <+: P.wishL := by
          refine List.IsPrefix.trans ?_ Hpr2.out;rw [hq];exact List.prefix_append _ _
         subst hC;exact HY.out _ _ hp1
        case y2 =>
         intro hB;have hq : C.q2 = [C.p2] := if_pos hB
         have hp1 : C.ys ++ C.q1 ++ [C.p2] <+: P.wishL := by
          refine List.IsPrefix.trans ?_ Hpr2.out;rw [hq];exact List.prefix_refl _
         subst hC;exact HY.out _ _ hp1
        case fin =>
         intro vs w' hold hres;simp only [WIS, List.map_cons, List.map_nil, over, List.foldl_cons, List.foldl_nil, Act.put];refine hK1 _ _ (Met.intro (hJ1 _ _ ?_))
         repeat apply Exists.intro
         refine ⟨?rel, by simp; (repeat refine ⟨rfl, ?_⟩); rfl⟩
         rcases hres with ⟨h75, hn, hj⟩ | ⟨h75, zs, hz, hx⟩
         ·exact .inl ⟨h75, lh hn, lh hj⟩
         ·exact .inr ⟨h75, zs, lh hz, lh hx⟩
       case rest =>
        rcases hcut with ⟨rfl, hn, hj⟩ | ⟨rfl, zs, hz, hx⟩
        ·have HJ9 : Hid (J (P.wI b (j + 1) bk) wc) := lh (by
          have := hj.out;rw [<- Hst2.out, HC.out] at this;exact this)
         have hn9 : WishN P wc ∧ wc.heap[B4]? = some (.cells #[.bool true, .int .i64 (P.r : Int)] 64 (0, 0)) ∧ wc.heap[B8]? = some (.cells #[.int .i64 x.op, .int .i64 x.dst, .bool x.a.reg, .int .i64 x.a.n, .bool x.b.reg, .int .i64 x.b.n, .int .i64 x.fn, .slice Aa x.args.length ca] 71 (0, 0)) ∧ InsRow bk.list F P.b0 (some ⟨ba, oa, none⟩) wc := by
          have := hn.out;rw [HC.out] at this;exact this
         have HN9 := lh hn9.1;have HV9 := lh hn9.2.1;have HF9 := lh hn9.2.2.2;clear hn9 hC
         gi_wp2
         go_roundw
         case rel => exact ⟨j + 1, by omega, by go_num, HJ9, HN9, HV9, HF9⟩
         case measure => simp [intOf] <;> omega
        ·have hx9 : Jx zs wc := by
          have := hx.out;rw [HC.out] at this;exact this
         have hz9 : zs <+: P.wishL := hz.out.trans Hpr2.out;obtain ⟨Hx9, Hz9⟩ := lh2 hx9 hz9;clear hx9 hz9 hC
         gi_wp2
         refine bodyPost_ret (results_none rfl _ _ _) rfl ?_;exact ⟨⟨_, rfl⟩, .inr ⟨zs, Hz9.out, Hx9.out⟩⟩
      ·have h2 : x.a.reg = false := by simpa using h2
       have h3 : asksI P.pl P.r x = [] := by simp [asksI, h2]
       have Hst2 : Hid (P.wI b (j + 1) bk = P.wI b j bk) := lh (by rw [Hst.out, h3, List.append_nil]);rw [h1] at c0;rw [h2] at c2
       gi_wp2
       go_roundw
       case rel => exact ⟨j + 1, by omega, by go_num, lh (by rw [Hst2.out]; exact HJ8.out), HN8, HV8, HF8⟩
       case measure => simp [intOf] <;> omega
     ·have h3 : asksI P.pl P.r x = [] := by simp [asksI, h1]
      have Hst2 : Hid (P.wI b (j + 1) bk = P.wI b j bk) := lh (by rw [Hst.out, h3, List.append_nil])
      gi_wp2
      go_roundw
      case rel => exact ⟨j + 1, by omega, by go_num, lh (by rw [Hst2.out]; exact HJ8.out), HN8, HV8, HF8⟩
      case measure => simp [intOf] <;> omega
    ·have hje : j = bk.list.length := by omega
     subst hje;have j3 : ¬ ((bk.list.length : Int) < (bk.list.length : Int)) := by omega
     have Hst : Hid (P.wB (b + 1) = P.wI b bk.list.length bk) := lh (by rw [P.wB_step hlt, <- Hbk.out])
     gi_wp2
     go_roundw
     case rel => exact ⟨b + 1, by omega, by go_num, lh (by rw [Hst.out]; exact HJr.out), HNr, HVr⟩
     case measure => simp [intOf] <;> omega
  ·have hbe : b = P.f.blocks.length := by omega
   subst hbe;have k3 : ¬ ((P.f.blocks.length : Int) < (P.f.blocks.length : Int)) := by omega
   clear HN4 HJ4 HV4 HVr
   gi_upto_region 11 with fail
   obtain ⟨C, hC⟩ : ∃ C : VC, C = ⟨P.r, P.f.params, P.PB, P.Br, P.Bp, P.Rc, lp, P.wB P.f.blocks.length, J, Jx, WishN P,
    fun w h => ⟨by rw [qb h.rb]; rfl, by rw [qb h.pb]; rfl, by rw [qb h.bx]; rfl⟩, fun w w' h hk => h.keep hk⟩ := ⟨_, rfl⟩
   have HC := lh hC
   have Hq : Hid (C.ys ++ C.q = P.wP) := lh (by
    subst hC;simp [WP.wP, VC.q, VC.B])
   have Hpr : Hid (P.wP <+: P.wishL) := lh (by
    have := P.wG_pre 0;simpa using this)
   gi_cut [90] from 105 (fun s90 wx => (s90 = .bool false ∧ Hid (WishN P wx) ∧ Hid (J P.wP wx)) ∨ (s90 = .bool true ∧ ∃ zs, Hid (zs <+: P.wishL) ∧ Hid (Jx zs wx)))
   case first =>
    rename_i K1 K2 hJ1 hK1;refine qhm (C := C) (by kernel_rfl) ⟨rfl, by decide +kernel, ⟨_, rfl, rfl, rfl, rfl, by decide +kernel⟩, ⟨_, rfl, rfl, rfl, rfl, by decide +kernel⟩, ⟨_, rfl, rfl, rfl, rfl, by decide +kernel⟩, ⟨_, rfl, rfl, rfl, rfl, by decide +kernel⟩, ⟨_, rfl, rfl, rfl, rfl, by decide +kernel⟩, ⟨_, rfl, rfl, rfl, rfl, by decide +kernel⟩, ⟨_, rfl, rfl, rfl, rfl, by decide +kernel⟩, ⟨_, rfl, rfl, rfl, rfl, by decide +kernel⟩, ⟨_, rfl, rfl, rfl, rfl, by decide +kernel⟩, ⟨_, rfl, rfl, rfl, rfl, by decide +kernel⟩, ⟨_, rfl, rfl, rfl, rfl, by decide +kernel⟩, ⟨_, rfl, rfl, rfl, rfl, by decide +kernel⟩, ⟨_, rfl, rfl, rfl, rfl, by decide +kernel⟩⟩ (by simp [VIS]) ?act ?need ?start ?y1 ?fin
    case act => subst hC; exact ⟨rfl, rfl, rfl⟩
    case need => subst hC; exact HNr.out.keep (CKeep.drew _ _)
    case start => subst hC; exact qt HJ.out HJr.out (Below.refl _ _).drew
    case y1 =>
     intro hB;have hq : C.q = [(C.r : Int)] := if_pos hB
     have hp1 : C.ys ++ [(C.r : Int)] <+: P.wishL := by
      have := Hq.out;rw [hq] at this;rw [this];exact Hpr.out
     subst hC;exact HY.out _ _ hp1
    case fin =>
     intro vs w' hold hres;simp only [VIS, List.map_cons, List.map_nil, over, List.foldl_cons, List.foldl_nil, Act.put];refine hK1 _ _ (Met.intro (hJ1 _ _ ?_))
     repeat apply Exists.intro
     refine ⟨?relB, by simp; (repeat refine ⟨rfl, ?_⟩); rfl⟩;rw [Hq.out] at hres
     rcases hres with ⟨h75, hn, hj⟩ | ⟨h75, zs, hz, hx⟩
     ·refine .inl ⟨h75, lh ?_, lh ?_⟩
      ·rw [hC] at hn; exact hn
      ·rw [hC] at hj; exact hj
     ·refine .inr ⟨h75, zs, lh (hz.trans Hpr.out), lh ?_⟩;rw [hC] at hx; exact hx
   case rest =>
    clear HNr HJr HC Hq
    rcases hcut with ⟨rfl, hn, hj⟩ | ⟨rfl, zs, hz, hx⟩
    ·clear hC;have y0 : wc.cell? ⟨P.Bp, 0, none⟩ = some (.pointer (some ⟨P.PB, 0, none⟩)) := by rw [qb hn.out.pb]; rfl
     have y1 : wc.cell? ⟨P.PB, 6, none⟩ = some (.slice (some ⟨P.gg, 0, none⟩) P.gv.length P.cg) := by rw [qb hn.out.bx]; rfl
     have ly := qa hn.out.pb;have lz := qa hn.out.bx
     gi_wp2
     clear y0 y1 ly lz
     gi_loopw [96] (fun i wr => ∃ (k : Nat), k ≤ P.gv.length ∧ i = .int .i64 (k : Int) ∧ Hid (J (P.wP ++ P.gv.take k) wr) ∧ Hid (WishN P wr))
      (fun i _ => P.gv.length - (intOf i).toNat)
     case atStart => exact ⟨0, Nat.zero_le _, rfl, lh (by rw [List.take_zero, List.append_nil]; exact hj.out), hn⟩
     case round =>
      clear hj hn;obtain ⟨k, hk, rfl, HJr, HNr⟩ := hrel
      by_cases hltk : k < P.gv.length
      ·have i0 := HNr.out.gv.cell hltk;obtain ⟨v, hv⟩ := nmm (iAt P.gv k);rw [<- hv] at i0
       have hst : P.wP ++ P.gv.take (k + 1) = P.wP ++ P.gv.take k ++ [v] := by
        rw [hv, List.take_succ_eq_append_getElem hltk, List.append_assoc];unfold iAt;rw [List.getD_eq_getElem?_getD, List.getElem?_eq_getElem hltk];rfl
       have hp1 : P.wP ++ P.gv.take k ++ [v] <+: P.wishL := by
        rw [<- hst];exact P.wG_pre _
       obtain ⟨Hst, Hp1⟩ := lh2 hst hp1;have lg := HNr.out.gv.lt;have k1 := nnn k;have k2 : (k : Int) < (P.gv.length : Int) := by omega
       obtain ⟨fn5, tmps5, assign5, body5, hy5, hR5⟩ := HY.out _ v hp1 wr HJr.out;have HR5 := lh hR5;clear hR5 hst hp1 hv
       gi_wp2
       refine HR5.out.mono ?_;rintro e W6 (⟨rfl, hJ6, hk6⟩ | ⟨rfl, hx6⟩)
       ·have HN6 := lh (HNr.out.keep hk6);have HJ6 : Hid (J (P.wP ++ P.gv.take (k + 1)) W6) := lh (by rw [Hst.out]; exact hJ6);clear hJ6 hk6 i0 lg
        gi_wp2
        go_roundw
        case rel => exact ⟨k + 1, by omega, by go_num, HJ6, HN6⟩
        case measure => simp [intOf] <;> omega
       ·have Hx6 := lh hx6
        gi_wp2
        refine bodyPost_ret (results_none rfl _ _ _) rfl ?_;exact ⟨⟨_, rfl⟩, .inr ⟨_, Hp1.out, Hx6.out⟩⟩
      ·have hke : k = P.gv.length := by omega
       subst hke;have k3 : ¬ ((P.gv.length : Int) < (P.gv.length : Int)) := by omega
       have HJe : Hid (J P.wishL wr) := lh (by rw [<- P.wG_end]; exact HJr.out)
       gi_wp2
       go_end0
       exact ⟨⟨_, rfl⟩, .inl HJe.out⟩
    ·clear hC
     gi_wp2
     refine bodyPost_ret (results_none rfl _ _ _) rfl ?_;exact ⟨⟨_, rfl⟩, .inr ⟨zs, hz.out, hx.out⟩⟩
theorem qb2 (N : Nat) (hN1 : 1 ≤ N) (P : WP) (hmx : P.f.blocks.length ≤ maxLen ∧ P.gv.length ≤ maxLen ∧ ∀ b ∈ P.f.blocks, b.list.length ≤ maxLen) (w : World) (hN : WishN P w) :
 SeqStopsK Fence.wide N Tryz.prog 104 #[.pointer (some ⟨P.Br, 0, none⟩), .pointer (some ⟨P.Bp, 0, none⟩)] (fun v : Int => #[.int .i64 v]) (CKeep P.Rc) (fun ys => ys = P.wishL) (fun ys => ys <+: P.wishL) P.wishL.length w := fun lp J Jx W hW hJ hJx hY h0 => by
 refine (qho N hN1 lp P _ J Jx hmx hJ (fun pre v hp W1 hJ1 => hY pre v W1 hJ1 ?_) W (hN.keep (CKeep.of_below hW)) h0).mono ?_
 ·have := hp.length_le;simp at this;omega
 ·rintro e W' ⟨h1, h2 | ⟨pre, h3, h4⟩⟩
  ·exact ⟨h1, .inl ⟨_, rfl, h2⟩⟩
  ·exact ⟨h1, .inr ⟨pre, h3, h4⟩⟩
end Go.Proofs.YtdanebboiekieaaGreatDoor
