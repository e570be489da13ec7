/- The walks, part 16. -/
import Derived.Test.YtdanebboiekieaaGreatDoorP15
set_option linter.unusedSimpArgs false
set_option linter.unusedVariables false
set_option maxRecDepth 100000
set_option maxHeartbeats 16000000
namespace Go.Proofs.YtdanebboiekieaaGreatDoor
open Go.RowKit
attribute [local go_sem] Oper.semAt_some
def WRI (C : WC) (d : Nat -> Bool) (val : Nat -> Value) (w : World) : Prop := ∃ c1 c2, WR C c1 c2 d val w
theorem qns (C : WC) : C.B1 = (C.x.a.n == (C.r : Int)) := by
 unfold WC.B1;rw [Bool.eq_iff_iff];simp
theorem qnt (C : WC) : C.B2 = (C.x.dst == (C.r : Int)) := by
 unfold WC.B2;rw [Bool.eq_iff_iff];simp
structure ActW (C : WC) (a0 : Act) : Prop where
 t0 : vals a0 0 = .func (.yield C.lp) #[] #[]
 t1 : vals a0 1 = .pointer (some ⟨C.Br, 0, none⟩)
 t2 : vals a0 2 = .pointer (some ⟨C.Bp, 0, none⟩)
 t4 : vals a0 4 = .pointer (some ⟨C.B4, 0, none⟩)
 t8 : vals a0 8 = .pointer (some ⟨C.B8, 0, none⟩)
section
variable {C : WC} {c1 c2 : Bool} {d : Nat -> Bool} {a0 a : Act} {w : World} {Q : Exit -> Act -> World -> Prop} {o : Oper} {ops : Array Oper} {N : Nat}
theorem WR.q0 (H : WR C c1 c2 d (vals a) w) (hag : Ag WIS a0 a) (HA : ActW C a0) (hw : Region.wanted o (yielded ops a.tmps) = true) (hdst : o.dst = some 39) (hop : o.op = .fieldAddr 71 (.tmp 8) 2) : StepIn Fence.wide N Tryz.prog ops Q WIS a0 (WRI C) d 0 o a w := by
 have e8 : a.eval (.tmp 8) = _ := (hag.old (by simp [WIS])).trans HA.t8
 refine qc (v := (.pointer (some ⟨C.B8, 2, none⟩))) (w' := w) hag hdst (by simp [WIS]) hw (fun _ _ => trivial) (by rw [hop]; intro c h; cases h) (by
  simp only [execOp, hop, e8];simp [go_sem]) ⟨c1, c2, H.f0⟩
theorem WR.q1 (H : WR C c1 c2 d (vals a) w) (hag : Ag WIS a0 a) (HA : ActW C a0) (hw : Region.wanted o (yielded ops a.tmps) = true) (hdst : o.dst = some 40) (h0 : d 0 = true) (z14 : d 14 = false) (z33 : d 33 = false) (hop : o.op = .load 64 (.tmp 39)) : StepIn Fence.wide N Tryz.prog ops Q WIS a0 (WRI C) d 1 o a w := by
 have hN := (H.lv (H.n1 z14) (H.n2 z33)).1;have hC := C.cells w hN;have e39 : a.eval (.tmp 39) = _ := H.v39 h0;have b2 : w.cell? ⟨C.B8, 2, none⟩ = some (.bool C.x.a.reg) := by rw [qb hC.b8]; rfl
 have b3 : w.cell? ⟨C.B8, 3, none⟩ = some (.int .i64 C.x.a.n) := by rw [qb hC.b8]; rfl
 refine qc (v := .agg #[.bool C.x.a.reg, .int .i64 C.x.a.n]) (w' := w) hag hdst (by simp [WIS]) hw (fun _ _ => trivial) (by rw [hop]; intro c h; cases h) (by
  simp only [execOp, hop, e39];simp [go_sem, b2, b3]) ⟨c1, c2, H.f1⟩
theorem WR.q2 (H : WR C c1 c2 d (vals a) w) (hag : Ag WIS a0 a) (HA : ActW C a0) (hw : Region.wanted o (yielded ops a.tmps) = true) (hdst : o.dst = some 41) (z14 : d 14 = false) (z33 : d 33 = false) (hop : o.op = .load 64 (.tmp 4)) : StepIn Fence.wide N Tryz.prog ops Q WIS a0 (WRI C) d 2 o a w := by
 have hN := (H.lv (H.n1 z14) (H.n2 z33)).1;have hC := C.cells w hN;have e4 : a.eval (.tmp 4) = _ := (hag.old (by simp [WIS])).trans HA.t4;obtain ⟨b0, b1⟩ := qi hC.b4
 refine qc (v := .agg #[.bool true, .int .i64 (C.r : Int)]) (w' := w) hag hdst (by simp [WIS]) hw (fun _ _ => trivial) (by rw [hop]; intro c h; cases h) (by
  simp only [execOp, hop, e4];simp [go_sem, b0, b1]) ⟨c1, c2, H.f2⟩
theorem WR.q3 (H : WR C c1 c2 d (vals a) w) (hag : Ag WIS a0 a) (HA : ActW C a0) (hw : Region.wanted o (yielded ops a.tmps) = true) (hdst : o.dst = some 42) (h1 : d 1 = true) (h2 : d 2 = true) (hop : o.op = .binOp .eql 64 (.tmp 40) (.tmp 41) 64) : StepIn Fence.wide N Tryz.prog ops Q WIS a0 (WRI C) d 3 o a w := by
 have e40 : a.eval (.tmp 40) = _ := H.v40 h1;have e41 : a.eval (.tmp 41) = _ := H.v41 h2;rw [C.hreg] at e40;have hb := qns C
 refine qc (v := .bool C.B1) (w' := w) hag hdst (by simp [WIS]) hw (fun _ _ => trivial) (by rw [hop]; intro c h; cases h) (by
  simp only [execOp, hop, e40, e41, hb];simp [go_sem]
  split <;> rename_i h <;> simp [h]) ⟨c1, c2, H.f3⟩
theorem WR.q4 (H : WR C c1 c2 d (vals a) w) (hag : Ag WIS a0 a) (HA : ActW C a0) (hw : Region.wanted o (yielded ops a.tmps) = true) (hdst : o.dst = some 43) (h3 : d 3 = true) (hop : o.op = .move (.tmp 42)) : StepIn Fence.wide N Tryz.prog ops Q WIS a0 (WRI C) d 4 o a w := by
 have e42 : a.eval (.tmp 42) = _ := H.v42 h3
 refine qc (v := .bool C.B1) (w' := w) hag hdst (by simp [WIS]) hw (fun _ _ => trivial) (by rw [hop]; intro c h; cases h) (by
  simp only [execOp, hop, e42];rfl) ⟨c1, c2, H.f4⟩
theorem WR.q5 (H : WR C c1 c2 d (vals a) w) (hag : Ag WIS a0 a) (HA : ActW C a0) (hw : Region.wanted o (yielded ops a.tmps) = true) (hdst : o.dst = some 44) (g0 : C.B1 = true) (hop : o.op = .move (.tmp 0)) : StepIn Fence.wide N Tryz.prog ops Q WIS a0 (WRI C) d 5 o a w := by
 have e0 : a.eval (.tmp 0) = _ := (hag.old (by simp [WIS])).trans HA.t0
 refine qc (v := .func (.yield C.lp) #[] #[]) (w' := w) hag hdst (by simp [WIS]) hw (fun _ _ => trivial) (by rw [hop]; intro c h; cases h) (by
  simp only [execOp, hop, e0];rfl) ⟨c1, c2, H.f5 g0⟩
theorem WR.q6 (H : WR C c1 c2 d (vals a) w) (hag : Ag WIS a0 a) (HA : ActW C a0) (hw : Region.wanted o (yielded ops a.tmps) = true) (hdst : o.dst = some 45) (g0 : C.B1 = true) (z14 : d 14 = false) (z33 : d 33 = false) (hop : o.op = .load 93 (.tmp 2)) : StepIn Fence.wide N Tryz.prog ops Q WIS a0 (WRI C) d 6 o a w := by
 have hN := (H.lv (H.n1 z14) (H.n2 z33)).1;have hC := C.cells w hN;have e2 : a.eval (.tmp 2) = _ := (hag.old (by simp [WIS])).trans HA.t2;have b := hC.pb
 refine qc (v := (.pointer (some ⟨C.PB, 0, none⟩))) (w' := w) hag hdst (by simp [WIS]) hw (fun _ _ => trivial) (by rw [hop]; intro c h; cases h) (by
  simp only [execOp, hop, e2];simp [go_sem, b]) ⟨c1, c2, H.f6 g0⟩
theorem WR.q24 (H : WR C c1 c2 d (vals a) w) (hag : Ag WIS a0 a) (HA : ActW C a0) (hw : Region.wanted o (yielded ops a.tmps) = true) (hdst : o.dst = some 63) (g0 : c1 = true) (g1 : C.B2 = true) (z33 : d 33 = false) (hop : o.op = .load 93 (.tmp 2)) : StepIn Fence.wide N Tryz.prog ops Q WIS a0 (WRI C) d 24 o a w := by
 have hN := (H.lv g0 (H.n2 z33)).1;have hC := C.cells w hN;have e2 : a.eval (.tmp 2) = _ := (hag.old (by simp [WIS])).trans HA.t2;have b := hC.pb
 refine qc (v := (.pointer (some ⟨C.PB, 0, none⟩))) (w' := w) hag hdst (by simp [WIS]) hw (fun _ _ => trivial) (by rw [hop]; intro c h; cases h) (by
  simp only [execOp, hop, e2];simp [go_sem, b]) ⟨c1, c2, H.f24 g0 g1⟩
theorem WR.q7 (H : WR C c1 c2 d (vals a) w) (hag : Ag WIS a0 a) (HA : ActW C a0) (hw : Region.wanted o (yielded ops a.tmps) = true) (hdst : o.dst = some 46) (h6 : d 6 = true) (g0 : C.B1 = true) (hop : o.op = .nilCheck (.tmp 45)) : StepIn Fence.wide N Tryz.prog ops Q WIS a0 (WRI C) d 7 o a w := by
 have e45 : a.eval (.tmp 45) = _ := H.v45 h6 g0
 refine qc (v := (.pointer (some ⟨C.PB, 0, none⟩))) (w' := w) hag hdst (by simp [WIS]) hw (fun _ _ => trivial) (by rw [hop]; intro c h; cases h) (by
  simp only [execOp, hop, e45];simp [go_sem]) ⟨c1, c2, H.f7 g0⟩
theorem WR.q25 (H : WR C c1 c2 d (vals a) w) (hag : Ag WIS a0 a) (HA : ActW C a0) (hw : Region.wanted o (yielded ops a.tmps) = true) (hdst : o.dst = some 64) (h24 : d 24 = true) (g0 : c1 = true) (g1 : C.B2 = true) (hop : o.op = .nilCheck (.tmp 63)) : StepIn Fence.wide N Tryz.prog ops Q WIS a0 (WRI C) d 25 o a w := by
 have e63 : a.eval (.tmp 63) = _ := H.v63 h24 g0 g1
 refine qc (v := (.pointer (some ⟨C.PB, 0, none⟩))) (w' := w) hag hdst (by simp [WIS]) hw (fun _ _ => trivial) (by rw [hop]; intro c h; cases h) (by
  simp only [execOp, hop, e63];simp [go_sem]) ⟨c1, c2, H.f25 g0 g1⟩
theorem WR.q8 (H : WR C c1 c2 d (vals a) w) (hag : Ag WIS a0 a) (HA : ActW C a0) (hw : Region.wanted o (yielded ops a.tmps) = true) (hdst : o.dst = some 47) (h7 : d 7 = true) (g0 : C.B1 = true) (hop : o.op = .fieldAddr 96 (.tmp 46) 4) : StepIn Fence.wide N Tryz.prog ops Q WIS a0 (WRI C) d 8 o a w := by
 have e46 : a.eval (.tmp 46) = _ := H.v46 h7 g0
 refine qc (v := (.pointer (some ⟨C.PB, 7, none⟩))) (w' := w) hag hdst (by simp [WIS]) hw (fun _ _ => trivial) (by rw [hop]; intro c h; cases h) (by
  simp only [execOp, hop, e46];simp [go_sem]) ⟨c1, c2, H.f8 g0⟩
theorem WR.q26 (H : WR C c1 c2 d (vals a) w) (hag : Ag WIS a0 a) (HA : ActW C a0) (hw : Region.wanted o (yielded ops a.tmps) = true) (hdst : o.dst = some 65) (h25 : d 25 = true) (g0 : c1 = true) (g1 : C.B2 = true) (hop : o.op = .fieldAddr 96 (.tmp 64) 4) : StepIn Fence.wide N Tryz.prog ops Q WIS a0 (WRI C) d 26 o a w := by
 have e64 : a.eval (.tmp 64) = _ := H.v64 h25 g0 g1
 refine qc (v := (.pointer (some ⟨C.PB, 7, none⟩))) (w' := w) hag hdst (by simp [WIS]) hw (fun _ _ => trivial) (by rw [hop]; intro c h; cases h) (by
  simp only [execOp, hop, e64];simp [go_sem]) ⟨c1, c2, H.f26 g0 g1⟩
theorem WR.q9 (H : WR C c1 c2 d (vals a) w) (hag : Ag WIS a0 a) (HA : ActW C a0) (hw : Region.wanted o (yielded ops a.tmps) = true) (hdst : o.dst = some 48) (h8 : d 8 = true) (g0 : C.B1 = true) (z14 : d 14 = false) (z33 : d 33 = false) (hop : o.op = .load 26 (.tmp 47)) : StepIn Fence.wide N Tryz.prog ops Q WIS a0 (WRI C) d 9 o a w := by
 have hN := (H.lv (H.n1 z14) (H.n2 z33)).1;have hC := C.cells w hN;have e47 : a.eval (.tmp 47) = _ := H.v47 h8 g0;have b := hC.pp
 refine qc (v := .slice (some ⟨C.gp, 0, none⟩) C.n C.cp) (w' := w) hag hdst (by simp [WIS]) hw (fun _ _ => trivial) (by rw [hop]; intro c h; cases h) (by
  simp only [execOp, hop, e47];simp [go_sem, b]) ⟨c1, c2, H.f9 g0⟩
theorem WR.q27 (H : WR C c1 c2 d (vals a) w) (hag : Ag WIS a0 a) (HA : ActW C a0) (hw : Region.wanted o (yielded ops a.tmps) = true) (hdst : o.dst = some 66) (h26 : d 26 = true) (g0 : c1 = true) (g1 : C.B2 = true) (z33 : d 33 = false) (hop : o.op = .load 26 (.tmp 65)) : StepIn Fence.wide N Tryz.prog ops Q WIS a0 (WRI C) d 27 o a w := by
 have hN := (H.lv g0 (H.n2 z33)).1;have hC := C.cells w hN;have e65 : a.eval (.tmp 65) = _ := H.v65 h26 g0 g1;have b := hC.pp
 refine qc (v := .slice (some ⟨C.gp, 0, none⟩) C.n C.cp) (w' := w) hag hdst (by simp [WIS]) hw (fun _ _ => trivial) (by rw [hop]; intro c h; cases h) (by
  simp only [execOp, hop, e65];simp [go_sem, b]) ⟨c1, c2, H.f27 g0 g1⟩
theorem WR.q10 (H : WR C c1 c2 d (vals a) w) (hag : Ag WIS a0 a) (HA : ActW C a0) (hw : Region.wanted o (yielded ops a.tmps) = true) (hdst : o.dst = some 49) (g0 : C.B1 = true) (hop : o.op = .fieldAddr 71 (.tmp 8) 1) : StepIn Fence.wide N Tryz.prog ops Q WIS a0 (WRI C) d 10 o a w := by
 have e8 : a.eval (.tmp 8) = _ := (hag.old (by simp [WIS])).trans HA.t8
 refine qc (v := (.pointer (some ⟨C.B8, 1, none⟩))) (w' := w) hag hdst (by simp [WIS]) hw (fun _ _ => trivial) (by rw [hop]; intro c h; cases h) (by
  simp only [execOp, hop, e8];simp [go_sem]) ⟨c1, c2, H.f10 g0⟩
theorem WR.q18 (H : WR C c1 c2 d (vals a) w) (hag : Ag WIS a0 a) (HA : ActW C a0) (hw : Region.wanted o (yielded ops a.tmps) = true) (hdst : o.dst = some 57) (g0 : c1 = true) (hop : o.op = .fieldAddr 71 (.tmp 8) 1) : StepIn Fence.wide N Tryz.prog ops Q WIS a0 (WRI C) d 18 o a w := by
 have e8 : a.eval (.tmp 8) = _ := (hag.old (by simp [WIS])).trans HA.t8
 refine qc (v := (.pointer (some ⟨C.B8, 1, none⟩))) (w' := w) hag hdst (by simp [WIS]) hw (fun _ _ => trivial) (by rw [hop]; intro c h; cases h) (by
  simp only [execOp, hop, e8];simp [go_sem]) ⟨c1, c2, H.f18 g0⟩
theorem WR.q11 (H : WR C c1 c2 d (vals a) w) (hag : Ag WIS a0 a) (HA : ActW C a0) (hw : Region.wanted o (yielded ops a.tmps) = true) (hdst : o.dst = some 50) (h10 : d 10 = true) (g0 : C.B1 = true) (z14 : d 14 = false) (z33 : d 33 = false) (hop : o.op = .load 3 (.tmp 49)) : StepIn Fence.wide N Tryz.prog ops Q WIS a0 (WRI C) d 11 o a w := by
 have hN := (H.lv (H.n1 z14) (H.n2 z33)).1;have hC := C.cells w hN;have e49 : a.eval (.tmp 49) = _ := H.v49 h10 g0;have b : w.cell? ⟨C.B8, 1, none⟩ = some (.int .i64 C.x.dst) := by rw [qb hC.b8]; rfl
 refine qc (v := .int .i64 C.x.dst) (w' := w) hag hdst (by simp [WIS]) hw (fun _ _ => trivial) (by rw [hop]; intro c h; cases h) (by
  simp only [execOp, hop, e49];simp [go_sem, b]) ⟨c1, c2, H.f11 g0⟩
theorem WR.q19 (H : WR C c1 c2 d (vals a) w) (hag : Ag WIS a0 a) (HA : ActW C a0) (hw : Region.wanted o (yielded ops a.tmps) = true) (hdst : o.dst = some 58) (h18 : d 18 = true) (g0 : c1 = true) (z33 : d 33 = false) (hop : o.op = .load 3 (.tmp 57)) : StepIn Fence.wide N Tryz.prog ops Q WIS a0 (WRI C) d 19 o a w := by
 have hN := (H.lv g0 (H.n2 z33)).1;have hC := C.cells w hN;have e57 : a.eval (.tmp 57) = _ := H.v57 h18 g0;have b : w.cell? ⟨C.B8, 1, none⟩ = some (.int .i64 C.x.dst) := by rw [qb hC.b8]; rfl
 refine qc (v := .int .i64 C.x.dst) (w' := w) hag hdst (by simp [WIS]) hw (fun _ _ => trivial) (by rw [hop]; intro c h; cases h) (by
  simp only [execOp, hop, e57];simp [go_sem, b]) ⟨c1, c2, H.f19 g0⟩
theorem WR.q12 (H : WR C c1 c2 d (vals a) w) (hag : Ag WIS a0 a) (HA : ActW C a0) (hw : Region.wanted o (yielded ops a.tmps) = true) (hdst : o.dst = some 51) (h9 : d 9 = true) (h11 : d 11 = true) (g0 : C.B1 = true) (hop : o.op = .indexAddr 26 (.tmp 48) (.tmp 50)) : StepIn Fence.wide N Tryz.prog ops Q WIS a0 (WRI C) d 12 o a w := by
 have e48 : a.eval (.tmp 48) = _ := H.v48 h9 g0;have e50 : a.eval (.tmp 50) = _ := H.v50 h11 g0;have k1 := C.hd.1;have k2 := C.hd.2
 refine qc (v := (.pointer (some ⟨C.gp, C.x.dst.toNat, none⟩))) (w' := w) hag hdst (by simp [WIS]) hw (fun _ _ => trivial) (by rw [hop]; intro c h; cases h) (by
  simp only [execOp, hop, e48, e50];simp [go_sem, k1, k2]) ⟨c1, c2, H.f12 g0⟩
theorem WR.q13 (H : WR C c1 c2 d (vals a) w) (hag : Ag WIS a0 a) (HA : ActW C a0) (hw : Region.wanted o (yielded ops a.tmps) = true) (hdst : o.dst = some 52) (h12 : d 12 = true) (g0 : C.B1 = true) (z14 : d 14 = false) (z33 : d 33 = false) (hop : o.op = .load 3 (.tmp 51)) : StepIn Fence.wide N Tryz.prog ops Q WIS a0 (WRI C) d 13 o a w := by
 have hN := (H.lv (H.n1 z14) (H.n2 z33)).1;have hC := C.cells w hN;have e51 : a.eval (.tmp 51) = _ := H.v51 h12 g0;have b := hC.pl.cell (k := C.x.dst.toNat) (by have := C.hd; have := C.hlen; omega)
 refine qc (v := .int .i64 C.p1) (w' := w) hag hdst (by simp [WIS]) hw (fun _ _ => trivial) (by rw [hop]; intro c h; cases h) (by
  simp only [execOp, hop, e51];simp [go_sem, b, WC.p1]) ⟨c1, c2, H.f13 g0⟩
theorem WR.q15 (H : WR C c1 c2 d (vals a) w) (hag : Ag WIS a0 a) (HA : ActW C a0) (hw : Region.wanted o (yielded ops a.tmps) = true) (hdst : o.dst = some 54) (h14 : d 14 = true) (g0 : C.B1 = true) (hop : o.op = .unOp .not 4 (.tmp 53)) : StepIn Fence.wide N Tryz.prog ops Q WIS a0 (WRI C) d 15 o a w := by
 have e53 : a.eval (.tmp 53) = _ := H.v53 h14 g0
 refine qc (v := .bool (!c1)) (w' := w) hag hdst (by simp [WIS]) hw (fun _ _ => trivial) (by rw [hop]; intro c h; cases h) (by
  simp only [execOp, hop, e53];simp [go_sem]) ⟨c1, c2, H.f15 g0⟩
theorem WR.q16 (H : WR C c1 c2 d (vals a) w) (hag : Ag WIS a0 a) (HA : ActW C a0) (hw : Region.wanted o (yielded ops a.tmps) = true) (hdst : o.dst = some 55) (h4 : d 4 = true) (h15 : d 15 = true) (hop : o.op = .pick (.tmp 43) (.tmp 54) (.const (.bool false))) : StepIn Fence.wide N Tryz.prog ops Q WIS a0 (WRI C) d 16 o a w := by
 have e43 : a.eval (.tmp 43) = _ := H.v43 h4
 refine qc (v := .bool (!c1)) (w' := w) hag hdst (by simp [WIS]) hw (fun _ _ => trivial) (by rw [hop]; intro c h; cases h) (by
  cases hb : C.B1
  ·rw [hb] at e43;have := H.b1 hb;subst this;simp only [execOp, hop, e43];rfl
  ·rw [hb] at e43;have e54 : a.eval (.tmp 54) = _ := H.v54 h15 hb;simp only [execOp, hop, e43, e54];rfl) ⟨c1, c2, H.f16⟩
theorem WR.q17 (H : WR C c1 c2 d (vals a) w) (hag : Ag WIS a0 a) (HA : ActW C a0) (hw : Region.wanted o (yielded ops a.tmps) = true) (hdst : o.dst = some 56) (h16 : d 16 = true) (hop : o.op = .move (.tmp 55)) : StepIn Fence.wide N Tryz.prog ops Q WIS a0 (WRI C) d 17 o a w := by
 have e55 : a.eval (.tmp 55) = _ := H.v55 h16
 refine qc (v := .bool (!c1)) (w' := w) hag hdst (by simp [WIS]) hw (fun _ _ => trivial) (by rw [hop]; intro c h; cases h) (by
  simp only [execOp, hop, e55];rfl) ⟨c1, c2, H.f17⟩
theorem WR.q20 (H : WR C c1 c2 d (vals a) w) (hag : Ag WIS a0 a) (HA : ActW C a0) (hw : Region.wanted o (yielded ops a.tmps) = true) (hdst : o.dst = some 59) (g0 : c1 = true) (z33 : d 33 = false) (hop : o.op = .load 3 (.tmp 1)) : StepIn Fence.wide N Tryz.prog ops Q WIS a0 (WRI C) d 20 o a w := by
 have hN := (H.lv g0 (H.n2 z33)).1;have hC := C.cells w hN;have e1 : a.eval (.tmp 1) = _ := (hag.old (by simp [WIS])).trans HA.t1;have b := hC.rb
 refine qc (v := .int .i64 (C.r : Int)) (w' := w) hag hdst (by simp [WIS]) hw (fun _ _ => trivial) (by rw [hop]; intro c h; cases h) (by
  simp only [execOp, hop, e1];simp [go_sem, b]) ⟨c1, c2, H.f20 g0⟩
theorem WR.q21 (H : WR C c1 c2 d (vals a) w) (hag : Ag WIS a0 a) (HA : ActW C a0) (hw : Region.wanted o (yielded ops a.tmps) = true) (hdst : o.dst = some 60) (h19 : d 19 = true) (h20 : d 20 = true) (g0 : c1 = true) (hop : o.op = .binOp .eql 3 (.tmp 58) (.tmp 59) 3) : StepIn Fence.wide N Tryz.prog ops Q WIS a0 (WRI C) d 21 o a w := by
 have e58 : a.eval (.tmp 58) = _ := H.v58 h19 g0;have e59 : a.eval (.tmp 59) = _ := H.v59 h20 g0;have hb := qnt C
 refine qc (v := .bool C.B2) (w' := w) hag hdst (by simp [WIS]) hw (fun _ _ => trivial) (by rw [hop]; intro c h; cases h) (by
  simp only [execOp, hop, e58, e59, hb];simp [go_sem]) ⟨c1, c2, H.f21 g0⟩
theorem WR.q22 (H : WR C c1 c2 d (vals a) w) (hag : Ag WIS a0 a) (HA : ActW C a0) (hw : Region.wanted o (yielded ops a.tmps) = true) (hdst : o.dst = some 61) (h21 : d 21 = true) (g0 : c1 = true) (hop : o.op = .move (.tmp 60)) : StepIn Fence.wide N Tryz.prog ops Q WIS a0 (WRI C) d 22 o a w := by
 have e60 : a.eval (.tmp 60) = _ := H.v60 h21 g0
 refine qc (v := .bool C.B2) (w' := w) hag hdst (by simp [WIS]) hw (fun _ _ => trivial) (by rw [hop]; intro c h; cases h) (by
  simp only [execOp, hop, e60];rfl) ⟨c1, c2, H.f22 g0⟩
theorem WR.q23 (H : WR C c1 c2 d (vals a) w) (hag : Ag WIS a0 a) (HA : ActW C a0) (hw : Region.wanted o (yielded ops a.tmps) = true) (hdst : o.dst = some 62) (g0 : c1 = true) (g1 : C.B2 = true) (hop : o.op = .move (.tmp 0)) : StepIn Fence.wide N Tryz.prog ops Q WIS a0 (WRI C) d 23 o a w := by
 have e0 : a.eval (.tmp 0) = _ := (hag.old (by simp [WIS])).trans HA.t0
 refine qc (v := .func (.yield C.lp) #[] #[]) (w' := w) hag hdst (by simp [WIS]) hw (fun _ _ => trivial) (by rw [hop]; intro c h; cases h) (by
  simp only [execOp, hop, e0];rfl) ⟨c1, c2, H.f23 g0 g1⟩
theorem WR.q28 (H : WR C c1 c2 d (vals a) w) (hag : Ag WIS a0 a) (HA : ActW C a0) (hw : Region.wanted o (yielded ops a.tmps) = true) (hdst : o.dst = some 67) (g0 : c1 = true) (g1 : C.B2 = true) (hop : o.op = .fieldAddr 71 (.tmp 8) 2) : StepIn Fence.wide N Tryz.prog ops Q WIS a0 (WRI C) d 28 o a w := by
 have e8 : a.eval (.tmp 8) = _ := (hag.old (by simp [WIS])).trans HA.t8
 refine qc (v := (.pointer (some ⟨C.B8, 2, none⟩))) (w' := w) hag hdst (by simp [WIS]) hw (fun _ _ => trivial) (by rw [hop]; intro c h; cases h) (by
  simp only [execOp, hop, e8];simp [go_sem]) ⟨c1, c2, H.f28 g0 g1⟩
theorem WR.q29 (H : WR C c1 c2 d (vals a) w) (hag : Ag WIS a0 a) (HA : ActW C a0) (hw : Region.wanted o (yielded ops a.tmps) = true) (hdst : o.dst = some 68) (h28 : d 28 = true) (g0 : c1 = true) (g1 : C.B2 = true) (hop : o.op = .fieldAddr 64 (.tmp 67) 1) : StepIn Fence.wide N Tryz.prog ops Q WIS a0 (WRI C) d 29 o a w := by
 have e67 : a.eval (.tmp 67) = _ := H.v67 h28 g0 g1
 refine qc (v := (.pointer (some ⟨C.B8, 3, none⟩))) (w' := w) hag hdst (by simp [WIS]) hw (fun _ _ => trivial) (by rw [hop]; intro c h; cases h) (by
  simp only [execOp, hop, e67];simp [go_sem]) ⟨c1, c2, H.f29 g0 g1⟩
theorem WR.q30 (H : WR C c1 c2 d (vals a) w) (hag : Ag WIS a0 a) (HA : ActW C a0) (hw : Region.wanted o (yielded ops a.tmps) = true) (hdst : o.dst = some 69) (h29 : d 29 = true) (g0 : c1 = true) (g1 : C.B2 = true) (z33 : d 33 = false) (hop : o.op = .load 3 (.tmp 68)) : StepIn Fence.wide N Tryz.prog ops Q WIS a0 (WRI C) d 30 o a w := by
 have hN := (H.lv g0 (H.n2 z33)).1;have hC := C.cells w hN;have e68 : a.eval (.tmp 68) = _ := H.v68 h29 g0 g1;have b : w.cell? ⟨C.B8, 3, none⟩ = some (.int .i64 C.x.a.n) := by rw [qb hC.b8]; rfl
 refine qc (v := .int .i64 C.x.a.n) (w' := w) hag hdst (by simp [WIS]) hw (fun _ _ => trivial) (by rw [hop]; intro c h; cases h) (by
  simp only [execOp, hop, e68];simp [go_sem, b]) ⟨c1, c2, H.f30 g0 g1⟩
theorem WR.q31 (H : WR C c1 c2 d (vals a) w) (hag : Ag WIS a0 a) (HA : ActW C a0) (hw : Region.wanted o (yielded ops a.tmps) = true) (hdst : o.dst = some 70) (h27 : d 27 = true) (h30 : d 30 = true) (g0 : c1 = true) (g1 : C.B2 = true) (hop : o.op = .indexAddr 26 (.tmp 66) (.tmp 69)) : StepIn Fence.wide N Tryz.prog ops Q WIS a0 (WRI C) d 31 o a w := by
 have e66 : a.eval (.tmp 66) = _ := H.v66 h27 g0 g1;have e69 : a.eval (.tmp 69) = _ := H.v69 h30 g0 g1;have k1 := C.ha.1;have k2 := C.ha.2
 refine qc (v := (.pointer (some ⟨C.gp, C.x.a.n.toNat, none⟩))) (w' := w) hag hdst (by simp [WIS]) hw (fun _ _ => trivial) (by rw [hop]; intro c h; cases h) (by
  simp only [execOp, hop, e66, e69];simp [go_sem, k1, k2]) ⟨c1, c2, H.f31 g0 g1⟩
theorem WR.q32 (H : WR C c1 c2 d (vals a) w) (hag : Ag WIS a0 a) (HA : ActW C a0) (hw : Region.wanted o (yielded ops a.tmps) = true) (hdst : o.dst = some 71) (h31 : d 31 = true) (g0 : c1 = true) (g1 : C.B2 = true) (z33 : d 33 = false) (hop : o.op = .load 3 (.tmp 70)) : StepIn Fence.wide N Tryz.prog ops Q WIS a0 (WRI C) d 32 o a w := by
 have hN := (H.lv g0 (H.n2 z33)).1;have hC := C.cells w hN;have e70 : a.eval (.tmp 70) = _ := H.v70 h31 g0 g1;have b := hC.pl.cell (k := C.x.a.n.toNat) (by have := C.ha; have := C.hlen; omega)
 refine qc (v := .int .i64 C.p2) (w' := w) hag hdst (by simp [WIS]) hw (fun _ _ => trivial) (by rw [hop]; intro c h; cases h) (by
  simp only [execOp, hop, e70];simp [go_sem, b, WC.p2]) ⟨c1, c2, H.f32 g0 g1⟩
theorem WR.q34 (H : WR C c1 c2 d (vals a) w) (hag : Ag WIS a0 a) (HA : ActW C a0) (hw : Region.wanted o (yielded ops a.tmps) = true) (hdst : o.dst = some 73) (h33 : d 33 = true) (g0 : c1 = true) (g1 : C.B2 = true) (hop : o.op = .unOp .not 4 (.tmp 72)) : StepIn Fence.wide N Tryz.prog ops Q WIS a0 (WRI C) d 34 o a w := by
 have e72 : a.eval (.tmp 72) = _ := H.v72 h33 g0 g1
 refine qc (v := .bool (!c2)) (w' := w) hag hdst (by simp [WIS]) hw (fun _ _ => trivial) (by rw [hop]; intro c h; cases h) (by
  simp only [execOp, hop, e72];simp [go_sem]) ⟨c1, c2, H.f34 g0 g1⟩
theorem WR.q35 (H : WR C c1 c2 d (vals a) w) (hag : Ag WIS a0 a) (HA : ActW C a0) (hw : Region.wanted o (yielded ops a.tmps) = true) (hdst : o.dst = some 74) (h22 : d 22 = true) (h34 : d 34 = true) (g0 : c1 = true) (hop : o.op = .pick (.tmp 61) (.tmp 73) (.const (.bool false))) : StepIn Fence.wide N Tryz.prog ops Q WIS a0 (WRI C) d 35 o a w := by
 have e61 : a.eval (.tmp 61) = _ := H.v61 h22 g0
 refine qc (v := .bool (!c2)) (w' := w) hag hdst (by simp [WIS]) hw (fun _ _ => trivial) (by rw [hop]; intro c h; cases h) (by
  cases hb : C.B2
  ·rw [hb] at e61;have := H.b2 hb;subst this;simp only [execOp, hop, e61];rfl
  ·rw [hb] at e61;have e73 : a.eval (.tmp 73) = _ := H.v73 h34 g0 hb;simp only [execOp, hop, e61, e73];rfl) ⟨c1, c2, H.f35 g0⟩
theorem WR.q36 (H : WR C c1 c2 d (vals a) w) (hag : Ag WIS a0 a) (HA : ActW C a0) (hw : Region.wanted o (yielded ops a.tmps) = true) (hdst : o.dst = some 75) (h17 : d 17 = true) (h35 : d 35 = true) (hop : o.op = .pick (.tmp 56) (.const (.bool true)) (.tmp 74)) : StepIn Fence.wide N Tryz.prog ops Q WIS a0 (WRI C) d 36 o a w := by
 have e56 : a.eval (.tmp 56) = _ := H.v56 h17
 refine qc (v := .bool (!c1 || !c2)) (w' := w) hag hdst (by simp [WIS]) hw (fun _ _ => trivial) (by rw [hop]; intro c h; cases h) (by
  cases c1
  ·simp only [execOp, hop, e56];rfl
  ·have e74 : a.eval (.tmp 74) = _ := H.v74 h35 rfl;simp only [execOp, hop, e56, e74];rfl) ⟨c1, c2, H.f36⟩
def SN (P : WC -> Bool -> Bool -> Prop) (i j : Nat) : Prop := ∀ {C : WC} {c1 c2 : Bool} {d : Nat -> Bool} {a0 a : Act} {w : World} {Q : Exit -> Act -> World -> Prop} {o : Oper} {ops : Array Oper} {N : Nat}, WR C c1 c2 d (vals a) w -> Ag WIS a0 a -> Region.wanted o (yielded ops a.tmps) = false -> o.dst = some j -> P C c1 c2 -> StepIn Fence.wide N Tryz.prog ops Q WIS a0 (WRI C) d i o a w
theorem WR.s5B1 : SN (fun C c1 c2 => C.B1 = false) 5 44 := fun H hag hw hdst g => qg hag hdst (by simp [WIS]) hw (fun _ _ => trivial) ⟨_, _, H.u5B1 g⟩
theorem WR.s6B1 : SN (fun C c1 c2 => C.B1 = false) 6 45 := fun H hag hw hdst g => qg hag hdst (by simp [WIS]) hw (fun _ _ => trivial) ⟨_, _, H.u6B1 g⟩
theorem WR.s7B1 : SN (fun C c1 c2 => C.B1 = false) 7 46 := fun H hag hw hdst g => qg hag hdst (by simp [WIS]) hw (fun _ _ => trivial) ⟨_, _, H.u7B1 g⟩
theorem WR.s8B1 : SN (fun C c1 c2 => C.B1 = false) 8 47 := fun H hag hw hdst g => qg hag hdst (by simp [WIS]) hw (fun _ _ => trivial) ⟨_, _, H.u8B1 g⟩
theorem WR.s9B1 : SN (fun C c1 c2 => C.B1 = false) 9 48 := fun H hag hw hdst g => qg hag hdst (by simp [WIS]) hw (fun _ _ => trivial) ⟨_, _, H.u9B1 g⟩
theorem WR.s10B1 : SN (fun C c1 c2 => C.B1 = false) 10 49 := fun H hag hw hdst g => qg hag hdst (by simp [WIS]) hw (fun _ _ => trivial) ⟨_, _, H.u10B1 g⟩
theorem WR.s11B1 : SN (fun C c1 c2 => C.B1 = false) 11 50 := fun H hag hw hdst g => qg hag hdst (by simp [WIS]) hw (fun _ _ => trivial) ⟨_, _, H.u11B1 g⟩
theorem WR.s12B1 : SN (fun C c1 c2 => C.B1 = false) 12 51 := fun H hag hw hdst g => qg hag hdst (by simp [WIS]) hw (fun _ _ => trivial) ⟨_, _, H.u12B1 g⟩
theorem WR.s13B1 : SN (fun C c1 c2 => C.B1 = false) 13 52 := fun H hag hw hdst g => qg hag hdst (by simp [WIS]) hw (fun _ _ => trivial) ⟨_, _, H.u13B1 g⟩
theorem WR.s14B1 : SN (fun C c1 c2 => C.B1 = false) 14 53 := fun H hag hw hdst g => qg hag hdst (by simp [WIS]) hw (fun _ _ => trivial) ⟨_, _, H.u14B1 g⟩
theorem WR.s15B1 : SN (fun C c1 c2 => C.B1 = false) 15 54 := fun H hag hw hdst g => qg hag hdst (by simp [WIS]) hw (fun _ _ => trivial) ⟨_, _, H.u15B1 g⟩
theorem WR.s18c1 : SN (fun C c1 c2 => c1 = false) 18 57 := fun H hag hw hdst g => qg hag hdst (by simp [WIS]) hw (fun _ _ => trivial) ⟨_, _, H.u18c1 g⟩
theorem WR.s19c1 : SN (fun C c1 c2 => c1 = false) 19 58 := fun H hag hw hdst g => qg hag hdst (by simp [WIS]) hw (fun _ _ => trivial) ⟨_, _, H.u19c1 g⟩
theorem WR.s20c1 : SN (fun C c1 c2 => c1 = false) 20 59 := fun H hag hw hdst g => qg hag hdst (by simp [WIS]) hw (fun _ _ => trivial) ⟨_, _, H.u20c1 g⟩
theorem WR.s21c1 : SN (fun C c1 c2 => c1 = false) 21 60 := fun H hag hw hdst g => qg hag hdst (by simp [WIS]) hw (fun _ _ => trivial) ⟨_, _, H.u21c1 g⟩
theorem WR.s22c1 : SN (fun C c1 c2 => c1 = false) 22 61 := fun H hag hw hdst g => qg hag hdst (by simp [WIS]) hw (fun _ _ => trivial) ⟨_, _, H.u22c1 g⟩
theorem WR.s23c1 : SN (fun C c1 c2 => c1 = false) 23 62 := fun H hag hw hdst g => qg hag hdst (by simp [WIS]) hw (fun _ _ => trivial) ⟨_, _, H.u23c1 g⟩
theorem WR.s23B2 : SN (fun C c1 c2 => C.B2 = false) 23 62 := fun H hag hw hdst g => qg hag hdst (by simp [WIS]) hw (fun _ _ => trivial) ⟨_, _, H.u23B2 g⟩
theorem WR.s24c1 : SN (fun C c1 c2 => c1 = false) 24 63 := fun H hag hw hdst g => qg hag hdst (by simp [WIS]) hw (fun _ _ => trivial) ⟨_, _, H.u24c1 g⟩
theorem WR.s24B2 : SN (fun C c1 c2 => C.B2 = false) 24 63 := fun H hag hw hdst g => qg hag hdst (by simp [WIS]) hw (fun _ _ => trivial) ⟨_, _, H.u24B2 g⟩
theorem WR.s25c1 : SN (fun C c1 c2 => c1 = false) 25 64 := fun H hag hw hdst g => qg hag hdst (by simp [WIS]) hw (fun _ _ => trivial) ⟨_, _, H.u25c1 g⟩
theorem WR.s25B2 : SN (fun C c1 c2 => C.B2 = false) 25 64 := fun H hag hw hdst g => qg hag hdst (by simp [WIS]) hw (fun _ _ => trivial) ⟨_, _, H.u25B2 g⟩
theorem WR.s26c1 : SN (fun C c1 c2 => c1 = false) 26 65 := fun H hag hw hdst g => qg hag hdst (by simp [WIS]) hw (fun _ _ => trivial) ⟨_, _, H.u26c1 g⟩
theorem WR.s26B2 : SN (fun C c1 c2 => C.B2 = false) 26 65 := fun H hag hw hdst g => qg hag hdst (by simp [WIS]) hw (fun _ _ => trivial) ⟨_, _, H.u26B2 g⟩
theorem WR.s27c1 : SN (fun C c1 c2 => c1 = false) 27 66 := fun H hag hw hdst g => qg hag hdst (by simp [WIS]) hw (fun _ _ => trivial) ⟨_, _, H.u27c1 g⟩
theorem WR.s27B2 : SN (fun C c1 c2 => C.B2 = false) 27 66 := fun H hag hw hdst g => qg hag hdst (by simp [WIS]) hw (fun _ _ => trivial) ⟨_, _, H.u27B2 g⟩
theorem WR.s28c1 : SN (fun C c1 c2 => c1 = false) 28 67 := fun H hag hw hdst g => qg hag hdst (by simp [WIS]) hw (fun _ _ => trivial) ⟨_, _, H.u28c1 g⟩
theorem WR.s28B2 : SN (fun C c1 c2 => C.B2 = false) 28 67 := fun H hag hw hdst g => qg hag hdst (by simp [WIS]) hw (fun _ _ => trivial) ⟨_, _, H.u28B2 g⟩
theorem WR.s29c1 : SN (fun C c1 c2 => c1 = false) 29 68 := fun H hag hw hdst g => qg hag hdst (by simp [WIS]) hw (fun _ _ => trivial) ⟨_, _, H.u29c1 g⟩
theorem WR.s29B2 : SN (fun C c1 c2 => C.B2 = false) 29 68 := fun H hag hw hdst g => qg hag hdst (by simp [WIS]) hw (fun _ _ => trivial) ⟨_, _, H.u29B2 g⟩
theorem WR.s30c1 : SN (fun C c1 c2 => c1 = false) 30 69 := fun H hag hw hdst g => qg hag hdst (by simp [WIS]) hw (fun _ _ => trivial) ⟨_, _, H.u30c1 g⟩
theorem WR.s30B2 : SN (fun C c1 c2 => C.B2 = false) 30 69 := fun H hag hw hdst g => qg hag hdst (by simp [WIS]) hw (fun _ _ => trivial) ⟨_, _, H.u30B2 g⟩
theorem WR.s31c1 : SN (fun C c1 c2 => c1 = false) 31 70 := fun H hag hw hdst g => qg hag hdst (by simp [WIS]) hw (fun _ _ => trivial) ⟨_, _, H.u31c1 g⟩
theorem WR.s31B2 : SN (fun C c1 c2 => C.B2 = false) 31 70 := fun H hag hw hdst g => qg hag hdst (by simp [WIS]) hw (fun _ _ => trivial) ⟨_, _, H.u31B2 g⟩
theorem WR.s32c1 : SN (fun C c1 c2 => c1 = false) 32 71 := fun H hag hw hdst g => qg hag hdst (by simp [WIS]) hw (fun _ _ => trivial) ⟨_, _, H.u32c1 g⟩
theorem WR.s32B2 : SN (fun C c1 c2 => C.B2 = false) 32 71 := fun H hag hw hdst g => qg hag hdst (by simp [WIS]) hw (fun _ _ => trivial) ⟨_, _, H.u32B2 g⟩
theorem WR.s33c1 : SN (fun C c1 c2 => c1 = false) 33 72 := fun H hag hw hdst g => qg hag hdst (by simp [WIS]) hw (fun _ _ => trivial) ⟨_, _, H.u33c1 g⟩
theorem WR.s33B2 : SN (fun C c1 c2 => C.B2 = false) 33 72 := fun H hag hw hdst g => qg hag hdst (by simp [WIS]) hw (fun _ _ => trivial) ⟨_, _, H.u33B2 g⟩
theorem WR.s34c1 : SN (fun C c1 c2 => c1 = false) 34 73 := fun H hag hw hdst g => qg hag hdst (by simp [WIS]) hw (fun _ _ => trivial) ⟨_, _, H.u34c1 g⟩
theorem WR.s34B2 : SN (fun C c1 c2 => C.B2 = false) 34 73 := fun H hag hw hdst g => qg hag hdst (by simp [WIS]) hw (fun _ _ => trivial) ⟨_, _, H.u34B2 g⟩
theorem WR.s35c1 : SN (fun C c1 c2 => c1 = false) 35 74 := fun H hag hw hdst g => qg hag hdst (by simp [WIS]) hw (fun _ _ => trivial) ⟨_, _, H.u35c1 g⟩
theorem WR.q14 (H : WR C c1 c2 d (vals a) w) (hag : Ag WIS a0 a) (HA : ActW C a0) (hw : Region.wanted o (yielded ops a.tmps) = true) (hdst : o.dst = some 53) (h5 : d 5 = true) (h13 : d 13 = true) (g0 : C.B1 = true) (hz : ∀ j, 14 ≤ j -> j < 37 -> d j = false)
 (hY : ∀ W, C.J (C.ys) W -> YieldAt Fence.wide (N - 1) Tryz.prog C.lp #[.int .i64 C.p1] W fun e W' => (e = .returned (.bool true) ∧ C.J (C.ys ++ [C.p1]) W' ∧ CKeep C.Rc W W') ∨ (e = .returned (.bool false) ∧ C.Jx (C.ys ++ [C.p1]) W'))
 {t1 : TypeId} (hop : o.op = .call { callee := .value (.tmp 44), args := #[.tmp 52], argTypes := #[t1] }) : StepIn Fence.wide N Tryz.prog ops Q WIS a0 (WRI C) d 14 o a w := by
 have e1 : a.eval (.tmp 44) = _ := H.v44 h5 g0;have e2 : a.eval (.tmp 52) = _ := H.v52 h13 g0;have hL := H.lv (H.n1 (hz 14 (by omega) (by omega))) (H.n2 (hz 33 (by omega) (by omega)));rw [hz 14 (by omega) (by omega), hz 33 (by omega) (by omega), if_neg (by decide), if_neg (by decide), List.append_nil, List.append_nil] at hL;obtain ⟨fn5, tm5, as5, bd5, hy5, hR5⟩ := hY w hL.2
 refine q4x hag hdst (by simp [WIS]) hw (fun _ _ => trivial) (by rw [hop]; intro c h; cases h) (fun h => by cases h) (by
  simp only [execOp, hop, resolve, e1, e2];simp [go_sem, e1, (by rw [<- Array.getD_eq_getD_getElem?]; exact e2 : a.tmps[52]?.getD undef = .int .i64 C.p1), hy5]) hR5 (fun e w' he => ?_)
 rcases he with ⟨rfl, h1, h2⟩ | ⟨rfl, h1⟩
 ·exact ⟨_, rfl, true, c2, H.f14 hz g0 (fun _ => ⟨C.keep w w' hL.1 h2, h1⟩) (fun h => by cases h)⟩
 ·exact ⟨_, rfl, false, c2, H.f14 hz g0 (fun h => by cases h) (fun _ => h1)⟩
theorem WR.q33 (H : WR C c1 c2 d (vals a) w) (hag : Ag WIS a0 a) (HA : ActW C a0) (hw : Region.wanted o (yielded ops a.tmps) = true) (hdst : o.dst = some 72) (h23 : d 23 = true) (h32 : d 32 = true) (h14 : d 14 = true) (g0 : c1 = true) (g1 : C.B2 = true) (hz : ∀ j, 33 ≤ j -> j < 37 -> d j = false)
 (hY : ∀ W, C.J (C.ys ++ C.q1) W -> YieldAt Fence.wide (N - 1) Tryz.prog C.lp #[.int .i64 C.p2] W fun e W' => (e = .returned (.bool true) ∧ C.J (C.ys ++ C.q1 ++ [C.p2]) W' ∧ CKeep C.Rc W W') ∨ (e = .returned (.bool false) ∧ C.Jx (C.ys ++ C.q1 ++ [C.p2]) W'))
 {t1 : TypeId} (hop : o.op = .call { callee := .value (.tmp 62), args := #[.tmp 71], argTypes := #[t1] }) : StepIn Fence.wide N Tryz.prog ops Q WIS a0 (WRI C) d 33 o a w := by
 have e1 : a.eval (.tmp 62) = _ := H.v62 h23 g0 g1;have e2 : a.eval (.tmp 71) = _ := H.v71 h32 g0 g1;have hL := H.lv g0 (H.n2 (hz 33 (by omega) (by omega)));rw [h14, hz 33 (by omega) (by omega), if_pos rfl, if_neg (by decide), List.append_nil] at hL;obtain ⟨fn5, tm5, as5, bd5, hy5, hR5⟩ := hY w hL.2
 refine q4x hag hdst (by simp [WIS]) hw (fun _ _ => trivial) (by rw [hop]; intro c h; cases h) (fun h => by cases h) (by
  simp only [execOp, hop, resolve, e1, e2];simp [go_sem, e1, (by rw [<- Array.getD_eq_getD_getElem?]; exact e2 : a.tmps[71]?.getD undef = .int .i64 C.p2), hy5]) hR5 (fun e w' he => ?_)
 rcases he with ⟨rfl, h1, h2⟩ | ⟨rfl, h1⟩
 ·exact ⟨_, rfl, c1, true, H.f33 hz h14 g0 g1 (fun _ => ⟨C.keep w w' hL.1 h2, h1⟩) (fun h => by cases h)⟩
 ·exact ⟨_, rfl, c1, false, H.f33 hz h14 g0 g1 (fun h => by cases h) (fun _ => h1)⟩
end
end Go.Proofs.YtdanebboiekieaaGreatDoor
namespace Go.Proofs.YtdanebboiekieaaGreatDoor
open Go.RowKit
def q5y (ops : Array Oper) (d : Nat -> Bool) : Prop := ∀ i o, ops[i]? = some o -> d i = true -> ∀ e ∈ o.after, Region.binds .any e = true -> d e.on = true
theorem StepIn.mono {F : Fence} {n : Nat} {P : Program} {ops : Array Oper} {Q : Exit -> Act -> World -> Prop} {slots : List Nat} {a0 : Act} {I I' : (Nat -> Bool) -> (Nat -> Value) -> World -> Prop} {d : Nat -> Bool} {i : Nat} {o : Oper} {a : Act} {w : World}
 (h : ∀ val w', I (don d i) val w' -> I' (don d i) val w') (H : StepIn F n P ops Q slots a0 I d i o a w) : StepIn F n P ops Q slots a0 I' d i o a w := by
 unfold StepIn at H ⊢
 by_cases hw : Region.wanted o (yielded ops a.tmps) = true
 ·rw [if_pos hw] at H ⊢;exact Oper.wpIn_mono (fun a' w' h' => ⟨h'.1, h _ _ h'.2⟩) H
 ·rw [if_neg hw] at H ⊢;exact ⟨H.1, H.2.1, h _ _ H.2.2⟩
theorem qa0 {F : Fence} {n : Nat} {P : Program} {ops : Array Oper} {Q : Exit -> Act -> World -> Prop} {id : Nat} {a0 : Act} {w : World} (hm : P.follows .mixedOrders = true) (slots : List Nat) (I : (Nat -> Bool) -> (Nat -> Value) -> World -> Prop)
 (hd : ∀ (i : Nat) (o : Oper), ops[i]? = some o -> ∀ e ∈ o.after, Region.binds .any e = true -> e.on < i) (hsl : ∀ k ∈ slots, k < a0.tmps.size)
 (h0 : I (fun _ => false) (vals a0) w.drew)
 (hs : ∀ (d : Nat -> Bool) a w' i o, ops[i]? = some o -> d i = false -> (∀ e ∈ o.after, Region.binds .any e = true -> d e.on = true) -> q5y ops d -> Ag slots a0 a -> I d (vals a) w' -> StepIn F n P ops Q slots a0 I d i o a w')
 (he : ∀ (d : Nat -> Bool) vs w', (∀ i, i < ops.size -> d i = true) -> (∀ k, k ∉ slots -> vs k = vals a0 k) -> I d vs w' -> Q .normal (over a0 (slots.map fun k => (k, vs k))) w') : (Code.region id ops true).wpIn F n P Q a0 w := by
 refine qjo hm slots (fun d val w' => I d val w' ∧ q5y ops d) hd hsl ⟨h0, fun _ _ _ h => by cases h⟩ (fun d a w' i o ho hdi hall hag H => ?_) (fun d vs w' h1 h2 h3 => he d vs w' h1 h2 h3.1);refine StepIn.mono (fun val w'' h => ⟨h, ?_⟩) (hs d a w' i o ho hdi hall H.2 hag H.1);intro j oj hj hdj e hee hb;have hne : e.on ≠ i ∨ e.on = i := by omega
 by_cases e1 : e.on = i
 ·unfold don;rw [if_pos e1]
 ·unfold don;rw [if_neg e1]
  by_cases e2 : j = i
  ·subst e2;rw [ho] at hj
   cases hj
   exact hall e hee hb
  ·unfold don at hdj;rw [if_neg e2] at hdj;exact H.2 j oj hj hdj e hee hb
def depB (o : Oper) (j : Nat) : Bool := o.after.any fun e => Region.binds .any e && e.on == j
theorem qew {o : Oper} {d : Nat -> Bool} (hall : ∀ e ∈ o.after, Region.binds .any e = true -> d e.on = true) {j : Nat} (h : depB o j = true) : d j = true := by
 unfold depB at h;rw [Array.any_eq_true'] at h;obtain ⟨e, he, hb⟩ := h;rw [Bool.and_eq_true, beq_iff_eq] at hb;rw [<- hb.2];exact hall e he hb.1
def OpIs (ops : Array Oper) (i k : Nat) (g : Option (Nat × Bool)) (op : Op) (deps : List Nat) : Prop := ∃ o, ops[i]? = some o ∧ o.dst = some k ∧ o.guard = g ∧ o.op = op ∧ deps.all (depB o) = true
theorem OpIs.deps {ops : Array Oper} {i k : Nat} {g : Option (Nat × Bool)} {op : Op} {deps : List Nat} (h : OpIs ops i k g op deps) {d : Nat -> Bool} (hc : q5y ops d) (hi : d i = true) : ∀ j ∈ deps, d j = true := by
 obtain ⟨o, ho, _, _, _, h4⟩ := h;intro j hj;rw [List.all_eq_true] at h4;exact qew (hc i o ho hi) (h4 j hj)
theorem OpIs.all {ops : Array Oper} {i k : Nat} {g : Option (Nat × Bool)} {op : Op} {deps : List Nat} (h : OpIs ops i k g op deps) {o : Oper} (ho : ops[i]? = some o) {d : Nat -> Bool} (hall : ∀ e ∈ o.after, Region.binds .any e = true -> d e.on = true) : o.dst = some k ∧ o.guard = g ∧ o.op = op ∧ ∀ j ∈ deps, d j = true := by
 obtain ⟨o', ho', h1, h2, h3, h4⟩ := h;rw [ho] at ho'
 cases ho'
 rw [List.all_eq_true] at h4;exact ⟨h1, h2, h3, fun j hj => qew hall (h4 j hj)⟩
theorem qk {b : Bool} {c : Bool} (h : b = true -> c = true) (hc : c = false) : b = false := by
 cases b
 ·rfl
 ·rw [h rfl] at hc
  cases hc
theorem qp {ops : Array Oper} {o : Oper} {a : Act} {j k : Nat} {b : Bool} {g : Option (Nat × Bool)} {op : Op} {deps : List Nat} (h : o.guard = some (j, b)) (ho : OpIs ops j k g op deps) (hk : k < a.tmps.size) {c : Bool} (hv : vals a k = .bool c) : Region.wanted o (yielded ops a.tmps) = (c == b) := by
 obtain ⟨o', ho', h1, _⟩ := ho;exact qhn h ho' h1 hk hv
end Go.Proofs.YtdanebboiekieaaGreatDoor
