/- colour: what a register wishes: the drawn region's operations, run; printed by genwi2.py. -/
import Derived.Test.YtdanebboiekieaaGreatDoorQ26
import Derived.Test.YtdanebboiekieaaGreatDoorQ01
import Derived.Test.YtdanebboiekieaaGreatDoorRows
import Derived.IntWalk
namespace Go.Proofs.YtdanebboiekieaaGreatDoor
open Go.RowKit
set_option linter.unusedSimpArgs false
set_option linter.unusedVariables false
attribute [local go_sem] Oper.semAt_some

def WRI (C : WC) (d : Nat → Bool) (val : Nat → Value) (w : World) : Prop := ∃ c1 c2, WR C c1 c2 d val w
theorem B1_beq (C : WC) : C.B1 = (C.x.a.n == (C.r : Int)) := by
 unfold WC.B1
 rw [Bool.eq_iff_iff]
 simp
theorem B2_beq (C : WC) : C.B2 = (C.x.dst == (C.r : Int)) := by
 unfold WC.B2
 rw [Bool.eq_iff_iff]
 simp
structure ActW (C : WC) (a0 : Act) : Prop where
 t0 : vals a0 0 = .func (.yield C.lp) #[] #[]
 t1 : vals a0 1 = .pointer (some ⟨C.Br, 0, none⟩)
 t2 : vals a0 2 = .pointer (some ⟨C.Bp, 0, none⟩)
 t4 : vals a0 4 = .pointer (some ⟨C.B4, 0, none⟩)
 t8 : vals a0 8 = .pointer (some ⟨C.B8, 0, none⟩)
section
variable {C : WC} {c1 c2 : Bool} {d : Nat → Bool} {a0 a : Act} {w : World} {Q : Exit → Act → World → Prop} {o : Oper} {ops : Array Oper} {N : Nat}
theorem WR.q0 (H : WR C c1 c2 d (vals a) w) (hag : Ag WIS a0 a) (HA : ActW C a0) (hw : Region.wanted o (yielded ops a.tmps) = true) (hdst : o.dst = some 39) (hop : o.op = .fieldAddr 71 (.tmp 8) 2) : StepIn Fence.wide N Tryz.prog ops Q WIS a0 (WRI C) d 0 o a w := by
 have e8 : a.eval (.tmp 8) = _ := (hag.old (by simp [WIS])).trans HA.t8
 refine stepIn_value (v := (.pointer (some ⟨C.B8, 2, none⟩))) (w' := w) hag hdst (by simp [WIS]) hw (fun _ _ => trivial) (by rw [hop]; intro c h; cases h) (by
  simp only [execOp, hop, e8]
  simp [go_sem]) ⟨c1, c2, H.f0⟩
theorem WR.q1 (H : WR C c1 c2 d (vals a) w) (hag : Ag WIS a0 a) (HA : ActW C a0) (hw : Region.wanted o (yielded ops a.tmps) = true) (hdst : o.dst = some 40) (h0 : d 0 = true) (z14 : d 14 = false) (z33 : d 33 = false) (hop : o.op = .load 64 (.tmp 39)) : StepIn Fence.wide N Tryz.prog ops Q WIS a0 (WRI C) d 1 o a w := by
 have hN := (H.lv (H.n1 z14) (H.n2 z33)).1
 have hC := C.cells w hN
 have e39 : a.eval (.tmp 39) = _ := H.v39 h0
 have b2 : w.cell? ⟨C.B8, 2, none⟩ = some (.bool C.x.a.reg) := by rw [blk_cells hC.b8]; rfl
 have b3 : w.cell? ⟨C.B8, 3, none⟩ = some (.int .i64 C.x.a.n) := by rw [blk_cells hC.b8]; rfl
 refine stepIn_value (v := .agg #[.bool C.x.a.reg, .int .i64 C.x.a.n]) (w' := w) hag hdst (by simp [WIS]) hw (fun _ _ => trivial) (by rw [hop]; intro c h; cases h) (by
  simp only [execOp, hop, e39]
  simp [go_sem, b2, b3]) ⟨c1, c2, H.f1⟩
theorem WR.q2 (H : WR C c1 c2 d (vals a) w) (hag : Ag WIS a0 a) (HA : ActW C a0) (hw : Region.wanted o (yielded ops a.tmps) = true) (hdst : o.dst = some 41) (z14 : d 14 = false) (z33 : d 33 = false) (hop : o.op = .load 64 (.tmp 4)) : StepIn Fence.wide N Tryz.prog ops Q WIS a0 (WRI C) d 2 o a w := by
 have hN := (H.lv (H.n1 z14) (H.n2 z33)).1
 have hC := C.cells w hN
 have e4 : a.eval (.tmp 4) = _ := (hag.old (by simp [WIS])).trans HA.t4
 obtain ⟨b0, b1⟩ := cells_blk hC.b4
 refine stepIn_value (v := .agg #[.bool true, .int .i64 (C.r : Int)]) (w' := w) hag hdst (by simp [WIS]) hw (fun _ _ => trivial) (by rw [hop]; intro c h; cases h) (by
  simp only [execOp, hop, e4]
  simp [go_sem, b0, b1]) ⟨c1, c2, H.f2⟩
theorem WR.q3 (H : WR C c1 c2 d (vals a) w) (hag : Ag WIS a0 a) (HA : ActW C a0) (hw : Region.wanted o (yielded ops a.tmps) = true) (hdst : o.dst = some 42) (h1 : d 1 = true) (h2 : d 2 = true) (hop : o.op = .binOp .eql 64 (.tmp 40) (.tmp 41) 64) : StepIn Fence.wide N Tryz.prog ops Q WIS a0 (WRI C) d 3 o a w := by
 have e40 : a.eval (.tmp 40) = _ := H.v40 h1
 have e41 : a.eval (.tmp 41) = _ := H.v41 h2
 rw [C.hreg] at e40
 have hb := B1_beq C
 refine stepIn_value (v := .bool C.B1) (w' := w) hag hdst (by simp [WIS]) hw (fun _ _ => trivial) (by rw [hop]; intro c h; cases h) (by
  simp only [execOp, hop, e40, e41, hb]
  simp [go_sem]
  split <;> rename_i h <;> simp [h]) ⟨c1, c2, H.f3⟩
theorem WR.q4 (H : WR C c1 c2 d (vals a) w) (hag : Ag WIS a0 a) (HA : ActW C a0) (hw : Region.wanted o (yielded ops a.tmps) = true) (hdst : o.dst = some 43) (h3 : d 3 = true) (hop : o.op = .move (.tmp 42)) : StepIn Fence.wide N Tryz.prog ops Q WIS a0 (WRI C) d 4 o a w := by
 have e42 : a.eval (.tmp 42) = _ := H.v42 h3
 refine stepIn_value (v := .bool C.B1) (w' := w) hag hdst (by simp [WIS]) hw (fun _ _ => trivial) (by rw [hop]; intro c h; cases h) (by
  simp only [execOp, hop, e42]
  rfl) ⟨c1, c2, H.f4⟩
theorem WR.q5 (H : WR C c1 c2 d (vals a) w) (hag : Ag WIS a0 a) (HA : ActW C a0) (hw : Region.wanted o (yielded ops a.tmps) = true) (hdst : o.dst = some 44) (g0 : C.B1 = true) (hop : o.op = .move (.tmp 0)) : StepIn Fence.wide N Tryz.prog ops Q WIS a0 (WRI C) d 5 o a w := by
 have e0 : a.eval (.tmp 0) = _ := (hag.old (by simp [WIS])).trans HA.t0
 refine stepIn_value (v := .func (.yield C.lp) #[] #[]) (w' := w) hag hdst (by simp [WIS]) hw (fun _ _ => trivial) (by rw [hop]; intro c h; cases h) (by
  simp only [execOp, hop, e0]
  rfl) ⟨c1, c2, H.f5 g0⟩
theorem WR.q6 (H : WR C c1 c2 d (vals a) w) (hag : Ag WIS a0 a) (HA : ActW C a0) (hw : Region.wanted o (yielded ops a.tmps) = true) (hdst : o.dst = some 45) (g0 : C.B1 = true) (z14 : d 14 = false) (z33 : d 33 = false) (hop : o.op = .load 93 (.tmp 2)) : StepIn Fence.wide N Tryz.prog ops Q WIS a0 (WRI C) d 6 o a w := by
 have hN := (H.lv (H.n1 z14) (H.n2 z33)).1
 have hC := C.cells w hN
 have e2 : a.eval (.tmp 2) = _ := (hag.old (by simp [WIS])).trans HA.t2
 have b := hC.pb
 refine stepIn_value (v := (.pointer (some ⟨C.PB, 0, none⟩))) (w' := w) hag hdst (by simp [WIS]) hw (fun _ _ => trivial) (by rw [hop]; intro c h; cases h) (by
  simp only [execOp, hop, e2]
  simp [go_sem, b]) ⟨c1, c2, H.f6 g0⟩
theorem WR.q24 (H : WR C c1 c2 d (vals a) w) (hag : Ag WIS a0 a) (HA : ActW C a0) (hw : Region.wanted o (yielded ops a.tmps) = true) (hdst : o.dst = some 63) (g0 : c1 = true) (g1 : C.B2 = true) (z33 : d 33 = false) (hop : o.op = .load 93 (.tmp 2)) : StepIn Fence.wide N Tryz.prog ops Q WIS a0 (WRI C) d 24 o a w := by
 have hN := (H.lv g0 (H.n2 z33)).1
 have hC := C.cells w hN
 have e2 : a.eval (.tmp 2) = _ := (hag.old (by simp [WIS])).trans HA.t2
 have b := hC.pb
 refine stepIn_value (v := (.pointer (some ⟨C.PB, 0, none⟩))) (w' := w) hag hdst (by simp [WIS]) hw (fun _ _ => trivial) (by rw [hop]; intro c h; cases h) (by
  simp only [execOp, hop, e2]
  simp [go_sem, b]) ⟨c1, c2, H.f24 g0 g1⟩
theorem WR.q7 (H : WR C c1 c2 d (vals a) w) (hag : Ag WIS a0 a) (HA : ActW C a0) (hw : Region.wanted o (yielded ops a.tmps) = true) (hdst : o.dst = some 46) (h6 : d 6 = true) (g0 : C.B1 = true) (hop : o.op = .nilCheck (.tmp 45)) : StepIn Fence.wide N Tryz.prog ops Q WIS a0 (WRI C) d 7 o a w := by
 have e45 : a.eval (.tmp 45) = _ := H.v45 h6 g0
 refine stepIn_value (v := (.pointer (some ⟨C.PB, 0, none⟩))) (w' := w) hag hdst (by simp [WIS]) hw (fun _ _ => trivial) (by rw [hop]; intro c h; cases h) (by
  simp only [execOp, hop, e45]
  simp [go_sem]) ⟨c1, c2, H.f7 g0⟩
theorem WR.q25 (H : WR C c1 c2 d (vals a) w) (hag : Ag WIS a0 a) (HA : ActW C a0) (hw : Region.wanted o (yielded ops a.tmps) = true) (hdst : o.dst = some 64) (h24 : d 24 = true) (g0 : c1 = true) (g1 : C.B2 = true) (hop : o.op = .nilCheck (.tmp 63)) : StepIn Fence.wide N Tryz.prog ops Q WIS a0 (WRI C) d 25 o a w := by
 have e63 : a.eval (.tmp 63) = _ := H.v63 h24 g0 g1
 refine stepIn_value (v := (.pointer (some ⟨C.PB, 0, none⟩))) (w' := w) hag hdst (by simp [WIS]) hw (fun _ _ => trivial) (by rw [hop]; intro c h; cases h) (by
  simp only [execOp, hop, e63]
  simp [go_sem]) ⟨c1, c2, H.f25 g0 g1⟩
theorem WR.q8 (H : WR C c1 c2 d (vals a) w) (hag : Ag WIS a0 a) (HA : ActW C a0) (hw : Region.wanted o (yielded ops a.tmps) = true) (hdst : o.dst = some 47) (h7 : d 7 = true) (g0 : C.B1 = true) (hop : o.op = .fieldAddr 96 (.tmp 46) 4) : StepIn Fence.wide N Tryz.prog ops Q WIS a0 (WRI C) d 8 o a w := by
 have e46 : a.eval (.tmp 46) = _ := H.v46 h7 g0
 refine stepIn_value (v := (.pointer (some ⟨C.PB, 7, none⟩))) (w' := w) hag hdst (by simp [WIS]) hw (fun _ _ => trivial) (by rw [hop]; intro c h; cases h) (by
  simp only [execOp, hop, e46]
  simp [go_sem]) ⟨c1, c2, H.f8 g0⟩
theorem WR.q26 (H : WR C c1 c2 d (vals a) w) (hag : Ag WIS a0 a) (HA : ActW C a0) (hw : Region.wanted o (yielded ops a.tmps) = true) (hdst : o.dst = some 65) (h25 : d 25 = true) (g0 : c1 = true) (g1 : C.B2 = true) (hop : o.op = .fieldAddr 96 (.tmp 64) 4) : StepIn Fence.wide N Tryz.prog ops Q WIS a0 (WRI C) d 26 o a w := by
 have e64 : a.eval (.tmp 64) = _ := H.v64 h25 g0 g1
 refine stepIn_value (v := (.pointer (some ⟨C.PB, 7, none⟩))) (w' := w) hag hdst (by simp [WIS]) hw (fun _ _ => trivial) (by rw [hop]; intro c h; cases h) (by
  simp only [execOp, hop, e64]
  simp [go_sem]) ⟨c1, c2, H.f26 g0 g1⟩
theorem WR.q9 (H : WR C c1 c2 d (vals a) w) (hag : Ag WIS a0 a) (HA : ActW C a0) (hw : Region.wanted o (yielded ops a.tmps) = true) (hdst : o.dst = some 48) (h8 : d 8 = true) (g0 : C.B1 = true) (z14 : d 14 = false) (z33 : d 33 = false) (hop : o.op = .load 26 (.tmp 47)) : StepIn Fence.wide N Tryz.prog ops Q WIS a0 (WRI C) d 9 o a w := by
 have hN := (H.lv (H.n1 z14) (H.n2 z33)).1
 have hC := C.cells w hN
 have e47 : a.eval (.tmp 47) = _ := H.v47 h8 g0
 have b := hC.pp
 refine stepIn_value (v := .slice (some ⟨C.gp, 0, none⟩) C.n C.cp) (w' := w) hag hdst (by simp [WIS]) hw (fun _ _ => trivial) (by rw [hop]; intro c h; cases h) (by
  simp only [execOp, hop, e47]
  simp [go_sem, b]) ⟨c1, c2, H.f9 g0⟩
theorem WR.q27 (H : WR C c1 c2 d (vals a) w) (hag : Ag WIS a0 a) (HA : ActW C a0) (hw : Region.wanted o (yielded ops a.tmps) = true) (hdst : o.dst = some 66) (h26 : d 26 = true) (g0 : c1 = true) (g1 : C.B2 = true) (z33 : d 33 = false) (hop : o.op = .load 26 (.tmp 65)) : StepIn Fence.wide N Tryz.prog ops Q WIS a0 (WRI C) d 27 o a w := by
 have hN := (H.lv g0 (H.n2 z33)).1
 have hC := C.cells w hN
 have e65 : a.eval (.tmp 65) = _ := H.v65 h26 g0 g1
 have b := hC.pp
 refine stepIn_value (v := .slice (some ⟨C.gp, 0, none⟩) C.n C.cp) (w' := w) hag hdst (by simp [WIS]) hw (fun _ _ => trivial) (by rw [hop]; intro c h; cases h) (by
  simp only [execOp, hop, e65]
  simp [go_sem, b]) ⟨c1, c2, H.f27 g0 g1⟩
theorem WR.q10 (H : WR C c1 c2 d (vals a) w) (hag : Ag WIS a0 a) (HA : ActW C a0) (hw : Region.wanted o (yielded ops a.tmps) = true) (hdst : o.dst = some 49) (g0 : C.B1 = true) (hop : o.op = .fieldAddr 71 (.tmp 8) 1) : StepIn Fence.wide N Tryz.prog ops Q WIS a0 (WRI C) d 10 o a w := by
 have e8 : a.eval (.tmp 8) = _ := (hag.old (by simp [WIS])).trans HA.t8
 refine stepIn_value (v := (.pointer (some ⟨C.B8, 1, none⟩))) (w' := w) hag hdst (by simp [WIS]) hw (fun _ _ => trivial) (by rw [hop]; intro c h; cases h) (by
  simp only [execOp, hop, e8]
  simp [go_sem]) ⟨c1, c2, H.f10 g0⟩
theorem WR.q18 (H : WR C c1 c2 d (vals a) w) (hag : Ag WIS a0 a) (HA : ActW C a0) (hw : Region.wanted o (yielded ops a.tmps) = true) (hdst : o.dst = some 57) (g0 : c1 = true) (hop : o.op = .fieldAddr 71 (.tmp 8) 1) : StepIn Fence.wide N Tryz.prog ops Q WIS a0 (WRI C) d 18 o a w := by
 have e8 : a.eval (.tmp 8) = _ := (hag.old (by simp [WIS])).trans HA.t8
 refine stepIn_value (v := (.pointer (some ⟨C.B8, 1, none⟩))) (w' := w) hag hdst (by simp [WIS]) hw (fun _ _ => trivial) (by rw [hop]; intro c h; cases h) (by
  simp only [execOp, hop, e8]
  simp [go_sem]) ⟨c1, c2, H.f18 g0⟩
theorem WR.q11 (H : WR C c1 c2 d (vals a) w) (hag : Ag WIS a0 a) (HA : ActW C a0) (hw : Region.wanted o (yielded ops a.tmps) = true) (hdst : o.dst = some 50) (h10 : d 10 = true) (g0 : C.B1 = true) (z14 : d 14 = false) (z33 : d 33 = false) (hop : o.op = .load 3 (.tmp 49)) : StepIn Fence.wide N Tryz.prog ops Q WIS a0 (WRI C) d 11 o a w := by
 have hN := (H.lv (H.n1 z14) (H.n2 z33)).1
 have hC := C.cells w hN
 have e49 : a.eval (.tmp 49) = _ := H.v49 h10 g0
 have b : w.cell? ⟨C.B8, 1, none⟩ = some (.int .i64 C.x.dst) := by rw [blk_cells hC.b8]; rfl
 refine stepIn_value (v := .int .i64 C.x.dst) (w' := w) hag hdst (by simp [WIS]) hw (fun _ _ => trivial) (by rw [hop]; intro c h; cases h) (by
  simp only [execOp, hop, e49]
  simp [go_sem, b]) ⟨c1, c2, H.f11 g0⟩
theorem WR.q19 (H : WR C c1 c2 d (vals a) w) (hag : Ag WIS a0 a) (HA : ActW C a0) (hw : Region.wanted o (yielded ops a.tmps) = true) (hdst : o.dst = some 58) (h18 : d 18 = true) (g0 : c1 = true) (z33 : d 33 = false) (hop : o.op = .load 3 (.tmp 57)) : StepIn Fence.wide N Tryz.prog ops Q WIS a0 (WRI C) d 19 o a w := by
 have hN := (H.lv g0 (H.n2 z33)).1
 have hC := C.cells w hN
 have e57 : a.eval (.tmp 57) = _ := H.v57 h18 g0
 have b : w.cell? ⟨C.B8, 1, none⟩ = some (.int .i64 C.x.dst) := by rw [blk_cells hC.b8]; rfl
 refine stepIn_value (v := .int .i64 C.x.dst) (w' := w) hag hdst (by simp [WIS]) hw (fun _ _ => trivial) (by rw [hop]; intro c h; cases h) (by
  simp only [execOp, hop, e57]
  simp [go_sem, b]) ⟨c1, c2, H.f19 g0⟩
theorem WR.q12 (H : WR C c1 c2 d (vals a) w) (hag : Ag WIS a0 a) (HA : ActW C a0) (hw : Region.wanted o (yielded ops a.tmps) = true) (hdst : o.dst = some 51) (h9 : d 9 = true) (h11 : d 11 = true) (g0 : C.B1 = true) (hop : o.op = .indexAddr 26 (.tmp 48) (.tmp 50)) : StepIn Fence.wide N Tryz.prog ops Q WIS a0 (WRI C) d 12 o a w := by
 have e48 : a.eval (.tmp 48) = _ := H.v48 h9 g0
 have e50 : a.eval (.tmp 50) = _ := H.v50 h11 g0
 have k1 := C.hd.1
 have k2 := C.hd.2
 refine stepIn_value (v := (.pointer (some ⟨C.gp, C.x.dst.toNat, none⟩))) (w' := w) hag hdst (by simp [WIS]) hw (fun _ _ => trivial) (by rw [hop]; intro c h; cases h) (by
  simp only [execOp, hop, e48, e50]
  simp [go_sem, k1, k2]) ⟨c1, c2, H.f12 g0⟩
theorem WR.q13 (H : WR C c1 c2 d (vals a) w) (hag : Ag WIS a0 a) (HA : ActW C a0) (hw : Region.wanted o (yielded ops a.tmps) = true) (hdst : o.dst = some 52) (h12 : d 12 = true) (g0 : C.B1 = true) (z14 : d 14 = false) (z33 : d 33 = false) (hop : o.op = .load 3 (.tmp 51)) : StepIn Fence.wide N Tryz.prog ops Q WIS a0 (WRI C) d 13 o a w := by
 have hN := (H.lv (H.n1 z14) (H.n2 z33)).1
 have hC := C.cells w hN
 have e51 : a.eval (.tmp 51) = _ := H.v51 h12 g0
 have b := hC.pl.cell (k := C.x.dst.toNat) (by have := C.hd; have := C.hlen; omega)
 refine stepIn_value (v := .int .i64 C.p1) (w' := w) hag hdst (by simp [WIS]) hw (fun _ _ => trivial) (by rw [hop]; intro c h; cases h) (by
  simp only [execOp, hop, e51]
  simp [go_sem, b, WC.p1]) ⟨c1, c2, H.f13 g0⟩
theorem WR.q15 (H : WR C c1 c2 d (vals a) w) (hag : Ag WIS a0 a) (HA : ActW C a0) (hw : Region.wanted o (yielded ops a.tmps) = true) (hdst : o.dst = some 54) (h14 : d 14 = true) (g0 : C.B1 = true) (hop : o.op = .unOp .not 4 (.tmp 53)) : StepIn Fence.wide N Tryz.prog ops Q WIS a0 (WRI C) d 15 o a w := by
 have e53 : a.eval (.tmp 53) = _ := H.v53 h14 g0
 refine stepIn_value (v := .bool (!c1)) (w' := w) hag hdst (by simp [WIS]) hw (fun _ _ => trivial) (by rw [hop]; intro c h; cases h) (by
  simp only [execOp, hop, e53]
  simp [go_sem]) ⟨c1, c2, H.f15 g0⟩
theorem WR.q16 (H : WR C c1 c2 d (vals a) w) (hag : Ag WIS a0 a) (HA : ActW C a0) (hw : Region.wanted o (yielded ops a.tmps) = true) (hdst : o.dst = some 55) (h4 : d 4 = true) (h15 : d 15 = true) (hop : o.op = .pick (.tmp 43) (.tmp 54) (.const (.bool false))) : StepIn Fence.wide N Tryz.prog ops Q WIS a0 (WRI C) d 16 o a w := by
 have e43 : a.eval (.tmp 43) = _ := H.v43 h4
 refine stepIn_value (v := .bool (!c1)) (w' := w) hag hdst (by simp [WIS]) hw (fun _ _ => trivial) (by rw [hop]; intro c h; cases h) (by
  cases hb : C.B1
  ·rw [hb] at e43
   have := H.b1 hb
   subst this
   simp only [execOp, hop, e43]
   rfl
  ·rw [hb] at e43
   have e54 : a.eval (.tmp 54) = _ := H.v54 h15 hb
   simp only [execOp, hop, e43, e54]
   rfl) ⟨c1, c2, H.f16⟩
theorem WR.q17 (H : WR C c1 c2 d (vals a) w) (hag : Ag WIS a0 a) (HA : ActW C a0) (hw : Region.wanted o (yielded ops a.tmps) = true) (hdst : o.dst = some 56) (h16 : d 16 = true) (hop : o.op = .move (.tmp 55)) : StepIn Fence.wide N Tryz.prog ops Q WIS a0 (WRI C) d 17 o a w := by
 have e55 : a.eval (.tmp 55) = _ := H.v55 h16
 refine stepIn_value (v := .bool (!c1)) (w' := w) hag hdst (by simp [WIS]) hw (fun _ _ => trivial) (by rw [hop]; intro c h; cases h) (by
  simp only [execOp, hop, e55]
  rfl) ⟨c1, c2, H.f17⟩
theorem WR.q20 (H : WR C c1 c2 d (vals a) w) (hag : Ag WIS a0 a) (HA : ActW C a0) (hw : Region.wanted o (yielded ops a.tmps) = true) (hdst : o.dst = some 59) (g0 : c1 = true) (z33 : d 33 = false) (hop : o.op = .load 3 (.tmp 1)) : StepIn Fence.wide N Tryz.prog ops Q WIS a0 (WRI C) d 20 o a w := by
 have hN := (H.lv g0 (H.n2 z33)).1
 have hC := C.cells w hN
 have e1 : a.eval (.tmp 1) = _ := (hag.old (by simp [WIS])).trans HA.t1
 have b := hC.rb
 refine stepIn_value (v := .int .i64 (C.r : Int)) (w' := w) hag hdst (by simp [WIS]) hw (fun _ _ => trivial) (by rw [hop]; intro c h; cases h) (by
  simp only [execOp, hop, e1]
  simp [go_sem, b]) ⟨c1, c2, H.f20 g0⟩
theorem WR.q21 (H : WR C c1 c2 d (vals a) w) (hag : Ag WIS a0 a) (HA : ActW C a0) (hw : Region.wanted o (yielded ops a.tmps) = true) (hdst : o.dst = some 60) (h19 : d 19 = true) (h20 : d 20 = true) (g0 : c1 = true) (hop : o.op = .binOp .eql 3 (.tmp 58) (.tmp 59) 3) : StepIn Fence.wide N Tryz.prog ops Q WIS a0 (WRI C) d 21 o a w := by
 have e58 : a.eval (.tmp 58) = _ := H.v58 h19 g0
 have e59 : a.eval (.tmp 59) = _ := H.v59 h20 g0
 have hb := B2_beq C
 refine stepIn_value (v := .bool C.B2) (w' := w) hag hdst (by simp [WIS]) hw (fun _ _ => trivial) (by rw [hop]; intro c h; cases h) (by
  simp only [execOp, hop, e58, e59, hb]
  simp [go_sem]) ⟨c1, c2, H.f21 g0⟩
theorem WR.q22 (H : WR C c1 c2 d (vals a) w) (hag : Ag WIS a0 a) (HA : ActW C a0) (hw : Region.wanted o (yielded ops a.tmps) = true) (hdst : o.dst = some 61) (h21 : d 21 = true) (g0 : c1 = true) (hop : o.op = .move (.tmp 60)) : StepIn Fence.wide N Tryz.prog ops Q WIS a0 (WRI C) d 22 o a w := by
 have e60 : a.eval (.tmp 60) = _ := H.v60 h21 g0
 refine stepIn_value (v := .bool C.B2) (w' := w) hag hdst (by simp [WIS]) hw (fun _ _ => trivial) (by rw [hop]; intro c h; cases h) (by
  simp only [execOp, hop, e60]
  rfl) ⟨c1, c2, H.f22 g0⟩
theorem WR.q23 (H : WR C c1 c2 d (vals a) w) (hag : Ag WIS a0 a) (HA : ActW C a0) (hw : Region.wanted o (yielded ops a.tmps) = true) (hdst : o.dst = some 62) (g0 : c1 = true) (g1 : C.B2 = true) (hop : o.op = .move (.tmp 0)) : StepIn Fence.wide N Tryz.prog ops Q WIS a0 (WRI C) d 23 o a w := by
 have e0 : a.eval (.tmp 0) = _ := (hag.old (by simp [WIS])).trans HA.t0
 refine stepIn_value (v := .func (.yield C.lp) #[] #[]) (w' := w) hag hdst (by simp [WIS]) hw (fun _ _ => trivial) (by rw [hop]; intro c h; cases h) (by
  simp only [execOp, hop, e0]
  rfl) ⟨c1, c2, H.f23 g0 g1⟩
theorem WR.q28 (H : WR C c1 c2 d (vals a) w) (hag : Ag WIS a0 a) (HA : ActW C a0) (hw : Region.wanted o (yielded ops a.tmps) = true) (hdst : o.dst = some 67) (g0 : c1 = true) (g1 : C.B2 = true) (hop : o.op = .fieldAddr 71 (.tmp 8) 2) : StepIn Fence.wide N Tryz.prog ops Q WIS a0 (WRI C) d 28 o a w := by
 have e8 : a.eval (.tmp 8) = _ := (hag.old (by simp [WIS])).trans HA.t8
 refine stepIn_value (v := (.pointer (some ⟨C.B8, 2, none⟩))) (w' := w) hag hdst (by simp [WIS]) hw (fun _ _ => trivial) (by rw [hop]; intro c h; cases h) (by
  simp only [execOp, hop, e8]
  simp [go_sem]) ⟨c1, c2, H.f28 g0 g1⟩
theorem WR.q29 (H : WR C c1 c2 d (vals a) w) (hag : Ag WIS a0 a) (HA : ActW C a0) (hw : Region.wanted o (yielded ops a.tmps) = true) (hdst : o.dst = some 68) (h28 : d 28 = true) (g0 : c1 = true) (g1 : C.B2 = true) (hop : o.op = .fieldAddr 64 (.tmp 67) 1) : StepIn Fence.wide N Tryz.prog ops Q WIS a0 (WRI C) d 29 o a w := by
 have e67 : a.eval (.tmp 67) = _ := H.v67 h28 g0 g1
 refine stepIn_value (v := (.pointer (some ⟨C.B8, 3, none⟩))) (w' := w) hag hdst (by simp [WIS]) hw (fun _ _ => trivial) (by rw [hop]; intro c h; cases h) (by
  simp only [execOp, hop, e67]
  simp [go_sem]) ⟨c1, c2, H.f29 g0 g1⟩
theorem WR.q30 (H : WR C c1 c2 d (vals a) w) (hag : Ag WIS a0 a) (HA : ActW C a0) (hw : Region.wanted o (yielded ops a.tmps) = true) (hdst : o.dst = some 69) (h29 : d 29 = true) (g0 : c1 = true) (g1 : C.B2 = true) (z33 : d 33 = false) (hop : o.op = .load 3 (.tmp 68)) : StepIn Fence.wide N Tryz.prog ops Q WIS a0 (WRI C) d 30 o a w := by
 have hN := (H.lv g0 (H.n2 z33)).1
 have hC := C.cells w hN
 have e68 : a.eval (.tmp 68) = _ := H.v68 h29 g0 g1
 have b : w.cell? ⟨C.B8, 3, none⟩ = some (.int .i64 C.x.a.n) := by rw [blk_cells hC.b8]; rfl
 refine stepIn_value (v := .int .i64 C.x.a.n) (w' := w) hag hdst (by simp [WIS]) hw (fun _ _ => trivial) (by rw [hop]; intro c h; cases h) (by
  simp only [execOp, hop, e68]
  simp [go_sem, b]) ⟨c1, c2, H.f30 g0 g1⟩
theorem WR.q31 (H : WR C c1 c2 d (vals a) w) (hag : Ag WIS a0 a) (HA : ActW C a0) (hw : Region.wanted o (yielded ops a.tmps) = true) (hdst : o.dst = some 70) (h27 : d 27 = true) (h30 : d 30 = true) (g0 : c1 = true) (g1 : C.B2 = true) (hop : o.op = .indexAddr 26 (.tmp 66) (.tmp 69)) : StepIn Fence.wide N Tryz.prog ops Q WIS a0 (WRI C) d 31 o a w := by
 have e66 : a.eval (.tmp 66) = _ := H.v66 h27 g0 g1
 have e69 : a.eval (.tmp 69) = _ := H.v69 h30 g0 g1
 have k1 := C.ha.1
 have k2 := C.ha.2
 refine stepIn_value (v := (.pointer (some ⟨C.gp, C.x.a.n.toNat, none⟩))) (w' := w) hag hdst (by simp [WIS]) hw (fun _ _ => trivial) (by rw [hop]; intro c h; cases h) (by
  simp only [execOp, hop, e66, e69]
  simp [go_sem, k1, k2]) ⟨c1, c2, H.f31 g0 g1⟩
theorem WR.q32 (H : WR C c1 c2 d (vals a) w) (hag : Ag WIS a0 a) (HA : ActW C a0) (hw : Region.wanted o (yielded ops a.tmps) = true) (hdst : o.dst = some 71) (h31 : d 31 = true) (g0 : c1 = true) (g1 : C.B2 = true) (z33 : d 33 = false) (hop : o.op = .load 3 (.tmp 70)) : StepIn Fence.wide N Tryz.prog ops Q WIS a0 (WRI C) d 32 o a w := by
 have hN := (H.lv g0 (H.n2 z33)).1
 have hC := C.cells w hN
 have e70 : a.eval (.tmp 70) = _ := H.v70 h31 g0 g1
 have b := hC.pl.cell (k := C.x.a.n.toNat) (by have := C.ha; have := C.hlen; omega)
 refine stepIn_value (v := .int .i64 C.p2) (w' := w) hag hdst (by simp [WIS]) hw (fun _ _ => trivial) (by rw [hop]; intro c h; cases h) (by
  simp only [execOp, hop, e70]
  simp [go_sem, b, WC.p2]) ⟨c1, c2, H.f32 g0 g1⟩
theorem WR.q34 (H : WR C c1 c2 d (vals a) w) (hag : Ag WIS a0 a) (HA : ActW C a0) (hw : Region.wanted o (yielded ops a.tmps) = true) (hdst : o.dst = some 73) (h33 : d 33 = true) (g0 : c1 = true) (g1 : C.B2 = true) (hop : o.op = .unOp .not 4 (.tmp 72)) : StepIn Fence.wide N Tryz.prog ops Q WIS a0 (WRI C) d 34 o a w := by
 have e72 : a.eval (.tmp 72) = _ := H.v72 h33 g0 g1
 refine stepIn_value (v := .bool (!c2)) (w' := w) hag hdst (by simp [WIS]) hw (fun _ _ => trivial) (by rw [hop]; intro c h; cases h) (by
  simp only [execOp, hop, e72]
  simp [go_sem]) ⟨c1, c2, H.f34 g0 g1⟩
theorem WR.q35 (H : WR C c1 c2 d (vals a) w) (hag : Ag WIS a0 a) (HA : ActW C a0) (hw : Region.wanted o (yielded ops a.tmps) = true) (hdst : o.dst = some 74) (h22 : d 22 = true) (h34 : d 34 = true) (g0 : c1 = true) (hop : o.op = .pick (.tmp 61) (.tmp 73) (.const (.bool false))) : StepIn Fence.wide N Tryz.prog ops Q WIS a0 (WRI C) d 35 o a w := by
 have e61 : a.eval (.tmp 61) = _ := H.v61 h22 g0
 refine stepIn_value (v := .bool (!c2)) (w' := w) hag hdst (by simp [WIS]) hw (fun _ _ => trivial) (by rw [hop]; intro c h; cases h) (by
  cases hb : C.B2
  ·rw [hb] at e61
   have := H.b2 hb
   subst this
   simp only [execOp, hop, e61]
   rfl
  ·rw [hb] at e61
   have e73 : a.eval (.tmp 73) = _ := H.v73 h34 g0 hb
   simp only [execOp, hop, e61, e73]
   rfl) ⟨c1, c2, H.f35 g0⟩
theorem WR.q36 (H : WR C c1 c2 d (vals a) w) (hag : Ag WIS a0 a) (HA : ActW C a0) (hw : Region.wanted o (yielded ops a.tmps) = true) (hdst : o.dst = some 75) (h17 : d 17 = true) (h35 : d 35 = true) (hop : o.op = .pick (.tmp 56) (.const (.bool true)) (.tmp 74)) : StepIn Fence.wide N Tryz.prog ops Q WIS a0 (WRI C) d 36 o a w := by
 have e56 : a.eval (.tmp 56) = _ := H.v56 h17
 refine stepIn_value (v := .bool (!c1 || !c2)) (w' := w) hag hdst (by simp [WIS]) hw (fun _ _ => trivial) (by rw [hop]; intro c h; cases h) (by
  cases c1
  ·simp only [execOp, hop, e56]
   rfl
  ·have e74 : a.eval (.tmp 74) = _ := H.v74 h35 rfl
   simp only [execOp, hop, e56, e74]
   rfl) ⟨c1, c2, H.f36⟩
theorem WR.s5B1 (H : WR C c1 c2 d (vals a) w) (hag : Ag WIS a0 a) (hw : Region.wanted o (yielded ops a.tmps) = false) (hdst : o.dst = some 44) (g : C.B1 = false) : StepIn Fence.wide N Tryz.prog ops Q WIS a0 (WRI C) d 5 o a w :=
 stepIn_not hag hdst (by simp [WIS]) hw (fun _ _ => trivial) ⟨c1, c2, H.u5B1 g⟩
theorem WR.s6B1 (H : WR C c1 c2 d (vals a) w) (hag : Ag WIS a0 a) (hw : Region.wanted o (yielded ops a.tmps) = false) (hdst : o.dst = some 45) (g : C.B1 = false) : StepIn Fence.wide N Tryz.prog ops Q WIS a0 (WRI C) d 6 o a w :=
 stepIn_not hag hdst (by simp [WIS]) hw (fun _ _ => trivial) ⟨c1, c2, H.u6B1 g⟩
theorem WR.s7B1 (H : WR C c1 c2 d (vals a) w) (hag : Ag WIS a0 a) (hw : Region.wanted o (yielded ops a.tmps) = false) (hdst : o.dst = some 46) (g : C.B1 = false) : StepIn Fence.wide N Tryz.prog ops Q WIS a0 (WRI C) d 7 o a w :=
 stepIn_not hag hdst (by simp [WIS]) hw (fun _ _ => trivial) ⟨c1, c2, H.u7B1 g⟩
theorem WR.s8B1 (H : WR C c1 c2 d (vals a) w) (hag : Ag WIS a0 a) (hw : Region.wanted o (yielded ops a.tmps) = false) (hdst : o.dst = some 47) (g : C.B1 = false) : StepIn Fence.wide N Tryz.prog ops Q WIS a0 (WRI C) d 8 o a w :=
 stepIn_not hag hdst (by simp [WIS]) hw (fun _ _ => trivial) ⟨c1, c2, H.u8B1 g⟩
theorem WR.s9B1 (H : WR C c1 c2 d (vals a) w) (hag : Ag WIS a0 a) (hw : Region.wanted o (yielded ops a.tmps) = false) (hdst : o.dst = some 48) (g : C.B1 = false) : StepIn Fence.wide N Tryz.prog ops Q WIS a0 (WRI C) d 9 o a w :=
 stepIn_not hag hdst (by simp [WIS]) hw (fun _ _ => trivial) ⟨c1, c2, H.u9B1 g⟩
theorem WR.s10B1 (H : WR C c1 c2 d (vals a) w) (hag : Ag WIS a0 a) (hw : Region.wanted o (yielded ops a.tmps) = false) (hdst : o.dst = some 49) (g : C.B1 = false) : StepIn Fence.wide N Tryz.prog ops Q WIS a0 (WRI C) d 10 o a w :=
 stepIn_not hag hdst (by simp [WIS]) hw (fun _ _ => trivial) ⟨c1, c2, H.u10B1 g⟩
theorem WR.s11B1 (H : WR C c1 c2 d (vals a) w) (hag : Ag WIS a0 a) (hw : Region.wanted o (yielded ops a.tmps) = false) (hdst : o.dst = some 50) (g : C.B1 = false) : StepIn Fence.wide N Tryz.prog ops Q WIS a0 (WRI C) d 11 o a w :=
 stepIn_not hag hdst (by simp [WIS]) hw (fun _ _ => trivial) ⟨c1, c2, H.u11B1 g⟩
theorem WR.s12B1 (H : WR C c1 c2 d (vals a) w) (hag : Ag WIS a0 a) (hw : Region.wanted o (yielded ops a.tmps) = false) (hdst : o.dst = some 51) (g : C.B1 = false) : StepIn Fence.wide N Tryz.prog ops Q WIS a0 (WRI C) d 12 o a w :=
 stepIn_not hag hdst (by simp [WIS]) hw (fun _ _ => trivial) ⟨c1, c2, H.u12B1 g⟩
theorem WR.s13B1 (H : WR C c1 c2 d (vals a) w) (hag : Ag WIS a0 a) (hw : Region.wanted o (yielded ops a.tmps) = false) (hdst : o.dst = some 52) (g : C.B1 = false) : StepIn Fence.wide N Tryz.prog ops Q WIS a0 (WRI C) d 13 o a w :=
 stepIn_not hag hdst (by simp [WIS]) hw (fun _ _ => trivial) ⟨c1, c2, H.u13B1 g⟩
theorem WR.s14B1 (H : WR C c1 c2 d (vals a) w) (hag : Ag WIS a0 a) (hw : Region.wanted o (yielded ops a.tmps) = false) (hdst : o.dst = some 53) (g : C.B1 = false) : StepIn Fence.wide N Tryz.prog ops Q WIS a0 (WRI C) d 14 o a w :=
 stepIn_not hag hdst (by simp [WIS]) hw (fun _ _ => trivial) ⟨c1, c2, H.u14B1 g⟩
theorem WR.s15B1 (H : WR C c1 c2 d (vals a) w) (hag : Ag WIS a0 a) (hw : Region.wanted o (yielded ops a.tmps) = false) (hdst : o.dst = some 54) (g : C.B1 = false) : StepIn Fence.wide N Tryz.prog ops Q WIS a0 (WRI C) d 15 o a w :=
 stepIn_not hag hdst (by simp [WIS]) hw (fun _ _ => trivial) ⟨c1, c2, H.u15B1 g⟩
theorem WR.s18c1 (H : WR C c1 c2 d (vals a) w) (hag : Ag WIS a0 a) (hw : Region.wanted o (yielded ops a.tmps) = false) (hdst : o.dst = some 57) (g : c1 = false) : StepIn Fence.wide N Tryz.prog ops Q WIS a0 (WRI C) d 18 o a w :=
 stepIn_not hag hdst (by simp [WIS]) hw (fun _ _ => trivial) ⟨c1, c2, H.u18c1 g⟩
theorem WR.s19c1 (H : WR C c1 c2 d (vals a) w) (hag : Ag WIS a0 a) (hw : Region.wanted o (yielded ops a.tmps) = false) (hdst : o.dst = some 58) (g : c1 = false) : StepIn Fence.wide N Tryz.prog ops Q WIS a0 (WRI C) d 19 o a w :=
 stepIn_not hag hdst (by simp [WIS]) hw (fun _ _ => trivial) ⟨c1, c2, H.u19c1 g⟩
theorem WR.s20c1 (H : WR C c1 c2 d (vals a) w) (hag : Ag WIS a0 a) (hw : Region.wanted o (yielded ops a.tmps) = false) (hdst : o.dst = some 59) (g : c1 = false) : StepIn Fence.wide N Tryz.prog ops Q WIS a0 (WRI C) d 20 o a w :=
 stepIn_not hag hdst (by simp [WIS]) hw (fun _ _ => trivial) ⟨c1, c2, H.u20c1 g⟩
theorem WR.s21c1 (H : WR C c1 c2 d (vals a) w) (hag : Ag WIS a0 a) (hw : Region.wanted o (yielded ops a.tmps) = false) (hdst : o.dst = some 60) (g : c1 = false) : StepIn Fence.wide N Tryz.prog ops Q WIS a0 (WRI C) d 21 o a w :=
 stepIn_not hag hdst (by simp [WIS]) hw (fun _ _ => trivial) ⟨c1, c2, H.u21c1 g⟩
theorem WR.s22c1 (H : WR C c1 c2 d (vals a) w) (hag : Ag WIS a0 a) (hw : Region.wanted o (yielded ops a.tmps) = false) (hdst : o.dst = some 61) (g : c1 = false) : StepIn Fence.wide N Tryz.prog ops Q WIS a0 (WRI C) d 22 o a w :=
 stepIn_not hag hdst (by simp [WIS]) hw (fun _ _ => trivial) ⟨c1, c2, H.u22c1 g⟩
theorem WR.s23c1 (H : WR C c1 c2 d (vals a) w) (hag : Ag WIS a0 a) (hw : Region.wanted o (yielded ops a.tmps) = false) (hdst : o.dst = some 62) (g : c1 = false) : StepIn Fence.wide N Tryz.prog ops Q WIS a0 (WRI C) d 23 o a w :=
 stepIn_not hag hdst (by simp [WIS]) hw (fun _ _ => trivial) ⟨c1, c2, H.u23c1 g⟩
theorem WR.s23B2 (H : WR C c1 c2 d (vals a) w) (hag : Ag WIS a0 a) (hw : Region.wanted o (yielded ops a.tmps) = false) (hdst : o.dst = some 62) (g : C.B2 = false) : StepIn Fence.wide N Tryz.prog ops Q WIS a0 (WRI C) d 23 o a w :=
 stepIn_not hag hdst (by simp [WIS]) hw (fun _ _ => trivial) ⟨c1, c2, H.u23B2 g⟩
theorem WR.s24c1 (H : WR C c1 c2 d (vals a) w) (hag : Ag WIS a0 a) (hw : Region.wanted o (yielded ops a.tmps) = false) (hdst : o.dst = some 63) (g : c1 = false) : StepIn Fence.wide N Tryz.prog ops Q WIS a0 (WRI C) d 24 o a w :=
 stepIn_not hag hdst (by simp [WIS]) hw (fun _ _ => trivial) ⟨c1, c2, H.u24c1 g⟩
theorem WR.s24B2 (H : WR C c1 c2 d (vals a) w) (hag : Ag WIS a0 a) (hw : Region.wanted o (yielded ops a.tmps) = false) (hdst : o.dst = some 63) (g : C.B2 = false) : StepIn Fence.wide N Tryz.prog ops Q WIS a0 (WRI C) d 24 o a w :=
 stepIn_not hag hdst (by simp [WIS]) hw (fun _ _ => trivial) ⟨c1, c2, H.u24B2 g⟩
theorem WR.s25c1 (H : WR C c1 c2 d (vals a) w) (hag : Ag WIS a0 a) (hw : Region.wanted o (yielded ops a.tmps) = false) (hdst : o.dst = some 64) (g : c1 = false) : StepIn Fence.wide N Tryz.prog ops Q WIS a0 (WRI C) d 25 o a w :=
 stepIn_not hag hdst (by simp [WIS]) hw (fun _ _ => trivial) ⟨c1, c2, H.u25c1 g⟩
theorem WR.s25B2 (H : WR C c1 c2 d (vals a) w) (hag : Ag WIS a0 a) (hw : Region.wanted o (yielded ops a.tmps) = false) (hdst : o.dst = some 64) (g : C.B2 = false) : StepIn Fence.wide N Tryz.prog ops Q WIS a0 (WRI C) d 25 o a w :=
 stepIn_not hag hdst (by simp [WIS]) hw (fun _ _ => trivial) ⟨c1, c2, H.u25B2 g⟩
theorem WR.s26c1 (H : WR C c1 c2 d (vals a) w) (hag : Ag WIS a0 a) (hw : Region.wanted o (yielded ops a.tmps) = false) (hdst : o.dst = some 65) (g : c1 = false) : StepIn Fence.wide N Tryz.prog ops Q WIS a0 (WRI C) d 26 o a w :=
 stepIn_not hag hdst (by simp [WIS]) hw (fun _ _ => trivial) ⟨c1, c2, H.u26c1 g⟩
theorem WR.s26B2 (H : WR C c1 c2 d (vals a) w) (hag : Ag WIS a0 a) (hw : Region.wanted o (yielded ops a.tmps) = false) (hdst : o.dst = some 65) (g : C.B2 = false) : StepIn Fence.wide N Tryz.prog ops Q WIS a0 (WRI C) d 26 o a w :=
 stepIn_not hag hdst (by simp [WIS]) hw (fun _ _ => trivial) ⟨c1, c2, H.u26B2 g⟩
theorem WR.s27c1 (H : WR C c1 c2 d (vals a) w) (hag : Ag WIS a0 a) (hw : Region.wanted o (yielded ops a.tmps) = false) (hdst : o.dst = some 66) (g : c1 = false) : StepIn Fence.wide N Tryz.prog ops Q WIS a0 (WRI C) d 27 o a w :=
 stepIn_not hag hdst (by simp [WIS]) hw (fun _ _ => trivial) ⟨c1, c2, H.u27c1 g⟩
theorem WR.s27B2 (H : WR C c1 c2 d (vals a) w) (hag : Ag WIS a0 a) (hw : Region.wanted o (yielded ops a.tmps) = false) (hdst : o.dst = some 66) (g : C.B2 = false) : StepIn Fence.wide N Tryz.prog ops Q WIS a0 (WRI C) d 27 o a w :=
 stepIn_not hag hdst (by simp [WIS]) hw (fun _ _ => trivial) ⟨c1, c2, H.u27B2 g⟩
theorem WR.s28c1 (H : WR C c1 c2 d (vals a) w) (hag : Ag WIS a0 a) (hw : Region.wanted o (yielded ops a.tmps) = false) (hdst : o.dst = some 67) (g : c1 = false) : StepIn Fence.wide N Tryz.prog ops Q WIS a0 (WRI C) d 28 o a w :=
 stepIn_not hag hdst (by simp [WIS]) hw (fun _ _ => trivial) ⟨c1, c2, H.u28c1 g⟩
theorem WR.s28B2 (H : WR C c1 c2 d (vals a) w) (hag : Ag WIS a0 a) (hw : Region.wanted o (yielded ops a.tmps) = false) (hdst : o.dst = some 67) (g : C.B2 = false) : StepIn Fence.wide N Tryz.prog ops Q WIS a0 (WRI C) d 28 o a w :=
 stepIn_not hag hdst (by simp [WIS]) hw (fun _ _ => trivial) ⟨c1, c2, H.u28B2 g⟩
theorem WR.s29c1 (H : WR C c1 c2 d (vals a) w) (hag : Ag WIS a0 a) (hw : Region.wanted o (yielded ops a.tmps) = false) (hdst : o.dst = some 68) (g : c1 = false) : StepIn Fence.wide N Tryz.prog ops Q WIS a0 (WRI C) d 29 o a w :=
 stepIn_not hag hdst (by simp [WIS]) hw (fun _ _ => trivial) ⟨c1, c2, H.u29c1 g⟩
theorem WR.s29B2 (H : WR C c1 c2 d (vals a) w) (hag : Ag WIS a0 a) (hw : Region.wanted o (yielded ops a.tmps) = false) (hdst : o.dst = some 68) (g : C.B2 = false) : StepIn Fence.wide N Tryz.prog ops Q WIS a0 (WRI C) d 29 o a w :=
 stepIn_not hag hdst (by simp [WIS]) hw (fun _ _ => trivial) ⟨c1, c2, H.u29B2 g⟩
theorem WR.s30c1 (H : WR C c1 c2 d (vals a) w) (hag : Ag WIS a0 a) (hw : Region.wanted o (yielded ops a.tmps) = false) (hdst : o.dst = some 69) (g : c1 = false) : StepIn Fence.wide N Tryz.prog ops Q WIS a0 (WRI C) d 30 o a w :=
 stepIn_not hag hdst (by simp [WIS]) hw (fun _ _ => trivial) ⟨c1, c2, H.u30c1 g⟩
theorem WR.s30B2 (H : WR C c1 c2 d (vals a) w) (hag : Ag WIS a0 a) (hw : Region.wanted o (yielded ops a.tmps) = false) (hdst : o.dst = some 69) (g : C.B2 = false) : StepIn Fence.wide N Tryz.prog ops Q WIS a0 (WRI C) d 30 o a w :=
 stepIn_not hag hdst (by simp [WIS]) hw (fun _ _ => trivial) ⟨c1, c2, H.u30B2 g⟩
theorem WR.s31c1 (H : WR C c1 c2 d (vals a) w) (hag : Ag WIS a0 a) (hw : Region.wanted o (yielded ops a.tmps) = false) (hdst : o.dst = some 70) (g : c1 = false) : StepIn Fence.wide N Tryz.prog ops Q WIS a0 (WRI C) d 31 o a w :=
 stepIn_not hag hdst (by simp [WIS]) hw (fun _ _ => trivial) ⟨c1, c2, H.u31c1 g⟩
theorem WR.s31B2 (H : WR C c1 c2 d (vals a) w) (hag : Ag WIS a0 a) (hw : Region.wanted o (yielded ops a.tmps) = false) (hdst : o.dst = some 70) (g : C.B2 = false) : StepIn Fence.wide N Tryz.prog ops Q WIS a0 (WRI C) d 31 o a w :=
 stepIn_not hag hdst (by simp [WIS]) hw (fun _ _ => trivial) ⟨c1, c2, H.u31B2 g⟩
theorem WR.s32c1 (H : WR C c1 c2 d (vals a) w) (hag : Ag WIS a0 a) (hw : Region.wanted o (yielded ops a.tmps) = false) (hdst : o.dst = some 71) (g : c1 = false) : StepIn Fence.wide N Tryz.prog ops Q WIS a0 (WRI C) d 32 o a w :=
 stepIn_not hag hdst (by simp [WIS]) hw (fun _ _ => trivial) ⟨c1, c2, H.u32c1 g⟩
theorem WR.s32B2 (H : WR C c1 c2 d (vals a) w) (hag : Ag WIS a0 a) (hw : Region.wanted o (yielded ops a.tmps) = false) (hdst : o.dst = some 71) (g : C.B2 = false) : StepIn Fence.wide N Tryz.prog ops Q WIS a0 (WRI C) d 32 o a w :=
 stepIn_not hag hdst (by simp [WIS]) hw (fun _ _ => trivial) ⟨c1, c2, H.u32B2 g⟩
theorem WR.s33c1 (H : WR C c1 c2 d (vals a) w) (hag : Ag WIS a0 a) (hw : Region.wanted o (yielded ops a.tmps) = false) (hdst : o.dst = some 72) (g : c1 = false) : StepIn Fence.wide N Tryz.prog ops Q WIS a0 (WRI C) d 33 o a w :=
 stepIn_not hag hdst (by simp [WIS]) hw (fun _ _ => trivial) ⟨c1, c2, H.u33c1 g⟩
theorem WR.s33B2 (H : WR C c1 c2 d (vals a) w) (hag : Ag WIS a0 a) (hw : Region.wanted o (yielded ops a.tmps) = false) (hdst : o.dst = some 72) (g : C.B2 = false) : StepIn Fence.wide N Tryz.prog ops Q WIS a0 (WRI C) d 33 o a w :=
 stepIn_not hag hdst (by simp [WIS]) hw (fun _ _ => trivial) ⟨c1, c2, H.u33B2 g⟩
theorem WR.s34c1 (H : WR C c1 c2 d (vals a) w) (hag : Ag WIS a0 a) (hw : Region.wanted o (yielded ops a.tmps) = false) (hdst : o.dst = some 73) (g : c1 = false) : StepIn Fence.wide N Tryz.prog ops Q WIS a0 (WRI C) d 34 o a w :=
 stepIn_not hag hdst (by simp [WIS]) hw (fun _ _ => trivial) ⟨c1, c2, H.u34c1 g⟩
theorem WR.s34B2 (H : WR C c1 c2 d (vals a) w) (hag : Ag WIS a0 a) (hw : Region.wanted o (yielded ops a.tmps) = false) (hdst : o.dst = some 73) (g : C.B2 = false) : StepIn Fence.wide N Tryz.prog ops Q WIS a0 (WRI C) d 34 o a w :=
 stepIn_not hag hdst (by simp [WIS]) hw (fun _ _ => trivial) ⟨c1, c2, H.u34B2 g⟩
theorem WR.s35c1 (H : WR C c1 c2 d (vals a) w) (hag : Ag WIS a0 a) (hw : Region.wanted o (yielded ops a.tmps) = false) (hdst : o.dst = some 74) (g : c1 = false) : StepIn Fence.wide N Tryz.prog ops Q WIS a0 (WRI C) d 35 o a w :=
 stepIn_not hag hdst (by simp [WIS]) hw (fun _ _ => trivial) ⟨c1, c2, H.u35c1 g⟩
theorem WR.q14 (H : WR C c1 c2 d (vals a) w) (hag : Ag WIS a0 a) (HA : ActW C a0) (hw : Region.wanted o (yielded ops a.tmps) = true) (hdst : o.dst = some 53) (h5 : d 5 = true) (h13 : d 13 = true) (g0 : C.B1 = true) (hz : ∀ j, 14 ≤ j → j < 37 → d j = false)
 (hY : ∀ W, C.J (C.ys) W → YieldAt Fence.wide (N - 1) Tryz.prog C.lp #[.int .i64 C.p1] W fun e W' => (e = .returned (.bool true) ∧ C.J (C.ys ++ [C.p1]) W' ∧ CKeep C.Rc W W') ∨ (e = .returned (.bool false) ∧ C.Jx (C.ys ++ [C.p1]) W'))
 {t1 : TypeId} (hop : o.op = .call { callee := .value (.tmp 44), args := #[.tmp 52], argTypes := #[t1] }) : StepIn Fence.wide N Tryz.prog ops Q WIS a0 (WRI C) d 14 o a w := by
 have e1 : a.eval (.tmp 44) = _ := H.v44 h5 g0
 have e2 : a.eval (.tmp 52) = _ := H.v52 h13 g0
 have hL := H.lv (H.n1 (hz 14 (by omega) (by omega))) (H.n2 (hz 33 (by omega) (by omega)))
 rw [hz 14 (by omega) (by omega), hz 33 (by omega) (by omega), if_neg (by decide), if_neg (by decide), List.append_nil, List.append_nil] at hL
 obtain ⟨fn5, tm5, as5, bd5, hy5, hR5⟩ := hY w hL.2
 refine stepIn_yield hag hdst (by simp [WIS]) hw (fun _ _ => trivial) (by rw [hop]; intro c h; cases h) (fun h => by cases h) (by
  simp only [execOp, hop, resolve, e1, e2]
  simp [go_sem, e1, (by rw [← Array.getD_eq_getD_getElem?]; exact e2 : a.tmps[52]?.getD undef = .int .i64 C.p1), hy5]) hR5 (fun e w' he => ?_)
 rcases he with ⟨rfl, h1, h2⟩ | ⟨rfl, h1⟩
 ·exact ⟨_, rfl, true, c2, H.f14 hz g0 (fun _ => ⟨C.keep w w' hL.1 h2, h1⟩) (fun h => by cases h)⟩
 ·exact ⟨_, rfl, false, c2, H.f14 hz g0 (fun h => by cases h) (fun _ => h1)⟩
theorem WR.q33 (H : WR C c1 c2 d (vals a) w) (hag : Ag WIS a0 a) (HA : ActW C a0) (hw : Region.wanted o (yielded ops a.tmps) = true) (hdst : o.dst = some 72) (h23 : d 23 = true) (h32 : d 32 = true) (h14 : d 14 = true) (g0 : c1 = true) (g1 : C.B2 = true) (hz : ∀ j, 33 ≤ j → j < 37 → d j = false)
 (hY : ∀ W, C.J (C.ys ++ C.q1) W → YieldAt Fence.wide (N - 1) Tryz.prog C.lp #[.int .i64 C.p2] W fun e W' => (e = .returned (.bool true) ∧ C.J (C.ys ++ C.q1 ++ [C.p2]) W' ∧ CKeep C.Rc W W') ∨ (e = .returned (.bool false) ∧ C.Jx (C.ys ++ C.q1 ++ [C.p2]) W'))
 {t1 : TypeId} (hop : o.op = .call { callee := .value (.tmp 62), args := #[.tmp 71], argTypes := #[t1] }) : StepIn Fence.wide N Tryz.prog ops Q WIS a0 (WRI C) d 33 o a w := by
 have e1 : a.eval (.tmp 62) = _ := H.v62 h23 g0 g1
 have e2 : a.eval (.tmp 71) = _ := H.v71 h32 g0 g1
 have hL := H.lv g0 (H.n2 (hz 33 (by omega) (by omega)))
 rw [h14, hz 33 (by omega) (by omega), if_pos rfl, if_neg (by decide), List.append_nil] at hL
 obtain ⟨fn5, tm5, as5, bd5, hy5, hR5⟩ := hY w hL.2
 refine stepIn_yield hag hdst (by simp [WIS]) hw (fun _ _ => trivial) (by rw [hop]; intro c h; cases h) (fun h => by cases h) (by
  simp only [execOp, hop, resolve, e1, e2]
  simp [go_sem, e1, (by rw [← Array.getD_eq_getD_getElem?]; exact e2 : a.tmps[71]?.getD undef = .int .i64 C.p2), hy5]) hR5 (fun e w' he => ?_)
 rcases he with ⟨rfl, h1, h2⟩ | ⟨rfl, h1⟩
 ·exact ⟨_, rfl, c1, true, H.f33 hz h14 g0 g1 (fun _ => ⟨C.keep w w' hL.1 h2, h1⟩) (fun h => by cases h)⟩
 ·exact ⟨_, rfl, c1, false, H.f33 hz h14 g0 g1 (fun h => by cases h) (fun _ => h1)⟩
end
end Go.Proofs.YtdanebboiekieaaGreatDoor
