/- Package peep: moves to and fro. -/
import Derived.Test.YtkcmijnaheapdaaDoorBase
import Derived.Test.YtkcmijnaheapdaaDoorRows
import Derived.IntWalk
import Derived.Outline
import Derived.Deep.LoopGhost
import Derived.Deep.RegionLaw
import Derived.StillTailTactics
import Derived.Test.YtkcmijnaheapdaaDoorPk11
namespace Go.Proofs.YtkcmijnaheapdaaDoor
open Go.RowKit
set_option linter.unusedSimpArgs false
set_option linter.unusedVariables false

theorem eql_Mac (m n : Mac) (w : World) : (binOp .eql 44 (.agg #[.int .i64 m.op, .int .i64 m.dst, .int .i64 m.a, .int .i64 m.b, .int .i64 m.n]) (.agg #[.int .i64 n.op, .int .i64 n.dst, .int .i64 n.a, .int .i64 n.b, .int .i64 n.n])).run Tryd.prog w = .ok (.bool (decide (m = n))) w := by
  have hp : Tryd.prog.stoodInHeld 44 = false := by kernel_rfl
  have ht : Tryd.prog.underlying 44 = some (.struct (Tryd.prog.fieldsOf 44)) := by kernel_rfl
  rw [run_eql_struct, run_equalIn_agg _ _ _ _ _ ht hp]
  have h3 := Tryd.underlying3
  simp [Tryd.underlying44, go_sem, h3]
  have e : m = n ↔ m.op = n.op ∧ m.dst = n.dst ∧ m.a = n.a ∧ m.b = n.b ∧ m.n = n.n := by
    cases m
    cases n
    simp
  by_cases h1 : m.op = n.op <;> by_cases h2 : m.dst = n.dst <;> by_cases h4 : m.a = n.a <;> by_cases h5 : m.b = n.b <;> by_cases h6 : m.n = n.n <;> simp [e, h1, h2, h4, h5, h6]
set_option maxRecDepth 100000 in
set_option maxHeartbeats 2000000 in
theorem back_calls {w : World} {l : List Mac} {p g cap base : Nat} {vl vr vm : Value} (h : WinO w l p g cap base vl vr vm) (i : Nat) (hi : i < l.length) (R : Ending → World → Prop)
    (hF : backR l i = none → ∀ w', Below w.heap.size w w' → R (.returned (.bool false)) w')
    (hT : ∀ l', backR l i = some l' → ∀ w', Below base w w' → Left w' base p l' → R (.returned (.bool true)) w') :
    Calls Tryd.prog 117 #[.pointer (some ⟨p, 0, none⟩), .int .i64 (i : Int)] w R := by
  have C := h.win.cells
  have c0 := C.c0
  have lp := C.lp
  have M := ownM_at h.own rfl hi
  have m0 := M.c0
  have m1 := M.c1
  have m2 := M.c2
  have m3 := M.c3
  have m4 := M.c4
  have lg := M.lg
  have i0 : (0 : Int) ≤ (i : Int) := by omega
  have i9 : (i : Int) < (l.length : Int) := by omega
  have hbl := h.base_le
  have H := Lib.hid h
  unfold backR at hF hT
  generalize atL l i = m at *
  clear C M h
  go_enter Tryd.func117, Tryd.ntmps117
  go_wp2_with fail
  have hbA : Below w.heap.size w (w.alloc (Obj.cells #[.int .i64 m.op, .int .i64 m.dst, .int .i64 m.a, .int .i64 m.b, .int .i64 m.n] 44)) := bl0
  have HbA := Lib.hid hbA
  refine beside_calls (H.out.below hbA) i hi _ (fun hbs w5 hb5 => ?_) (fun hbs w5 hb5 => ?_)
  · have p0 : w5.cell? ⟨w.heap.size, 0, none⟩ = some (.int .i64 m.op) := by rw [hb5.cell (by simp)]; simp
    have p1 : w5.cell? ⟨w.heap.size, 1, none⟩ = some (.int .i64 m.dst) := by rw [hb5.cell (by simp)]; simp
    have p2 : w5.cell? ⟨w.heap.size, 2, none⟩ = some (.int .i64 m.a) := by rw [hb5.cell (by simp)]; simp
    have p4 : w5.cell? ⟨w.heap.size, 4, none⟩ = some (.int .i64 m.n) := by rw [hb5.cell (by simp)]; simp
    have hz5 : w.heap.size < w5.heap.size := by have := hb5.size; simp at this; omega
    have Hb1 := Lib.hid (hbA.trans (hb5.mono (by simp)))
    have H5 := Lib.hid (H.out.below Hb1.out)
    have hi1 := (besB_iff.1 hbs).1
    have M := ownM_at H5.out.own rfl hi1
    have q0 := M.c0
    have q1 := M.c1
    have q4 := M.c4
    have f0 := M.fz ((i + 1) * 5)
    have f1 := M.fz ((i + 1) * 5 + 1)
    have f2 := M.fz ((i + 1) * 5 + 2)
    have f3 := M.fz ((i + 1) * 5 + 3)
    have f4 := M.fz ((i + 1) * 5 + 4)
    have q2 := M.c2
    have q3 := M.c3
    have lg5 := M.lg
    generalize atL l (i + 1) = o at *
    have hbs' := Lib.hid hbs
    clear hb5 hbA M hbs m0 m1 m2 m3 m4 c0
    by_cases e2 : m.op = 2
    · have j2 : (m.op == 2) = true := by simpa using e2
      have E2 := Lib.hid e2
      clear e2
      have heq := eql_Mac o ⟨2, m.a, m.dst, 0, 0⟩
      by_cases eo : o = ⟨2, m.a, m.dst, 0, 0⟩
      · rw [decide_eq_true eo] at heq
        have HT := Lib.hid (hT _ (by rw [if_pos ⟨hbs'.out, E2.out, eo⟩]))
        clear hT hF eo
        have i3 : (0 : Int) ≤ (i : Int) + 1 := by omega
        go_wp2_with fail
        go_still_tail 21, (by kernel_rfl)
        change wpList _ _ _ _ _ w5.drew
        go_wp2_with fail
        rw [show wrap64 ((i : Int) + 1) = ((i + 1 : Nat) : Int) from by (have := H5.out.win.ok.few; unfold wrap64; omega)]
        have hdr : Below w5.heap.size w5 w5.drew := (Below.refl _ _).drew
        with_reducible refine outW_calls (H5.out.below hdr) (i + 1) hi1 _ (fun w1 hb1 hl1 => ?_)
        have H1 := Lib.hid (HT.out w1 (((Hb1.out.drew).mono hbl).trans hb1) hl1)
        clear hb1 hl1
        go_wp2
        exact H1.out
      · rw [decide_eq_false eo] at heq
        have HF := Lib.hid (hF (by rw [if_neg (fun h => eo h.2.2)]))
        clear hT hF eo
        go_wp2_with fail
        go_quiet (fail)
        go_wp2
        exact HF.out _ (below_drewN Hb1.out _)
    · have j2 : (m.op == 2) = false := by simpa using e2
      have HF := Lib.hid (hF (by rw [if_neg (fun h => e2 h.2.1)]))
      clear hT hF e2
      go_wp2_with fail
      go_quiet (fail)
      go_wp2
      exact HF.out _ (below_drewN Hb1.out _)
  · have HF := Lib.hid (hF (by rw [if_neg (fun h => by rw [hbs] at h; cases h.1)]))
    have Hb1 := Lib.hid (hbA.trans (hb5.mono (by simp)))
    have p0 : w5.cell? ⟨w.heap.size, 0, none⟩ = some (.int .i64 m.op) := by rw [hb5.cell (by simp)]; simp
    have p4 : w5.cell? ⟨w.heap.size, 4, none⟩ = some (.int .i64 m.n) := by rw [hb5.cell (by simp)]; simp
    have hz5 : w.heap.size < w5.heap.size := by have := hb5.size; simp at this; omega
    clear hT hF hb5 hbs hbA
    go_wp2_with fail
    go_quiet (fail)
    go_wp2
    exact HF.out _ (below_drewN Hb1.out _)
end Go.Proofs.YtkcmijnaheapdaaDoor
