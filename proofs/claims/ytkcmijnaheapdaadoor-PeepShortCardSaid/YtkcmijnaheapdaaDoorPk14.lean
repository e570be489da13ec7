/- Package peep: what is sure. -/
import Derived.Test.YtkcmijnaheapdaaDoorBase
import Derived.Test.YtkcmijnaheapdaaDoorRows
import Derived.IntWalk
import Derived.Outline
import Derived.Deep.LoopGhost
import Derived.Deep.RegionLaw
import Derived.StillTailTactics
import Derived.Test.YtkcmijnaheapdaaDoorPk11
namespace Go.Proofs.YtkcmijnaheapdaaDoor
open Go.RowKit
set_option linter.unusedSimpArgs false
set_option linter.unusedVariables false

set_option maxRecDepth 100000 in
set_option maxHeartbeats 2000000 in
theorem sure_calls {w : World} {l : List Mac} {p g cap base : Nat} {vl vr vm : Value} (h : WinO w l p g cap base vl vr vm) (i : Nat) (hi : i < l.length) (R : Ending → World → Prop)
    (hF : sureR l i = none → ∀ w', Below w.heap.size w w' → R (.returned (.bool false)) w')
    (hT : ∀ l', sureR l i = some l' → ∀ w', Below base w w' → Left w' base p l' → R (.returned (.bool true)) w') :
    Calls Tryd.prog 118 #[.pointer (some ⟨p, 0, none⟩), .int .i64 (i : Int)] w R := by
  have C := h.win.cells
  have c0 := C.c0
  have lp := C.lp
  have M := ownM_at h.own rfl hi
  have m0 := M.c0
  have m1 := M.c1
  have m2 := M.c2
  have m3 := M.c3
  have m4 := M.c4
  have lg := M.lg
  have i0 : (0 : Int) ≤ (i : Int) := by omega
  have i9 : (i : Int) < (l.length : Int) := by omega
  have hbl := h.base_le
  have H := Lib.hid h
  unfold sureR at hF hT
  generalize atL l i = m at *
  clear C M h
  go_enter Tryd.func118, Tryd.ntmps118
  go_wp2_with fail
  have hbA : Below w.heap.size w (w.alloc (Obj.cells #[.int .i64 m.op, .int .i64 m.dst, .int .i64 m.a, .int .i64 m.b, .int .i64 m.n] 44)) := bl0
  have HbA := Lib.hid hbA
  refine beside_calls (H.out.below hbA) i hi _ (fun hbs w5 hb5 => ?_) (fun hbs w5 hb5 => ?_)
  · have p0 : w5.cell? ⟨w.heap.size, 0, none⟩ = some (.int .i64 m.op) := by rw [hb5.cell (by simp)]; simp
    have p1 : w5.cell? ⟨w.heap.size, 1, none⟩ = some (.int .i64 m.dst) := by rw [hb5.cell (by simp)]; simp
    have p2 : w5.cell? ⟨w.heap.size, 2, none⟩ = some (.int .i64 m.a) := by rw [hb5.cell (by simp)]; simp
    have p4 : w5.cell? ⟨w.heap.size, 4, none⟩ = some (.int .i64 m.n) := by rw [hb5.cell (by simp)]; simp
    have hz5 : w.heap.size < w5.heap.size := by have := hb5.size; simp at this; omega
    have Hb1 := Lib.hid (hbA.trans (hb5.mono (by simp)))
    have H5 := Lib.hid (H.out.below Hb1.out)
    have hi1 := (besB_iff.1 hbs).1
    have M := ownM_at H5.out.own rfl hi1
    have q0 := M.c0
    have q1 := M.c1
    have q4 := M.c4
    have f0 := M.fz ((i + 1) * 5)
    have f1 := M.fz ((i + 1) * 5 + 1)
    have f2 := M.fz ((i + 1) * 5 + 2)
    have f3 := M.fz ((i + 1) * 5 + 3)
    have f4 := M.fz ((i + 1) * 5 + 4)
    have q2 := M.c2
    have q3 := M.c3
    have lg5 := M.lg
    generalize atL l (i + 1) = o at *
    have hbs' := Lib.hid hbs
    clear hb5 hbA M hbs m0 m1 m2 m3 m4 c0
    by_cases e1 : m.op = 1
    · have j1 : (m.op != 1) = false := by simpa using e1
      have E1 := Lib.hid e1
      clear e1
      go_wp2_with fail
      refine asks_calls w5 g ((i + 1) * 5) o m.dst q0 q2 _ (fun w6 hb6 => ?_)
      have p4' := (hb6.cell (p := ⟨w.heap.size, 4, none⟩) hz5).trans p4
      have r0 := (hb6.cell (p := ⟨g, (i + 1) * 5, none⟩) lg5).trans q0
      have r1 := (hb6.cell (p := ⟨g, (i + 1) * 5 + 1, none⟩) lg5).trans q1
      have r2 := (hb6.cell (p := ⟨g, (i + 1) * 5 + 2, none⟩) lg5).trans q2
      have r3 := (hb6.cell (p := ⟨g, (i + 1) * 5 + 3, none⟩) lg5).trans q3
      have r4 := (hb6.cell (p := ⟨g, (i + 1) * 5 + 4, none⟩) lg5).trans q4
      have s0 := (hb6.frozen (p := ⟨g, (i + 1) * 5, none⟩) lg5).trans f0
      have s1 := (hb6.frozen (p := ⟨g, (i + 1) * 5 + 1, none⟩) lg5).trans f1
      have s2 := (hb6.frozen (p := ⟨g, (i + 1) * 5 + 2, none⟩) lg5).trans f2
      have s3 := (hb6.frozen (p := ⟨g, (i + 1) * 5 + 3, none⟩) lg5).trans f3
      have s4 := (hb6.frozen (p := ⟨g, (i + 1) * 5 + 4, none⟩) lg5).trans f4
      have lw6 := Nat.lt_of_lt_of_le hz5 hb6.size
      have lg6 := Nat.lt_of_lt_of_le lg5 hb6.size
      have H6 := Lib.hid (H5.out.below hb6)
      have Hb6 := Lib.hid (Hb1.out.trans (hb6.mono Hb1.out.size))
      clear hb6 p0 p1 p2 p4 q0 q1 q2 q3 q4 f0 f1 f2 f3 f4
      cases ha : asksM o m.dst
      · have HF := Lib.hid (hF (by rw [if_neg (fun h => by rw [ha] at h; cases h.2.2)]))
        clear hT hF ha
        go_wp2
        exact HF.out _ Hb6.out
      · rw [if_pos ⟨hbs'.out, E1.out, ha⟩] at hT
        have ex : (!(m.n == 0)) = (m.n != 0) := rfl
        by_cases hs : (decide (m.n = 0) == decide (o.op = 38)) = true
        · rw [if_pos hs] at hT
          have HT := Lib.hid (hT _ rfl)
          have jx : ((m.n != 0) == (o.op == 38)) = false := by
            have h1 : (m.n == 0) = decide (m.n = 0) := by rw [Bool.eq_iff_iff]; simp
            have h2 : (o.op == 38) = decide (o.op = 38) := by rw [Bool.eq_iff_iff]; simp
            rw [← ex, h1, h2]
            cases ha : decide (m.n = 0) <;> cases hb : decide (o.op = 38) <;> rw [ha, hb] at hs <;> revert hs <;> decide
          clear hT hF ha hs ex
          go_wp2_with fail
          go_quiet (fail)
          go_wp2_with (go_at_call 145; rw [show wrap64 ((i : Int) + 1) = ((i + 1 : Nat) : Int) from by (have := H6.out.win.ok.few; unfold wrap64; omega)]; with_reducible refine outW_calls (H6.out.below (below_drewN (Below.refl _ _) _)) (i + 1) hi1 _ (fun w1 hb1 hl1 => ?_))
          exact HT.out w1 (((below_drewN Hb6.out _).mono hbl).trans hb1) hl1
        · rw [if_neg hs] at hT
          have HT := Lib.hid (hT _ rfl)
          have jx : ((m.n != 0) == (o.op == 38)) = true := by
            have h1 : (m.n == 0) = decide (m.n = 0) := by rw [Bool.eq_iff_iff]; simp
            have h2 : (o.op == 38) = decide (o.op = 38) := by rw [Bool.eq_iff_iff]; simp
            rw [← ex, h1, h2]
            cases ha : decide (m.n = 0) <;> cases hb : decide (o.op = 38) <;> rw [ha, hb] at hs <;> revert hs <;> decide
          clear hT hF ha hs ex
          go_wp2_with fail
          go_quiet (fail)
          go_wp2
          have hs5 := (H6.out.below (below_drewN (Below.refl _ _) nq)).set5 hi1 ⟨37, 0, 0, 0, o.n⟩
          exact HT.out _ (((below_drewN Hb6.out nq).mono hbl).trans hs5.1) hs5.2
    · have j1 : (m.op != 1) = true := by simpa using e1
      have HF := Lib.hid (hF (by rw [if_neg (fun h => e1 h.2.1)]))
      clear hT hF e1
      go_wp2
      exact HF.out _ Hb1.out
  · have HF := Lib.hid (hF (by rw [if_neg (fun h => by rw [hbs] at h; cases h.1)]))
    have Hb1 := Lib.hid (hbA.trans (hb5.mono (by simp)))
    have p0 : w5.cell? ⟨w.heap.size, 0, none⟩ = some (.int .i64 m.op) := by rw [hb5.cell (by simp)]; simp
    have p4 : w5.cell? ⟨w.heap.size, 4, none⟩ = some (.int .i64 m.n) := by rw [hb5.cell (by simp)]; simp
    have hz5 : w.heap.size < w5.heap.size := by have := hb5.size; simp at this; omega
    clear hT hF hb5 hbs hbA
    go_wp2
    exact HF.out _ Hb1.out
end Go.Proofs.YtkcmijnaheapdaaDoor
