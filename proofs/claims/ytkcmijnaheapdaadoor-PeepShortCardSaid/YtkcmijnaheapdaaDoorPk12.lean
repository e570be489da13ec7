/- Package peep: what is got again. -/
import Derived.Test.YtkcmijnaheapdaaDoorBase
import Derived.Test.YtkcmijnaheapdaaDoorRows
import Derived.IntWalk
import Derived.Outline
import Derived.Deep.LoopGhost
import Derived.Deep.RegionLaw
import Derived.Test.YtkcmijnaheapdaaDoorPk11
namespace Go.Proofs.YtkcmijnaheapdaaDoor
open Go.RowKit
set_option linter.unusedSimpArgs false
set_option linter.unusedVariables false

set_option maxHeartbeats 2000000 in
theorem again_calls {w : World} {l : List Mac} {p g cap base : Nat} {vl vr vm : Value} (h : WinO w l p g cap base vl vr vm) (i : Nat) (hi : i < l.length) (R : Ending → World → Prop)
    (hF : againR l i = none → ∀ w', Below w.heap.size w w' → R (.returned (.bool false)) w')
    (hT : ∀ l', againR l i = some l' → ∀ w', Below base w w' → Left w' base p l' → R (.returned (.bool true)) w') :
    Calls Tryd.prog 116 #[.pointer (some ⟨p, 0, none⟩), .int .i64 (i : Int)] w R := by
  have C := h.win.cells
  have c0 := C.c0
  have lp := C.lp
  have M := ownM_at h.own rfl hi
  have m0 := M.c0
  have m1 := M.c1
  have m2 := M.c2
  have m3 := M.c3
  have m4 := M.c4
  have lg := M.lg
  have i0 : (0 : Int) ≤ (i : Int) := by omega
  have i9 : (i : Int) < (l.length : Int) := by omega
  have hbl := h.base_le
  have H := Lib.hid h
  unfold againR at hF hT
  generalize atL l i = m at *
  clear C M h
  go_enter Tryd.func116, Tryd.ntmps116
  go_wp2_with fail
  have hbA : Below w.heap.size w (w.alloc (Obj.cells #[.int .i64 m.op, .int .i64 m.dst, .int .i64 m.a, .int .i64 m.b, .int .i64 m.n] 44)) := bl0
  have HbA := Lib.hid hbA
  refine beside_calls (H.out.below hbA) i hi _ (fun hbs w5 hb5 => ?_) (fun hbs w5 hb5 => ?_)
  · have p0 : w5.cell? ⟨w.heap.size, 0, none⟩ = some (.int .i64 m.op) := by rw [hb5.cell (by simp)]; simp
    have p2 : w5.cell? ⟨w.heap.size, 2, none⟩ = some (.int .i64 m.a) := by rw [hb5.cell (by simp)]; simp
    have p4 : w5.cell? ⟨w.heap.size, 4, none⟩ = some (.int .i64 m.n) := by rw [hb5.cell (by simp)]; simp
    have hz5 : w.heap.size < w5.heap.size := by have := hb5.size; simp at this; omega
    have Hb1 := Lib.hid (hbA.trans (hb5.mono (by simp)))
    have H5 := Lib.hid (H.out.below Hb1.out)
    have hi1 := (besB_iff.1 hbs).1
    have M := ownM_at H5.out.own rfl hi1
    have q0 := M.c0
    have q1 := M.c1
    have q4 := M.c4
    have f0 := M.fz ((i + 1) * 5)
    have f1 := M.fz ((i + 1) * 5 + 1)
    have f2 := M.fz ((i + 1) * 5 + 2)
    have f3 := M.fz ((i + 1) * 5 + 3)
    have f4 := M.fz ((i + 1) * 5 + 4)
    have q2 := M.c2
    have q3 := M.c3
    have lg5 := M.lg
    have hs5 := fun n => (H5.out.below (below_drewN (Below.refl _ _) n)).set5 hi1 ⟨2, (atL l (i + 1)).dst, m.a, 0, 0⟩
    generalize atL l (i + 1) = o at *
    have Hs5 := Lib.hid hs5
    have hbs' := Lib.hid hbs
    clear hs5 hb5 hbA M hbs m0 m1 m2 m3 m4 c0
    by_cases e36 : m.op = 36
    · have j36 : (m.op != 36) = false := by simpa using e36
      have E36 := Lib.hid e36
      clear e36
      by_cases e35 : o.op = 35
      · have j35 : (o.op != 35) = false := by simpa using e35
        have E35 := Lib.hid e35
        clear e35
        by_cases en : o.n = m.n
        · have jn : (o.n != m.n) = false := by simpa using en
          have HT := Lib.hid (hT _ (by rw [if_pos ⟨hbs'.out, E36.out, E35.out, en⟩]))
          clear hT hF en
          go_wp2_with fail
          go_quiet (fail)
          go_wp2_with fail
          go_region_law (fail)
          all_goals
            go_wp2
            first | exact HT.out _ ((below_drewN (Hb1.out.mono hbl) _).trans (Hs5.out _).1) (Hs5.out _).2 | exact HT.out _ (((below_drewN (Hb1.out.mono hbl) _).trans (Hs5.out _).1).drew) ((Hs5.out _).2.below (Below.refl _ _).drew)
        · have jn : (o.n != m.n) = true := by simpa using en
          have HF := Lib.hid (hF (by rw [if_neg (fun h => en h.2.2.2)]))
          clear hT hF en
          go_wp2_with fail
          go_quiet (fail)
          go_wp2
          exact HF.out _ (below_drewN Hb1.out _)
      · have j35 : (o.op != 35) = true := by simpa using e35
        have HF := Lib.hid (hF (by rw [if_neg (fun h => e35 h.2.2.1)]))
        clear hT hF e35
        go_wp2_with fail
        go_quiet (fail)
        go_wp2
        exact HF.out _ (below_drewN Hb1.out _)
    · have j36 : (m.op != 36) = true := by simpa using e36
      have HF := Lib.hid (hF (by rw [if_neg (fun h => e36 h.2.1)]))
      clear hT hF e36
      go_wp2_with fail
      go_quiet (fail)
      go_wp2
      exact HF.out _ (below_drewN Hb1.out _)
  · have HF := Lib.hid (hF (by rw [if_neg (fun h => by rw [hbs] at h; cases h.1)]))
    have Hb1 := Lib.hid (hbA.trans (hb5.mono (by simp)))
    have p0 : w5.cell? ⟨w.heap.size, 0, none⟩ = some (.int .i64 m.op) := by rw [hb5.cell (by simp)]; simp
    have p4 : w5.cell? ⟨w.heap.size, 4, none⟩ = some (.int .i64 m.n) := by rw [hb5.cell (by simp)]; simp
    have hz5 : w.heap.size < w5.heap.size := by have := hb5.size; simp at this; omega
    clear hT hF hb5 hbs hbA
    go_wp2_with fail
    go_quiet (fail)
    go_wp2
    exact HF.out _ (below_drewN Hb1.out _)
end Go.Proofs.YtkcmijnaheapdaaDoor
