/- Package peep: rules that write an instruction anew. -/
import Derived.Test.YtkcmijnaheapdaaDoorBase
import Derived.Test.YtkcmijnaheapdaaDoorRows
import Derived.IntWalk
import Derived.Outline
import Derived.Deep.LoopGhost
import Derived.Deep.RegionLaw
import Derived.Test.YtkcmijnaheapdaaDoorPk10
namespace Go.Proofs.YtkcmijnaheapdaaDoor
open Go.RowKit
set_option linter.unusedSimpArgs false
set_option linter.unusedVariables false

theorem Left.below {w w' : World} {base p : Nat} {l : List Mac} (h : Left w base p l) (hb : Below w.heap.size w w') : Left w' base p l := by
  obtain ⟨g, cap, vl, vr, vm, h1, h2⟩ := h.row
  exact ⟨g, cap, vl, vr, vm, (hb.block _ (blk_lt h1)).trans h1, own_below h2 hb⟩
/-- An instruction of the window is another one. -/
theorem WinO.set5 {w : World} {l : List Mac} {p g cap base : Nat} {vl vr vm : Value} (h : WinO w l p g cap base vl vr vm) {k : Nat} (hk : k < l.length) (m : Mac) :
    Below base w (((((w.setCell ⟨g, k * 5, none⟩ (.int .i64 m.op)).setCell ⟨g, k * 5 + 1, none⟩ (.int .i64 m.dst)).setCell ⟨g, k * 5 + 2, none⟩ (.int .i64 m.a)).setCell ⟨g, k * 5 + 3, none⟩ (.int .i64 m.b)).setCell ⟨g, k * 5 + 4, none⟩ (.int .i64 m.n)) ∧
    Left (((((w.setCell ⟨g, k * 5, none⟩ (.int .i64 m.op)).setCell ⟨g, k * 5 + 1, none⟩ (.int .i64 m.dst)).setCell ⟨g, k * 5 + 2, none⟩ (.int .i64 m.a)).setCell ⟨g, k * 5 + 3, none⟩ (.int .i64 m.b)).setCell ⟨g, k * 5 + 4, none⟩ (.int .i64 m.n)) base p (l.set k m) := by
  have hb := h.baseg
  have hn := h.ne
  refine ⟨(((((Below.refl base w).setCell (p := ⟨g, k * 5, none⟩) hb _).setCell (p := ⟨g, k * 5 + 1, none⟩) hb _).setCell (p := ⟨g, k * 5 + 2, none⟩) hb _).setCell (p := ⟨g, k * 5 + 3, none⟩) hb _).setCell (p := ⟨g, k * 5 + 4, none⟩) hb _, Left.of_set h List.length_set ?_ (ownM_set h.own rfl hk m)⟩
  rw [Below.heap_setCell _ _ _ _ hn, Below.heap_setCell _ _ _ _ hn, Below.heap_setCell _ _ _ _ hn, Below.heap_setCell _ _ _ _ hn, Below.heap_setCell _ _ _ _ hn]
set_option maxHeartbeats 2000000 in
theorem idle_calls {w : World} {l : List Mac} {p g cap base : Nat} {vl vr vm : Value} (h : WinO w l p g cap base vl vr vm) (i : Nat) (hi : i < l.length) (R : Ending → World → Prop)
    (hF : idleR l i = none → ∀ w', Below w.heap.size w w' → R (.returned (.bool false)) w')
    (hT : ∀ l', idleR l i = some l' → ∀ w', Below base w w' → Left w' base p l' → R (.returned (.bool true)) w') :
    Calls Tryd.prog 120 #[.pointer (some ⟨p, 0, none⟩), .int .i64 (i : Int)] w R := by
  have C := h.win.cells
  have c0 := C.c0
  have lp := C.lp
  have M := ownM_at h.own rfl hi
  have m0 := M.c0
  have m1 := M.c1
  have m2 := M.c2
  have m3 := M.c3
  have m4 := M.c4
  have lg := M.lg
  have i0 : (0 : Int) ≤ (i : Int) := by omega
  have i9 : (i : Int) < (l.length : Int) := by omega
  have hbl := h.base_le
  have H := Lib.hid h
  unfold idleR at hF hT
  have Hfz := Lib.hid M.fz
  generalize atL l i = m at *
  clear C M h
  go_enter Tryd.func120, Tryd.ntmps120
  go_wp2_with fail
  refine Contains_calls _ [19, 20, 25, 26, 27, 28] _ _ (ints_blk (xs := [19, 20, 25, 26, 27, 28]) (heap_new rfl) (by simp) (by unfold maxLen; simp)) _ ?_
  obtain ⟨W1, hW1⟩ : ∃ W1, W1 = w.alloc (Obj.cells (List.map (Value.int .i64) [19, 20, 25, 26, 27, 28]).toArray 3) := ⟨_, rfl⟩
  have hb1 : Below w.heap.size w W1 := by rw [hW1]; exact bl0
  rw [← hW1]
  have d0 := (hb1.cell (p := ⟨g, i * 5, none⟩) lg).trans m0
  have d1 := (hb1.cell (p := ⟨g, i * 5 + 1, none⟩) lg).trans m1
  have d2 := (hb1.cell (p := ⟨g, i * 5 + 2, none⟩) lg).trans m2
  have d3 := (hb1.cell (p := ⟨g, i * 5 + 3, none⟩) lg).trans m3
  have d4 := (hb1.cell (p := ⟨g, i * 5 + 4, none⟩) lg).trans m4
  have f0 := (hb1.frozen (p := ⟨g, i * 5, none⟩) lg).trans (Hfz.out _)
  have f1 := (hb1.frozen (p := ⟨g, i * 5 + 1, none⟩) lg).trans (Hfz.out _)
  have f2 := (hb1.frozen (p := ⟨g, i * 5 + 2, none⟩) lg).trans (Hfz.out _)
  have f3 := (hb1.frozen (p := ⟨g, i * 5 + 3, none⟩) lg).trans (Hfz.out _)
  have f4 := (hb1.frozen (p := ⟨g, i * 5 + 4, none⟩) lg).trans (Hfz.out _)
  have lg1 := Nat.lt_of_lt_of_le lg hb1.size
  have H1 := Lib.hid (H.out.below hb1)
  have Hb1 := Lib.hid hb1
  have hs5 := H1.out.set5 hi ⟨2, m.dst, m.a, 0, 0⟩
  have Hs5 := Lib.hid hs5
  clear hb1 hW1 m0 m1 m2 m3 m4 c0 hs5
  have hnought : decide (m.op ∈ [(19 : Int), 20, 25, 26, 27, 28]) = decide (m.op = 19 ∨ m.op = 20 ∨ m.op = 25 ∨ m.op = 26 ∨ m.op = 27 ∨ m.op = 28) := by
    rw [Bool.eq_iff_iff]; simp
  rw [hnought]
  unfold idleM at hF hT
  have key : ∀ (x y : Bool), x = decide (m.op = 19 ∨ m.op = 20 ∨ m.op = 25 ∨ m.op = 26 ∨ m.op = 27 ∨ m.op = 28) → True := fun _ _ _ => trivial
  by_cases hs : m.op = 21 ∨ m.op = 22
  · have hno : decide (m.op = 19 ∨ m.op = 20 ∨ m.op = 25 ∨ m.op = 26 ∨ m.op = 27 ∨ m.op = 28) = false := by simp; omega
    rw [hno]
    simp only [if_pos hs] at hF hT
    by_cases hn : m.n = 1
    · have jn : (m.n == 1) = true := by simpa using hn
      have HT := Lib.hid (hT _ (by rw [if_pos (by simpa using hn)]))
      clear hT hF hn hno hnought key
      rcases hs with e | e
      · have j21 : (m.op == 21) = true := by simpa using e
        clear e
        go_wp2_with fail
        go_region_law (fail)
        all_goals
          go_wp2
          first | exact HT.out _ ((Hb1.out.mono hbl).trans Hs5.out.1) Hs5.out.2 | exact HT.out _ (((Hb1.out.mono hbl).trans Hs5.out.1).drew) (Hs5.out.2.below (Below.refl _ _).drew)
      · have j21 : (m.op == 21) = false := by simp; omega
        have j22 : (m.op == 22) = true := by simpa using e
        clear e
        go_wp2_with fail
        go_region_law (fail)
        all_goals
          go_wp2
          first | exact HT.out _ ((Hb1.out.mono hbl).trans Hs5.out.1) Hs5.out.2 | exact HT.out _ (((Hb1.out.mono hbl).trans Hs5.out.1).drew) (Hs5.out.2.below (Below.refl _ _).drew)
    · have jn : (m.n == 1) = false := by simpa using hn
      have HF := Lib.hid (hF (by rw [if_neg (by simpa using hn)]))
      clear hT hF hn hno hnought key
      rcases hs with e | e
      · have j21 : (m.op == 21) = true := by simpa using e
        clear e
        go_wp2
        exact HF.out _ Hb1.out
      · have j21 : (m.op == 21) = false := by simp; omega
        have j22 : (m.op == 22) = true := by simpa using e
        clear e
        go_wp2
        exact HF.out _ Hb1.out
  · simp only [if_neg hs] at hF hT
    have j21 : (m.op == 21) = false := by simp; omega
    have j22 : (m.op == 22) = false := by simp; omega
    cases hno : decide (m.op = 19 ∨ m.op = 20 ∨ m.op = 25 ∨ m.op = 26 ∨ m.op = 27 ∨ m.op = 28)
    · have HF := Lib.hid (hF (by rw [hno]; simp))
      clear hT hF hno hnought key hs
      go_wp2
      exact HF.out _ Hb1.out
    · rw [hno] at hF hT
      by_cases hn : m.n = 0
      · have jn : (m.n == 0) = true := by simpa using hn
        have HT := Lib.hid (hT _ (by rw [if_pos (by simpa using hn)]))
        clear hT hF hn hno hnought key hs
        go_wp2_with fail
        go_region_law (fail)
        all_goals
          go_wp2
          first | exact HT.out _ ((Hb1.out.mono hbl).trans Hs5.out.1) Hs5.out.2 | exact HT.out _ (((Hb1.out.mono hbl).trans Hs5.out.1).drew) (Hs5.out.2.below (Below.refl _ _).drew)
      · have jn : (m.n == 0) = false := by simpa using hn
        have HF := Lib.hid (hF (by rw [if_neg (by simpa using hn)]))
        clear hT hF hn hno hnought key hs
        go_wp2
        exact HF.out _ Hb1.out
end Go.Proofs.YtkcmijnaheapdaaDoor
