/- Package peep: what is sure. Package peep: a comparison and what asks for it. -/
import Derived.Test.YtemakpjickbmnaaDoorBase
import Derived.Test.YtemakpjickbmnaaDoorRows
import Derived.IntWalk
import Derived.Outline
import Derived.Deep.LoopGhost
import Derived.Deep.RegionLaw
import Derived.StillTailTactics
import Derived.Test.YtemakpjickbmnaaDoorPkD
import Derived.Deep.RegionHeld3
/- Package peep: what is sure. -/
namespace Go.Proofs.YtemakpjickbmnaaDoor
open Go.RowKit
set_option linter.unusedSimpArgs false
set_option linter.unusedVariables false

set_option maxRecDepth 100000 in
set_option maxHeartbeats 2000000 in
theorem sure_calls {w : World} {l : List Mac} {p g cap base : Nat} {vl vr vm : Value} (h : WinO w l p g cap base vl vr vm) (i : Nat) (hi : i < l.length) (R : Ending → World → Prop)
    (hF : sureR l i = none → ∀ w', Below w.heap.size w w' → R (.returned (.bool false)) w')
    (hT : ∀ l', sureR l i = some l' → ∀ w', Below base w w' → Left w' base p l' → R (.returned (.bool true)) w') :
    Calls Tryd.prog 103 #[.pointer (some ⟨p, 0, none⟩), .int .i64 (i : Int)] w R := by
  have C := h.win.cells
  have c0 := C.c0
  have lp := C.lp
  have M := ownM_at h.own rfl hi
  have m0 := M.c0
  have m1 := M.c1
  have m2 := M.c2
  have m3 := M.c3
  have m4 := M.c4
  have lg := M.lg
  have i0 : (0 : Int) ≤ (i : Int) := by omega
  have i9 : (i : Int) < (l.length : Int) := by omega
  have hbl := h.base_le
  have H := Lib.hid h
  unfold sureR at hF hT
  generalize atL l i = m at *
  clear C M h
  go_enter Tryd.func103, Tryd.ntmps103
  go_wp2_with fail
  have hbA : Below w.heap.size w (w.alloc (Obj.cells #[.int .i64 m.op, .int .i64 m.dst, .int .i64 m.a, .int .i64 m.b, .int .i64 m.n] 36)) := bl0
  have HbA := Lib.hid hbA
  refine beside_calls (H.out.below hbA) i hi _ (fun hbs w5 hb5 => ?_) (fun hbs w5 hb5 => ?_)
  · have p0 : w5.cell? ⟨w.heap.size, 0, none⟩ = some (.int .i64 m.op) := by rw [hb5.cell (by simp)]; simp
    have p1 : w5.cell? ⟨w.heap.size, 1, none⟩ = some (.int .i64 m.dst) := by rw [hb5.cell (by simp)]; simp
    have p2 : w5.cell? ⟨w.heap.size, 2, none⟩ = some (.int .i64 m.a) := by rw [hb5.cell (by simp)]; simp
    have p4 : w5.cell? ⟨w.heap.size, 4, none⟩ = some (.int .i64 m.n) := by rw [hb5.cell (by simp)]; simp
    have hz5 : w.heap.size < w5.heap.size := by have := hb5.size; simp at this; omega
    have Hb1 := Lib.hid (hbA.trans (hb5.mono (by simp)))
    have H5 := Lib.hid (H.out.below Hb1.out)
    have hi1 := (besB_iff.1 hbs).1
    have M := ownM_at H5.out.own rfl hi1
    have q0 := M.c0
    have q1 := M.c1
    have q4 := M.c4
    have f0 := M.fz ((i + 1) * 5)
    have f1 := M.fz ((i + 1) * 5 + 1)
    have f2 := M.fz ((i + 1) * 5 + 2)
    have f3 := M.fz ((i + 1) * 5 + 3)
    have f4 := M.fz ((i + 1) * 5 + 4)
    have q2 := M.c2
    have q3 := M.c3
    have lg5 := M.lg
    generalize atL l (i + 1) = o at *
    have hbs' := Lib.hid hbs
    clear hb5 hbA M hbs m0 m1 m2 m3 m4 c0
    by_cases e1 : m.op = 1
    · have j1 : (m.op != 1) = false := by simpa using e1
      have E1 := Lib.hid e1
      clear e1
      go_wp2_with fail
      refine asks_calls w5 g ((i + 1) * 5) o m.dst q0 q2 _ (fun w6 hb6 => ?_)
      have p4' := (hb6.cell (p := ⟨w.heap.size, 4, none⟩) hz5).trans p4
      have r0 := (hb6.cell (p := ⟨g, (i + 1) * 5, none⟩) lg5).trans q0
      have r1 := (hb6.cell (p := ⟨g, (i + 1) * 5 + 1, none⟩) lg5).trans q1
      have r2 := (hb6.cell (p := ⟨g, (i + 1) * 5 + 2, none⟩) lg5).trans q2
      have r3 := (hb6.cell (p := ⟨g, (i + 1) * 5 + 3, none⟩) lg5).trans q3
      have r4 := (hb6.cell (p := ⟨g, (i + 1) * 5 + 4, none⟩) lg5).trans q4
      have s0 := (hb6.frozen (p := ⟨g, (i + 1) * 5, none⟩) lg5).trans f0
      have s1 := (hb6.frozen (p := ⟨g, (i + 1) * 5 + 1, none⟩) lg5).trans f1
      have s2 := (hb6.frozen (p := ⟨g, (i + 1) * 5 + 2, none⟩) lg5).trans f2
      have s3 := (hb6.frozen (p := ⟨g, (i + 1) * 5 + 3, none⟩) lg5).trans f3
      have s4 := (hb6.frozen (p := ⟨g, (i + 1) * 5 + 4, none⟩) lg5).trans f4
      have lw6 := Nat.lt_of_lt_of_le hz5 hb6.size
      have lg6 := Nat.lt_of_lt_of_le lg5 hb6.size
      have H6 := Lib.hid (H5.out.below hb6)
      have Hb6 := Lib.hid (Hb1.out.trans (hb6.mono Hb1.out.size))
      clear hb6 p0 p1 p2 p4 q0 q1 q2 q3 q4 f0 f1 f2 f3 f4
      cases ha : asksM o m.dst
      · have HF := Lib.hid (hF (by rw [if_neg (fun h => by rw [ha] at h; cases h.2.2)]))
        clear hT hF ha
        go_wp2
        exact HF.out _ Hb6.out
      · rw [if_pos ⟨hbs'.out, E1.out, ha⟩] at hT
        have ex : (!(m.n == 0)) = (m.n != 0) := rfl
        by_cases hs : (decide (m.n = 0) == decide (o.op = 38)) = true
        · rw [if_pos hs] at hT
          have HT := Lib.hid (hT _ rfl)
          have jx : ((m.n != 0) == (o.op == 38)) = false := by
            have h1 : (m.n == 0) = decide (m.n = 0) := by rw [Bool.eq_iff_iff]; simp
            have h2 : (o.op == 38) = decide (o.op = 38) := by rw [Bool.eq_iff_iff]; simp
            rw [← ex, h1, h2]
            cases ha : decide (m.n = 0) <;> cases hb : decide (o.op = 38) <;> rw [ha, hb] at hs <;> revert hs <;> decide
          clear hT hF ha hs ex
          go_wp2_with fail
          go_quiet (fail)
          go_wp2_with (go_at_call 127; rw [show wrap64 ((i : Int) + 1) = ((i + 1 : Nat) : Int) from by (have := H6.out.win.ok.few; unfold wrap64; omega)]; with_reducible refine outW_calls (H6.out.below (below_drewN (Below.refl _ _) _)) (i + 1) hi1 _ (fun w1 hb1 hl1 => ?_))
          exact HT.out w1 (((below_drewN Hb6.out _).mono hbl).trans hb1) hl1
        · rw [if_neg hs] at hT
          have HT := Lib.hid (hT _ rfl)
          have jx : ((m.n != 0) == (o.op == 38)) = true := by
            have h1 : (m.n == 0) = decide (m.n = 0) := by rw [Bool.eq_iff_iff]; simp
            have h2 : (o.op == 38) = decide (o.op = 38) := by rw [Bool.eq_iff_iff]; simp
            rw [← ex, h1, h2]
            cases ha : decide (m.n = 0) <;> cases hb : decide (o.op = 38) <;> rw [ha, hb] at hs <;> revert hs <;> decide
          clear hT hF ha hs ex
          go_wp2_with fail
          go_quiet (fail)
          go_wp2
          have hs5 := (H6.out.below (below_drewN (Below.refl _ _) nq)).set5 hi1 ⟨37, 0, 0, 0, o.n⟩
          exact HT.out _ (((below_drewN Hb6.out nq).mono hbl).trans hs5.1) hs5.2
    · have j1 : (m.op != 1) = true := by simpa using e1
      have HF := Lib.hid (hF (by rw [if_neg (fun h => e1 h.2.1)]))
      clear hT hF e1
      go_wp2
      exact HF.out _ Hb1.out
  · have HF := Lib.hid (hF (by rw [if_neg (fun h => by rw [hbs] at h; cases h.1)]))
    have Hb1 := Lib.hid (hbA.trans (hb5.mono (by simp)))
    have p0 : w5.cell? ⟨w.heap.size, 0, none⟩ = some (.int .i64 m.op) := by rw [hb5.cell (by simp)]; simp
    have p4 : w5.cell? ⟨w.heap.size, 4, none⟩ = some (.int .i64 m.n) := by rw [hb5.cell (by simp)]; simp
    have hz5 : w.heap.size < w5.heap.size := by have := hb5.size; simp at this; omega
    clear hT hF hb5 hbs hbA
    go_wp2
    exact HF.out _ Hb1.out
end Go.Proofs.YtemakpjickbmnaaDoor

/- Package peep: a comparison and what asks for it. -/
namespace Go.Proofs.YtemakpjickbmnaaDoor
open Go.RowKit
set_option linter.unusedSimpArgs false
set_option linter.unusedVariables false

theorem cell_other {W : World} {b c j k : Nat} {u v : Value} (h : W.cell? ⟨b, j, none⟩ = some v) (hne : b ≠ c) : (W.setCell ⟨c, k, none⟩ u).drew.cell? ⟨b, j, none⟩ = some v :=
  (World.cell?_of_block (w := W) (w' := (W.setCell ⟨c, k, none⟩ u).drew) (a := ⟨b, j, none⟩) (Below.heap_setCell W ⟨c, k, none⟩ u b hne)).trans h
theorem cell_other2 {W : World} {b c j k : Nat} {u v : Value} (h : W.cell? ⟨b, j, none⟩ = some v) (hne : b ≠ c) : (W.setCell ⟨c, k, none⟩ u).cell? ⟨b, j, none⟩ = some v :=
  (World.cell?_of_block (Below.heap_setCell _ _ _ _ hne)).trans h
/-- An instruction is written anew, another one taken out. -/
theorem WinO.set5out {w : World} {l : List Mac} {p g cap base : Nat} {vl vr vm : Value} (h : WinO w l p g cap base vl vr vm) {k i : Nat} (hk : k < l.length) (hi : i < l.length) (m : Mac) (hm : jumpsM m = true → 0 ≤ m.n ∧ m.n ≤ 5000) (R : Ending → World → Prop)
    (hR : ∀ w', Below base w w' → Left w' base p (goneL (l.set k m) i) → R (.returned (.bool true)) w') :
    Calls Tryd.prog 127 #[.pointer (some ⟨p, 0, none⟩), .int .i64 (i : Int)] (((((w.setCell ⟨g, k * 5, none⟩ (.int .i64 m.op)).setCell ⟨g, k * 5 + 1, none⟩ (.int .i64 m.dst)).setCell ⟨g, k * 5 + 2, none⟩ (.int .i64 m.a)).setCell ⟨g, k * 5 + 3, none⟩ (.int .i64 m.b)).setCell ⟨g, k * 5 + 4, none⟩ (.int .i64 m.n)) R := by
  have hn := h.ne
  obtain ⟨h1, _⟩ := h.set5 hk m
  have ho := ownM_set h.own rfl hk m
  refine out_calls _ base p g cap l.length i (l.set k m) vl vr vm ?_ ho List.length_set h.lo hi h.win.ok.few (fun x hx hj => ?_) R (fun w' hb hl => hR w' (h1.trans hb) hl)
  · rw [Below.heap_setCell _ _ _ _ hn, Below.heap_setCell _ _ _ _ hn, Below.heap_setCell _ _ _ _ hn, Below.heap_setCell _ _ _ _ hn, Below.heap_setCell _ _ _ _ hn]
    exact h.win.hp
  · rcases List.mem_or_eq_of_mem_set hx with e | e
    · exact h.win.ok.jumps5000 x e hj
    · rw [e] at hj ⊢; exact hm hj
set_option maxRecDepth 100000 in
set_option maxHeartbeats 2000000 in
theorem fused_calls {w : World} {l : List Mac} {p g cap base : Nat} {vl vr vm : Value} (h : WinO w l p g cap base vl vr vm) (i : Nat) (hi : i < l.length) (R : Ending → World → Prop)
    (hF : fusedR l i = none → ∀ w', Below w.heap.size w w' → R (.returned (.bool false)) w')
    (hT : ∀ l', fusedR l i = some l' → ∀ w', Below base w w' → Left w' base p l' → R (.returned (.bool true)) w') :
    Calls Tryd.prog 104 #[.pointer (some ⟨p, 0, none⟩), .int .i64 (i : Int)] w R := by
  have C := h.win.cells
  have c0 := C.c0
  have lp := C.lp
  have M := ownM_at h.own rfl hi
  have m0 := M.c0
  have m1 := M.c1
  have m2 := M.c2
  have m3 := M.c3
  have m4 := M.c4
  have lg := M.lg
  have i0 : (0 : Int) ≤ (i : Int) := by omega
  have i9 : (i : Int) < (l.length : Int) := by omega
  have hbl := h.base_le
  have hm := h.win.ok.at_ hi
  have H := Lib.hid h
  unfold fusedR at hF hT
  generalize atL l i = m at *
  clear C M h
  go_enter Tryd.func104, Tryd.ntmps104
  go_wp2_with fail
  have hbA : Below w.heap.size w (w.alloc (Obj.cells #[.int .i64 m.op, .int .i64 m.dst, .int .i64 m.a, .int .i64 m.b, .int .i64 m.n] 36)) := bl0
  have HbA := Lib.hid hbA
  refine beside_calls (H.out.below hbA) i hi _ (fun hbs w5 hb5 => ?_) (fun hbs w5 hb5 => ?_)
  · have p0 : w5.cell? ⟨w.heap.size, 0, none⟩ = some (.int .i64 m.op) := by rw [hb5.cell (by simp)]; simp
    have p1 : w5.cell? ⟨w.heap.size, 1, none⟩ = some (.int .i64 m.dst) := by rw [hb5.cell (by simp)]; simp
    have p2 : w5.cell? ⟨w.heap.size, 2, none⟩ = some (.int .i64 m.a) := by rw [hb5.cell (by simp)]; simp
    have p3 : w5.cell? ⟨w.heap.size, 3, none⟩ = some (.int .i64 m.b) := by rw [hb5.cell (by simp)]; simp
    have p4 : w5.cell? ⟨w.heap.size, 4, none⟩ = some (.int .i64 m.n) := by rw [hb5.cell (by simp)]; simp
    have hz5 : w.heap.size < w5.heap.size := by have := hb5.size; simp at this; omega
    have Hb1 := Lib.hid (hbA.trans (hb5.mono (by simp)))
    have H5 := Lib.hid (H.out.below Hb1.out)
    have hi1 := (besB_iff.1 hbs).1
    have M := ownM_at H5.out.own rfl hi1
    have q0 := M.c0
    have q1 := M.c1
    have q4 := M.c4
    have f0 := M.fz ((i + 1) * 5)
    have f1 := M.fz ((i + 1) * 5 + 1)
    have f2 := M.fz ((i + 1) * 5 + 2)
    have f3 := M.fz ((i + 1) * 5 + 3)
    have f4 := M.fz ((i + 1) * 5 + 4)
    have q2 := M.c2
    have q3 := M.c3
    have lg5 := M.lg
    have ho1 := H5.out.win.ok.at_ hi1
    generalize atL l (i + 1) = o at *
    have hbs' := Lib.hid hbs
    obtain ⟨r, hr⟩ : ∃ r : Nat, m.dst = (r : Int) := ⟨m.dst.toNat, by have := hm.dst0; omega⟩
    have hr16 : r < 16 := by have := hm.dst1; omega
    have hfew := H5.out.win.ok.few
    have i3 : (0 : Int) ≤ (i : Int) + 1 := by omega
    rw [hr] at hF hT p1
    simp only [Int.toNat_natCast] at hF hT
    clear hb5 hbA M hbs m0 m1 m2 m3 m4 c0 hr hm
    by_cases e1 : 15 ≤ m.op ∧ m.op ≤ 18
    · have j1 : decide (15 ≤ m.op ∧ m.op ≤ 18) = true := decide_eq_true e1
      have E1 := Lib.hid e1
      clear e1
      go_wp2_with fail
      refine Within_calls _ _ _ _ _ ?_
      rw [j1]
      go_wp2_with fail
      refine asks_calls w5 g ((i + 1) * 5) o (r : Int) q0 q2 _ (fun w6 hb6 => ?_)
      have H6 := Lib.hid (H5.out.below hb6)
      have Hb6 := Lib.hid (Hb1.out.trans (hb6.mono Hb1.out.size))
      have Hb56 := Lib.hid hb6
      have p1' := (hb6.cell (p := ⟨w.heap.size, 1, none⟩) hz5).trans p1
      have lw6 := Nat.lt_of_lt_of_le hz5 hb6.size
      clear hb6
      cases ha : asksM o (r : Int)
      · have HF := Lib.hid (hF (by rw [if_neg (fun h => by rw [ha] at h; cases h.2.2.1)]))
        clear hT hF ha
        go_wp2
        exact HF.out _ Hb6.out
      · have hao := asks_op ha
        go_wp2_with fail
        rw [show ((i : Int) + 1) = ((i + 1 : Nat) : Int) from by omega]
        refine behind_calls H6.out.win (i + 1) r hi1 hr16 _ (fun w7 hb7 => ?_)
        have H7 := Lib.hid (H6.out.below hb7)
        have Hb7 := Lib.hid (Hb6.out.trans (hb7.mono Hb6.out.size))
        cases hbh : behB l (i + 1) r
        · rw [if_pos ⟨hbs'.out, E1.out, ha, hbh⟩] at hT
          have HT := Lib.hid (hT _ rfl)
          have hb57 := Hb56.out.trans (hb7.mono Hb56.out.size)
          have u0 := (hb57.cell (p := ⟨w.heap.size, 0, none⟩) hz5).trans p0
          have u2 := (hb57.cell (p := ⟨w.heap.size, 2, none⟩) hz5).trans p2
          have u3 := (hb57.cell (p := ⟨w.heap.size, 3, none⟩) hz5).trans p3
          have r0 := (hb57.cell (p := ⟨g, (i + 1) * 5, none⟩) lg5).trans q0
          have r1 := (hb57.cell (p := ⟨g, (i + 1) * 5 + 1, none⟩) lg5).trans q1
          have r2 := (hb57.cell (p := ⟨g, (i + 1) * 5 + 2, none⟩) lg5).trans q2
          have r3 := (hb57.cell (p := ⟨g, (i + 1) * 5 + 3, none⟩) lg5).trans q3
          have r4 := (hb57.cell (p := ⟨g, (i + 1) * 5 + 4, none⟩) lg5).trans q4
          have s0 := (hb57.frozen (p := ⟨g, (i + 1) * 5, none⟩) lg5).trans f0
          have s1 := (hb57.frozen (p := ⟨g, (i + 1) * 5 + 1, none⟩) lg5).trans f1
          have s2 := (hb57.frozen (p := ⟨g, (i + 1) * 5 + 2, none⟩) lg5).trans f2
          have s3 := (hb57.frozen (p := ⟨g, (i + 1) * 5 + 3, none⟩) lg5).trans f3
          have s4 := (hb57.frozen (p := ⟨g, (i + 1) * 5 + 4, none⟩) lg5).trans f4
          have lw7 := Nat.lt_of_lt_of_le hz5 hb57.size
          have lg7 := Nat.lt_of_lt_of_le lg5 hb57.size
          have hon := ho1.jump (by omega) (by omega)
          have hon5 : 0 ≤ o.n ∧ o.n ≤ 5000 := by omega
          have Hon5 := Lib.hid hon5
          have he1 := E1.out
          have hho := hao.1
          clear hb57 hb7 p0 p1 p2 p3 p4 q0 q1 q2 q3 q4 f0 f1 f2 f3 f4 p1' hT hF ha hbh hon5 hon ho1 hao j1
          have E := E1.out
          have hall : m.op = 15 ∨ m.op = 16 ∨ m.op = 17 ∨ m.op = 18 := by omega
          have HK7 : Hid (∀ W', Below w7.heap.size w7 W' → W'.cell? ⟨w.heap.size, 2, none⟩ = some (.int .i64 m.a) ∧ W'.cell? ⟨w.heap.size, 3, none⟩ = some (.int .i64 m.b) ∧ W'.cell? ⟨g, (i + 1) * 5, none⟩ = some (.int .i64 o.op) ∧ W'.cell? ⟨g, (i + 1) * 5 + 1, none⟩ = some (.int .i64 o.dst) ∧ W'.cell? ⟨g, (i + 1) * 5 + 2, none⟩ = some (.int .i64 o.a) ∧ W'.cell? ⟨g, (i + 1) * 5 + 3, none⟩ = some (.int .i64 o.b) ∧ W'.cell? ⟨g, (i + 1) * 5 + 4, none⟩ = some (.int .i64 o.n) ∧ W'.frozen? ⟨g, (i + 1) * 5, none⟩ = false ∧ W'.frozen? ⟨g, (i + 1) * 5 + 1, none⟩ = false ∧ W'.frozen? ⟨g, (i + 1) * 5 + 2, none⟩ = false ∧ W'.frozen? ⟨g, (i + 1) * 5 + 3, none⟩ = false ∧ W'.frozen? ⟨g, (i + 1) * 5 + 4, none⟩ = false ∧ w.heap.size < W'.heap.size ∧ g < W'.heap.size) := Lib.hid fun W' hb => ⟨(hb.cell lw7).trans u2, (hb.cell (p := ⟨w.heap.size, 3, none⟩) lw7).trans u3, (hb.cell (p := ⟨g, (i + 1) * 5, none⟩) lg7).trans r0, (hb.cell (p := ⟨g, (i + 1) * 5 + 1, none⟩) lg7).trans r1, (hb.cell (p := ⟨g, (i + 1) * 5 + 2, none⟩) lg7).trans r2, (hb.cell (p := ⟨g, (i + 1) * 5 + 3, none⟩) lg7).trans r3, (hb.cell (p := ⟨g, (i + 1) * 5 + 4, none⟩) lg7).trans r4, (hb.frozen (p := ⟨g, (i + 1) * 5, none⟩) lg7).trans s0, (hb.frozen (p := ⟨g, (i + 1) * 5 + 1, none⟩) lg7).trans s1, (hb.frozen (p := ⟨g, (i + 1) * 5 + 2, none⟩) lg7).trans s2, (hb.frozen (p := ⟨g, (i + 1) * 5 + 3, none⟩) lg7).trans s3, (hb.frozen (p := ⟨g, (i + 1) * 5 + 4, none⟩) lg7).trans s4, Nat.lt_of_lt_of_le lw7 hb.size, Nat.lt_of_lt_of_le lg7 hb.size⟩
          rcases hall with e | e | e | e
          · have hX : o.op = 38 → ifsM m o = ⟨40, 0, m.a, m.b, o.n⟩ := fun h => by unfold ifsM; rw [if_pos h, e]; rfl
            have hX2 : ¬ o.op = 38 → ifsM m o = ⟨41, 0, m.a, m.b, o.n⟩ := fun h => by unfold ifsM; rw [if_neg h, if_pos e]
            rw [e] at u0
            have hc : IntKind.i64.wrap (IntKind.i64.wrap 0 + 40) = 40 := by rfl
            clear e he1 E
            go_wp2_with fail
            go_region_held3 (fun w' => w'.cell? ⟨w.heap.size, 0, none⟩ = some (.int .i64 15) ∧ w'.cell? ⟨w.heap.size, 2, none⟩ = some (.int .i64 m.a) ∧ w'.cell? ⟨w.heap.size, 3, none⟩ = some (.int .i64 m.b) ∧ w'.cell? ⟨g, (i + 1) * 5 + 4, none⟩ = some (.int .i64 o.n)) (first | go_keep) (fail)
            all_goals
              (try rw [hc])
              clear hc
              obtain ⟨W8, hW8⟩ : ∃ W8, W8 = (w7.alloc (Obj.cells #[.int .i64 40, .int .i64 0, .int .i64 m.a, .int .i64 m.b, .int .i64 o.n] 36)).drew := ⟨_, rfl⟩
              rw [← hW8]
              have hxh : W8.heap[w7.heap.size]? = some (.cells #[.int .i64 40, .int .i64 0, .int .i64 m.a, .int .i64 m.b, .int .i64 o.n] 36 (0, 0)) := by rw [hW8]; exact blk_drew (heap_alloc_new _ _)
              have hb8 : Below w7.heap.size w7 W8 := by rw [hW8]; exact bl0
              have v0 : W8.cell? ⟨w7.heap.size, 0, none⟩ = some (.int .i64 40) := by rw [blk_cell' hxh]; rfl
              have v1 : W8.cell? ⟨w7.heap.size, 1, none⟩ = some (.int .i64 0) := by rw [blk_cell' hxh]; rfl
              have v2 : W8.cell? ⟨w7.heap.size, 2, none⟩ = some (.int .i64 m.a) := by rw [blk_cell' hxh]; rfl
              have v3 : W8.cell? ⟨w7.heap.size, 3, none⟩ = some (.int .i64 m.b) := by rw [blk_cell' hxh]; rfl
              have v4 : W8.cell? ⟨w7.heap.size, 4, none⟩ = some (.int .i64 o.n) := by rw [blk_cell' hxh]; rfl
              have x0 : W8.frozen? ⟨w7.heap.size, 0, none⟩ = false := by simp [World.frozen?, hxh]
              have x2 : W8.frozen? ⟨w7.heap.size, 2, none⟩ = false := by simp [World.frozen?, hxh]
              have x3 : W8.frozen? ⟨w7.heap.size, 3, none⟩ = false := by simp [World.frozen?, hxh]
              have lx := blk_lt hxh
              obtain ⟨u2', u3', r0', r1', r2', r3', r4', s0', s1', s2', s3', s4', lw8, lg8⟩ := HK7.out W8 hb8
              have u0' := (hb8.cell (p := ⟨w.heap.size, 0, none⟩) lw7).trans u0
              have Hb8 := Lib.hid hb8
              have Hxh := Lib.hid hxh
              clear hb8 hW8 hxh u0 u2 u3 r0 r1 r2 r3 r4 s0 s1 s2 s3 s4
              by_cases h38 : o.op = 38
              · have j39 : (o.op == 39) = false := by simp; omega
                rw [hX h38] at HT
                clear hX hX2 h38 hho
                go_wp2_with fail
                with_reducible refine WinO.set5out (H7.out.below Hb8.out) hi1 hi ⟨40, 0, m.a, m.b, o.n⟩ (fun _ => Hon5.out) _ (fun w9 hb9 hl9 => ?_)
                have Hf := Lib.hid (HT.out w9 (((Hb7.out.trans (Hb8.out.mono Hb7.out.size)).mono hbl).trans hb9) hl9)
                clear hb9 hl9
                go_wp2
                exact Hf.out
              · have j39 : (o.op == 39) = true := by simp; omega
                rw [hX2 h38] at HT
                clear hX hX2 h38 hho
                have hb9 : Below w7.heap.size w7 (W8.setCell ⟨w7.heap.size, 0, none⟩ (.int .i64 41)) := Hb8.out.setCell (p := ⟨w7.heap.size, 0, none⟩) (Nat.le_refl _) _
                have Hb9 := Lib.hid hb9
                clear hb9
                go_wp2_with fail
                with_reducible refine WinO.set5out (H7.out.below Hb9.out) hi1 hi ⟨41, 0, m.a, m.b, o.n⟩ (fun _ => Hon5.out) _ (fun w9 hb9 hl9 => ?_)
                have Hf := Lib.hid (HT.out w9 (((Hb7.out.trans (Hb9.out.mono Hb7.out.size)).mono hbl).trans hb9) hl9)
                clear hb9 hl9
                go_wp2
                exact Hf.out
          · have hX : o.op = 38 → ifsM m o = ⟨41, 0, m.a, m.b, o.n⟩ := fun h => by unfold ifsM; rw [if_pos h, e]; rfl
            have hX2 : ¬ o.op = 38 → ifsM m o = ⟨40, 0, m.a, m.b, o.n⟩ := fun h => by unfold ifsM; rw [if_neg h, if_neg (by omega), if_pos e]
            rw [e] at u0
            have hc : IntKind.i64.wrap (IntKind.i64.wrap 1 + 40) = 41 := by rfl
            clear e he1 E
            go_wp2_with fail
            go_region_held3 (fun w' => w'.cell? ⟨w.heap.size, 0, none⟩ = some (.int .i64 16) ∧ w'.cell? ⟨w.heap.size, 2, none⟩ = some (.int .i64 m.a) ∧ w'.cell? ⟨w.heap.size, 3, none⟩ = some (.int .i64 m.b) ∧ w'.cell? ⟨g, (i + 1) * 5 + 4, none⟩ = some (.int .i64 o.n)) (first | go_keep) (fail)
            all_goals
              (try rw [hc])
              clear hc
              obtain ⟨W8, hW8⟩ : ∃ W8, W8 = (w7.alloc (Obj.cells #[.int .i64 41, .int .i64 0, .int .i64 m.a, .int .i64 m.b, .int .i64 o.n] 36)).drew := ⟨_, rfl⟩
              rw [← hW8]
              have hxh : W8.heap[w7.heap.size]? = some (.cells #[.int .i64 41, .int .i64 0, .int .i64 m.a, .int .i64 m.b, .int .i64 o.n] 36 (0, 0)) := by rw [hW8]; exact blk_drew (heap_alloc_new _ _)
              have hb8 : Below w7.heap.size w7 W8 := by rw [hW8]; exact bl0
              have v0 : W8.cell? ⟨w7.heap.size, 0, none⟩ = some (.int .i64 41) := by rw [blk_cell' hxh]; rfl
              have v1 : W8.cell? ⟨w7.heap.size, 1, none⟩ = some (.int .i64 0) := by rw [blk_cell' hxh]; rfl
              have v2 : W8.cell? ⟨w7.heap.size, 2, none⟩ = some (.int .i64 m.a) := by rw [blk_cell' hxh]; rfl
              have v3 : W8.cell? ⟨w7.heap.size, 3, none⟩ = some (.int .i64 m.b) := by rw [blk_cell' hxh]; rfl
              have v4 : W8.cell? ⟨w7.heap.size, 4, none⟩ = some (.int .i64 o.n) := by rw [blk_cell' hxh]; rfl
              have x0 : W8.frozen? ⟨w7.heap.size, 0, none⟩ = false := by simp [World.frozen?, hxh]
              have x2 : W8.frozen? ⟨w7.heap.size, 2, none⟩ = false := by simp [World.frozen?, hxh]
              have x3 : W8.frozen? ⟨w7.heap.size, 3, none⟩ = false := by simp [World.frozen?, hxh]
              have lx := blk_lt hxh
              obtain ⟨u2', u3', r0', r1', r2', r3', r4', s0', s1', s2', s3', s4', lw8, lg8⟩ := HK7.out W8 hb8
              have u0' := (hb8.cell (p := ⟨w.heap.size, 0, none⟩) lw7).trans u0
              have Hb8 := Lib.hid hb8
              have Hxh := Lib.hid hxh
              clear hb8 hW8 hxh u0 u2 u3 r0 r1 r2 r3 r4 s0 s1 s2 s3 s4
              by_cases h38 : o.op = 38
              · have j39 : (o.op == 39) = false := by simp; omega
                rw [hX h38] at HT
                clear hX hX2 h38 hho
                go_wp2_with fail
                with_reducible refine WinO.set5out (H7.out.below Hb8.out) hi1 hi ⟨41, 0, m.a, m.b, o.n⟩ (fun _ => Hon5.out) _ (fun w9 hb9 hl9 => ?_)
                have Hf := Lib.hid (HT.out w9 (((Hb7.out.trans (Hb8.out.mono Hb7.out.size)).mono hbl).trans hb9) hl9)
                clear hb9 hl9
                go_wp2
                exact Hf.out
              · have j39 : (o.op == 39) = true := by simp; omega
                rw [hX2 h38] at HT
                clear hX hX2 h38 hho
                have hb9 : Below w7.heap.size w7 (W8.setCell ⟨w7.heap.size, 0, none⟩ (.int .i64 40)) := Hb8.out.setCell (p := ⟨w7.heap.size, 0, none⟩) (Nat.le_refl _) _
                have Hb9 := Lib.hid hb9
                clear hb9
                go_wp2_with fail
                with_reducible refine WinO.set5out (H7.out.below Hb9.out) hi1 hi ⟨40, 0, m.a, m.b, o.n⟩ (fun _ => Hon5.out) _ (fun w9 hb9 hl9 => ?_)
                have Hf := Lib.hid (HT.out w9 (((Hb7.out.trans (Hb9.out.mono Hb7.out.size)).mono hbl).trans hb9) hl9)
                clear hb9 hl9
                go_wp2
                exact Hf.out
          · have hX : o.op = 38 → ifsM m o = ⟨42, 0, m.a, m.b, o.n⟩ := fun h => by unfold ifsM; rw [if_pos h, e]; rfl
            have hX2 : ¬ o.op = 38 → ifsM m o = ⟨43, 0, m.b, m.a, o.n⟩ := fun h => by unfold ifsM; rw [if_neg h, if_neg (by omega), if_neg (by omega), if_pos e]
            rw [e] at u0
            have hc : IntKind.i64.wrap (IntKind.i64.wrap 2 + 40) = 42 := by rfl
            clear e he1 E
            go_wp2_with fail
            go_region_held3 (fun w' => w'.cell? ⟨w.heap.size, 0, none⟩ = some (.int .i64 17) ∧ w'.cell? ⟨w.heap.size, 2, none⟩ = some (.int .i64 m.a) ∧ w'.cell? ⟨w.heap.size, 3, none⟩ = some (.int .i64 m.b) ∧ w'.cell? ⟨g, (i + 1) * 5 + 4, none⟩ = some (.int .i64 o.n)) (first | go_keep) (fail)
            all_goals
              (try rw [hc])
              clear hc
              obtain ⟨W8, hW8⟩ : ∃ W8, W8 = (w7.alloc (Obj.cells #[.int .i64 42, .int .i64 0, .int .i64 m.a, .int .i64 m.b, .int .i64 o.n] 36)).drew := ⟨_, rfl⟩
              rw [← hW8]
              have hxh : W8.heap[w7.heap.size]? = some (.cells #[.int .i64 42, .int .i64 0, .int .i64 m.a, .int .i64 m.b, .int .i64 o.n] 36 (0, 0)) := by rw [hW8]; exact blk_drew (heap_alloc_new _ _)
              have hb8 : Below w7.heap.size w7 W8 := by rw [hW8]; exact bl0
              have v0 : W8.cell? ⟨w7.heap.size, 0, none⟩ = some (.int .i64 42) := by rw [blk_cell' hxh]; rfl
              have v1 : W8.cell? ⟨w7.heap.size, 1, none⟩ = some (.int .i64 0) := by rw [blk_cell' hxh]; rfl
              have v2 : W8.cell? ⟨w7.heap.size, 2, none⟩ = some (.int .i64 m.a) := by rw [blk_cell' hxh]; rfl
              have v3 : W8.cell? ⟨w7.heap.size, 3, none⟩ = some (.int .i64 m.b) := by rw [blk_cell' hxh]; rfl
              have v4 : W8.cell? ⟨w7.heap.size, 4, none⟩ = some (.int .i64 o.n) := by rw [blk_cell' hxh]; rfl
              have x0 : W8.frozen? ⟨w7.heap.size, 0, none⟩ = false := by simp [World.frozen?, hxh]
              have x2 : W8.frozen? ⟨w7.heap.size, 2, none⟩ = false := by simp [World.frozen?, hxh]
              have x3 : W8.frozen? ⟨w7.heap.size, 3, none⟩ = false := by simp [World.frozen?, hxh]
              have lx := blk_lt hxh
              obtain ⟨u2', u3', r0', r1', r2', r3', r4', s0', s1', s2', s3', s4', lw8, lg8⟩ := HK7.out W8 hb8
              have u0' := (hb8.cell (p := ⟨w.heap.size, 0, none⟩) lw7).trans u0
              have Hb8 := Lib.hid hb8
              have Hxh := Lib.hid hxh
              clear hb8 hW8 hxh u0 u2 u3 r0 r1 r2 r3 r4 s0 s1 s2 s3 s4
              by_cases h38 : o.op = 38
              · have j39 : (o.op == 39) = false := by simp; omega
                rw [hX h38] at HT
                clear hX hX2 h38 hho
                go_wp2_with fail
                with_reducible refine WinO.set5out (H7.out.below Hb8.out) hi1 hi ⟨42, 0, m.a, m.b, o.n⟩ (fun _ => Hon5.out) _ (fun w9 hb9 hl9 => ?_)
                have Hf := Lib.hid (HT.out w9 (((Hb7.out.trans (Hb8.out.mono Hb7.out.size)).mono hbl).trans hb9) hl9)
                clear hb9 hl9
                go_wp2
                exact Hf.out
              · have j39 : (o.op == 39) = true := by simp; omega
                rw [hX2 h38] at HT
                clear hX hX2 h38 hho
                have HK : Hid (∀ W', Below w7.heap.size w7 W' → W'.cell? ⟨w.heap.size, 2, none⟩ = some (.int .i64 m.a) ∧ W'.cell? ⟨w.heap.size, 3, none⟩ = some (.int .i64 m.b)) := Lib.hid fun W' hb => ⟨(HK7.out W' hb).1, (HK7.out W' hb).2.1⟩
                go_wp2_with fail
                go_region_held3 (fun w' => w'.cell? ⟨w.heap.size, 2, none⟩ = some (.int .i64 m.a) ∧ w'.cell? ⟨w.heap.size, 3, none⟩ = some (.int .i64 m.b)) (first | exact HK.out _ (by (have hb8 := Hb8.out); exact bl0) | go_keep) (fail)
                all_goals
                  obtain ⟨W9, hW9⟩ : ∃ W9, W9 = (((W8.setCell ⟨w7.heap.size, 0, none⟩ (.int .i64 43)).setCell ⟨w7.heap.size, 2, none⟩ (.int .i64 m.b)).setCell ⟨w7.heap.size, 3, none⟩ (.int .i64 m.a)).drew := ⟨_, rfl⟩
                  rw [← hW9]
                  have hb9 : Below w7.heap.size w7 W9 := by rw [hW9]; exact (((Hb8.out.setCell (p := ⟨w7.heap.size, 0, none⟩) (Nat.le_refl _) _).setCell (p := ⟨w7.heap.size, 2, none⟩) (Nat.le_refl _) _).setCell (p := ⟨w7.heap.size, 3, none⟩) (Nat.le_refl _) _).drew
                  have hxh : W9.heap[w7.heap.size]? = some (.cells #[.int .i64 43, .int .i64 0, .int .i64 m.b, .int .i64 m.a, .int .i64 o.n] 36 (0, 0)) := by
                    rw [hW9]
                    exact blk_drew (block_set (block_set (block_set Hxh.out _) _) _)
                  clear v0 v1 v2 v3 v4 x0 x2 x3 lx u0' u2' u3' r0' r1' r2' r3' r4' s0' s1' s2' s3' s4' lw8 lg8
                  have v0 : W9.cell? ⟨w7.heap.size, 0, none⟩ = some (.int .i64 43) := by rw [blk_cell' hxh]; rfl
                  have v1 : W9.cell? ⟨w7.heap.size, 1, none⟩ = some (.int .i64 0) := by rw [blk_cell' hxh]; rfl
                  have v2 : W9.cell? ⟨w7.heap.size, 2, none⟩ = some (.int .i64 m.b) := by rw [blk_cell' hxh]; rfl
                  have v3 : W9.cell? ⟨w7.heap.size, 3, none⟩ = some (.int .i64 m.a) := by rw [blk_cell' hxh]; rfl
                  have v4 : W9.cell? ⟨w7.heap.size, 4, none⟩ = some (.int .i64 o.n) := by rw [blk_cell' hxh]; rfl
                  have x0 : W9.frozen? ⟨w7.heap.size, 0, none⟩ = false := by simp [World.frozen?, hxh]
                  have x2 : W9.frozen? ⟨w7.heap.size, 2, none⟩ = false := by simp [World.frozen?, hxh]
                  have x3 : W9.frozen? ⟨w7.heap.size, 3, none⟩ = false := by simp [World.frozen?, hxh]
                  have lx := blk_lt hxh
                  obtain ⟨u2', u3', r0', r1', r2', r3', r4', s0', s1', s2', s3', s4', lw8, lg8⟩ := HK7.out W9 hb9
                  have Hb9 := Lib.hid hb9
                  clear hb9 hW9 hxh x0 x2 x3 u2' u3'
                  go_wp2_with fail
                  with_reducible refine WinO.set5out (H7.out.below Hb9.out) hi1 hi ⟨43, 0, m.b, m.a, o.n⟩ (fun _ => Hon5.out) _ (fun w9 hb9 hl9 => ?_)
                  have Hf := Lib.hid (HT.out w9 (((Hb7.out.trans (Hb9.out.mono Hb7.out.size)).mono hbl).trans hb9) hl9)
                  clear hb9 hl9
                  go_wp2
                  exact Hf.out
          · have hX : o.op = 38 → ifsM m o = ⟨43, 0, m.a, m.b, o.n⟩ := fun h => by unfold ifsM; rw [if_pos h, e]; rfl
            have hX2 : ¬ o.op = 38 → ifsM m o = ⟨42, 0, m.b, m.a, o.n⟩ := fun h => by unfold ifsM; rw [if_neg h, if_neg (by omega), if_neg (by omega), if_neg (by omega)]
            rw [e] at u0
            have hc : IntKind.i64.wrap (IntKind.i64.wrap 3 + 40) = 43 := by rfl
            clear e he1 E
            go_wp2_with fail
            go_region_held3 (fun w' => w'.cell? ⟨w.heap.size, 0, none⟩ = some (.int .i64 18) ∧ w'.cell? ⟨w.heap.size, 2, none⟩ = some (.int .i64 m.a) ∧ w'.cell? ⟨w.heap.size, 3, none⟩ = some (.int .i64 m.b) ∧ w'.cell? ⟨g, (i + 1) * 5 + 4, none⟩ = some (.int .i64 o.n)) (first | go_keep) (fail)
            all_goals
              (try rw [hc])
              clear hc
              obtain ⟨W8, hW8⟩ : ∃ W8, W8 = (w7.alloc (Obj.cells #[.int .i64 43, .int .i64 0, .int .i64 m.a, .int .i64 m.b, .int .i64 o.n] 36)).drew := ⟨_, rfl⟩
              rw [← hW8]
              have hxh : W8.heap[w7.heap.size]? = some (.cells #[.int .i64 43, .int .i64 0, .int .i64 m.a, .int .i64 m.b, .int .i64 o.n] 36 (0, 0)) := by rw [hW8]; exact blk_drew (heap_alloc_new _ _)
              have hb8 : Below w7.heap.size w7 W8 := by rw [hW8]; exact bl0
              have v0 : W8.cell? ⟨w7.heap.size, 0, none⟩ = some (.int .i64 43) := by rw [blk_cell' hxh]; rfl
              have v1 : W8.cell? ⟨w7.heap.size, 1, none⟩ = some (.int .i64 0) := by rw [blk_cell' hxh]; rfl
              have v2 : W8.cell? ⟨w7.heap.size, 2, none⟩ = some (.int .i64 m.a) := by rw [blk_cell' hxh]; rfl
              have v3 : W8.cell? ⟨w7.heap.size, 3, none⟩ = some (.int .i64 m.b) := by rw [blk_cell' hxh]; rfl
              have v4 : W8.cell? ⟨w7.heap.size, 4, none⟩ = some (.int .i64 o.n) := by rw [blk_cell' hxh]; rfl
              have x0 : W8.frozen? ⟨w7.heap.size, 0, none⟩ = false := by simp [World.frozen?, hxh]
              have x2 : W8.frozen? ⟨w7.heap.size, 2, none⟩ = false := by simp [World.frozen?, hxh]
              have x3 : W8.frozen? ⟨w7.heap.size, 3, none⟩ = false := by simp [World.frozen?, hxh]
              have lx := blk_lt hxh
              obtain ⟨u2', u3', r0', r1', r2', r3', r4', s0', s1', s2', s3', s4', lw8, lg8⟩ := HK7.out W8 hb8
              have u0' := (hb8.cell (p := ⟨w.heap.size, 0, none⟩) lw7).trans u0
              have Hb8 := Lib.hid hb8
              have Hxh := Lib.hid hxh
              clear hb8 hW8 hxh u0 u2 u3 r0 r1 r2 r3 r4 s0 s1 s2 s3 s4
              by_cases h38 : o.op = 38
              · have j39 : (o.op == 39) = false := by simp; omega
                rw [hX h38] at HT
                clear hX hX2 h38 hho
                go_wp2_with fail
                with_reducible refine WinO.set5out (H7.out.below Hb8.out) hi1 hi ⟨43, 0, m.a, m.b, o.n⟩ (fun _ => Hon5.out) _ (fun w9 hb9 hl9 => ?_)
                have Hf := Lib.hid (HT.out w9 (((Hb7.out.trans (Hb8.out.mono Hb7.out.size)).mono hbl).trans hb9) hl9)
                clear hb9 hl9
                go_wp2
                exact Hf.out
              · have j39 : (o.op == 39) = true := by simp; omega
                rw [hX2 h38] at HT
                clear hX hX2 h38 hho
                have HK : Hid (∀ W', Below w7.heap.size w7 W' → W'.cell? ⟨w.heap.size, 2, none⟩ = some (.int .i64 m.a) ∧ W'.cell? ⟨w.heap.size, 3, none⟩ = some (.int .i64 m.b)) := Lib.hid fun W' hb => ⟨(HK7.out W' hb).1, (HK7.out W' hb).2.1⟩
                go_wp2_with fail
                go_region_held3 (fun w' => w'.cell? ⟨w.heap.size, 2, none⟩ = some (.int .i64 m.a) ∧ w'.cell? ⟨w.heap.size, 3, none⟩ = some (.int .i64 m.b)) (first | exact HK.out _ (by (have hb8 := Hb8.out); exact bl0) | go_keep) (fail)
                all_goals
                  obtain ⟨W9, hW9⟩ : ∃ W9, W9 = (((W8.setCell ⟨w7.heap.size, 0, none⟩ (.int .i64 42)).setCell ⟨w7.heap.size, 2, none⟩ (.int .i64 m.b)).setCell ⟨w7.heap.size, 3, none⟩ (.int .i64 m.a)).drew := ⟨_, rfl⟩
                  rw [← hW9]
                  have hb9 : Below w7.heap.size w7 W9 := by rw [hW9]; exact (((Hb8.out.setCell (p := ⟨w7.heap.size, 0, none⟩) (Nat.le_refl _) _).setCell (p := ⟨w7.heap.size, 2, none⟩) (Nat.le_refl _) _).setCell (p := ⟨w7.heap.size, 3, none⟩) (Nat.le_refl _) _).drew
                  have hxh : W9.heap[w7.heap.size]? = some (.cells #[.int .i64 42, .int .i64 0, .int .i64 m.b, .int .i64 m.a, .int .i64 o.n] 36 (0, 0)) := by
                    rw [hW9]
                    exact blk_drew (block_set (block_set (block_set Hxh.out _) _) _)
                  clear v0 v1 v2 v3 v4 x0 x2 x3 lx u0' u2' u3' r0' r1' r2' r3' r4' s0' s1' s2' s3' s4' lw8 lg8
                  have v0 : W9.cell? ⟨w7.heap.size, 0, none⟩ = some (.int .i64 42) := by rw [blk_cell' hxh]; rfl
                  have v1 : W9.cell? ⟨w7.heap.size, 1, none⟩ = some (.int .i64 0) := by rw [blk_cell' hxh]; rfl
                  have v2 : W9.cell? ⟨w7.heap.size, 2, none⟩ = some (.int .i64 m.b) := by rw [blk_cell' hxh]; rfl
                  have v3 : W9.cell? ⟨w7.heap.size, 3, none⟩ = some (.int .i64 m.a) := by rw [blk_cell' hxh]; rfl
                  have v4 : W9.cell? ⟨w7.heap.size, 4, none⟩ = some (.int .i64 o.n) := by rw [blk_cell' hxh]; rfl
                  have x0 : W9.frozen? ⟨w7.heap.size, 0, none⟩ = false := by simp [World.frozen?, hxh]
                  have x2 : W9.frozen? ⟨w7.heap.size, 2, none⟩ = false := by simp [World.frozen?, hxh]
                  have x3 : W9.frozen? ⟨w7.heap.size, 3, none⟩ = false := by simp [World.frozen?, hxh]
                  have lx := blk_lt hxh
                  obtain ⟨u2', u3', r0', r1', r2', r3', r4', s0', s1', s2', s3', s4', lw8, lg8⟩ := HK7.out W9 hb9
                  have Hb9 := Lib.hid hb9
                  clear hb9 hW9 hxh x0 x2 x3 u2' u3'
                  go_wp2_with fail
                  with_reducible refine WinO.set5out (H7.out.below Hb9.out) hi1 hi ⟨42, 0, m.b, m.a, o.n⟩ (fun _ => Hon5.out) _ (fun w9 hb9 hl9 => ?_)
                  have Hf := Lib.hid (HT.out w9 (((Hb7.out.trans (Hb9.out.mono Hb7.out.size)).mono hbl).trans hb9) hl9)
                  clear hb9 hl9
                  go_wp2
                  exact Hf.out
        · have HF := Lib.hid (hF (by rw [if_neg (fun h => by rw [hbh] at h; cases h.2.2.2)]))
          clear hT hF ha hbh hb7
          go_wp2
          exact HF.out _ Hb7.out
    · have j1 : decide (15 ≤ m.op ∧ m.op ≤ 18) = false := decide_eq_false e1
      have HF := Lib.hid (hF (by rw [if_neg (fun h => e1 h.2.1)]))
      clear hT hF e1
      go_wp2_with fail
      refine Within_calls _ _ _ _ _ ?_
      rw [j1]
      go_wp2
      exact HF.out _ Hb1.out
  · have HF := Lib.hid (hF (by rw [if_neg (fun h => by rw [hbs] at h; cases h.1)]))
    have Hb1 := Lib.hid (hbA.trans (hb5.mono (by simp)))
    have p0 : w5.cell? ⟨w.heap.size, 0, none⟩ = some (.int .i64 m.op) := by rw [hb5.cell (by simp)]; simp
    have p4 : w5.cell? ⟨w.heap.size, 4, none⟩ = some (.int .i64 m.n) := by rw [hb5.cell (by simp)]; simp
    have hz5 : w.heap.size < w5.heap.size := by have := hb5.size; simp at this; omega
    clear hT hF hb5 hbs hbA
    go_wp2
    exact HF.out _ Hb1.out
end Go.Proofs.YtemakpjickbmnaaDoor
