/- Package peep: what stands beside; the rules of an instruction alone. -/
import Derived.Test.YtkcmijnaheapdaaDoorBase
import Derived.Test.YtkcmijnaheapdaaDoorRows
import Derived.IntWalk
import Derived.Outline
import Derived.Deep.LoopGhost
import Derived.Deep.RegionLaw
import Derived.Test.YtkcmijnaheapdaaDoorPk7
namespace Go.Proofs.YtkcmijnaheapdaaDoor
open Go.RowKit
set_option linter.unusedSimpArgs false
set_option linter.unusedVariables false

/-- A window on a row of the call's own. -/
structure WinO (w : World) (l : List Mac) (p g cap base : Nat) (vl vr vm : Value) : Prop where
  win : Win w l p (.slice (some ⟨g, 0, none⟩) l.length cap) vl vr vm
  own : w.ownsRow base 44 5 (.slice (some ⟨g, 0, none⟩) l.length cap) l.length (l.flatMap Mac.cells)
  lo : base ≤ p
theorem WinO.below {w w' : World} {l : List Mac} {p g cap base : Nat} {vl vr vm : Value} (h : WinO w l p g cap base vl vr vm) (hb : Below w.heap.size w w') : WinO w' l p g cap base vl vr vm :=
  ⟨h.win.below hb, own_below h.own hb, h.lo⟩
theorem WinO.base_le {w : World} {l : List Mac} {p g cap base : Nat} {vl vr vm : Value} (h : WinO w l p g cap base vl vr vm) : base ≤ w.heap.size := Nat.le_trans h.lo (Nat.le_of_lt h.win.cells.lp)
theorem MacsOk.jumps5000 {l : List Mac} (h : MacsOk l) : ∀ m ∈ l, jumpsM m = true → 0 ≤ m.n ∧ m.n ≤ 5000 := fun m hm hj => by
  have h1 := jumps_op.1 hj
  have := (macF_ok (h.fine m hm)).jump h1.1 h1.2
  have := h.few
  omega
/-- An instruction of the window is taken out. -/
theorem outW_calls {w : World} {l : List Mac} {p g cap base : Nat} {vl vr vm : Value} (h : WinO w l p g cap base vl vr vm) (i : Nat) (hi : i < l.length) (R : Ending → World → Prop) (hR : ∀ w', Below base w w' → Left w' base p (goneL l i) → R (.returned (.bool true)) w') :
    Calls Tryd.prog 145 #[.pointer (some ⟨p, 0, none⟩), .int .i64 (i : Int)] w R :=
  out_calls w base p g cap l.length i l vl vr vm h.win.hp h.own rfl h.lo hi h.win.ok.few h.win.ok.jumps5000 R hR
theorem markL_at {l : List Mac} {k : Nat} (h : k < l.length) : atB (markL l) k = markB l k := atB_map h
theorem reachW_at {l : List Mac} {k : Nat} (h : k < l.length) : atB (reachW l) k = reachB l k := atB_map h
set_option maxHeartbeats 1000000 in
theorem beside_calls {w : World} {l : List Mac} {p g cap base : Nat} {vl vr vm : Value} (h : WinO w l p g cap base vl vr vm) (i : Nat) (hi : i < l.length) (R : Ending → World → Prop)
    (hT : besB l i = true → ∀ w', Below w.heap.size w w' → R (.returned (.tuple #[.pointer (some ⟨g, (i + 1) * 5, none⟩), .bool true])) w')
    (hF : besB l i = false → ∀ w', Below w.heap.size w w' → R (.returned (.tuple #[.pointer none, .bool false])) w') :
    Calls Tryd.prog 149 #[.pointer (some ⟨p, 0, none⟩), .int .i64 (i : Int)] w R := by
  have C := h.win.cells
  have c0 := C.c0
  have c3 := C.c3
  have lp := C.lp
  have M := ownM_at h.own rfl hi
  have m0 := M.c0
  have lg := M.lg
  have hfew := h.win.ok.few
  obtain ⟨A3, k3, rfl, hmx, hcap, hs⟩ := h.win.mark.cases_
  have hml : (markL l).length = l.length := by simp [markL]
  rw [hml] at c3 hcap hs
  have i0 : (0 : Int) ≤ (i : Int) := by omega
  have i9 : (i : Int) < (l.length : Int) := by omega
  have hcapc : l.length ≤ cap := by
    rcases h.own.2 with ⟨e, _⟩ | ⟨_, _, _, e, _, _, h1, _⟩
    · simp at e
    · injection e with _ _ e; omega
  unfold besB at hT hF
  generalize hop : (atL l i).op = op at *
  by_cases h1 : i + 1 < l.length
  · obtain ⟨b, off, rfl, hb, q⟩ := hs.bool_at (k := i + 1) (by rw [hml]; exact h1)
    rw [markL_at h1] at q
    have i1 : (i : Int) + 1 < (l.length : Int) := by omega
    have i2 : ¬ (l.length : Int) ≤ (i : Int) + 1 := by omega
    have i3 : (0 : Int) ≤ (i : Int) + 1 := by omega
    have i4 : ((i : Int) + 1).toNat = i + 1 := by omega
    have i5 : decide (l.length ≤ i + 1) = false := by simp; omega
    cases hk : markB l (i + 1)
    · rw [hk] at q
      by_cases e37 : op = 37
      · have j37 : (op == 37) = true := by simpa using e37
        have HF := Lib.hid (hF (by simp [e37]))
        clear hT hF hop C M hs e37 h
        go_enter Tryd.func149, Tryd.ntmps149
        go_wp2
        exact HF.out _ bl0
      · have j37 : (op == 37) = false := by simpa using e37
        by_cases e45 : op = 45
        · have j45 : (op == 45) = true := by simpa using e45
          have HF := Lib.hid (hF (by simp [e45]))
          clear hT hF hop C M hs e37 e45 h
          go_enter Tryd.func149, Tryd.ntmps149
          go_wp2
          exact HF.out _ bl0
        · have j45 : (op == 45) = false := by simpa using e45
          have HT := Lib.hid (hT (by simp [e37, e45, hk, h1]))
          clear hT hF hop C M hs e37 e45 h
          go_enter Tryd.func149, Tryd.ntmps149
          go_wp2
          exact HT.out _ bl0
    · rw [hk] at q
      have HF := Lib.hid (hF (by simp [hk]))
      clear hT hF hop C M hs h
      go_enter Tryd.func149, Tryd.ntmps149
      go_wp2
      exact HF.out _ bl0
  · have i1 : (l.length : Int) ≤ (i : Int) + 1 := by omega
    have i5 : decide (l.length ≤ i + 1) = true := by simp; omega
    have HF := Lib.hid (hF (by simp [h1]))
    clear hT hF hop C M hs h
    go_enter Tryd.func149, Tryd.ntmps149
    go_wp2
    exact HF.out _ bl0
set_option maxHeartbeats 400000 in
theorem asks_calls (w : World) (b off : Nat) (m : Mac) (r : Int) (hc0 : w.cell? ⟨b, off, none⟩ = some (.int .i64 m.op)) (hc2 : w.cell? ⟨b, off + 2, none⟩ = some (.int .i64 m.a)) (R : Ending → World → Prop) (hR : ∀ w', Below w.heap.size w w' → R (.returned (.bool (asksM m r))) w') :
    Calls Tryd.prog 150 #[.pointer (some ⟨b, off, none⟩), .int .i64 r] w R := by
  have hl := World.block_lt_of_cell? w _ hc0
  unfold asksM at hR
  have e2 : decide (m.a = r) = (m.a == r) := by rw [Bool.eq_iff_iff]; simp
  rw [e2] at hR
  by_cases e38 : m.op = 38
  · have j38 : (m.op == 38) = true := by simpa using e38
    rw [decide_eq_true (.inl e38), Bool.true_and] at hR
    have HR := Lib.hid hR
    clear hR e38 e2
    go_enter Tryd.func150, Tryd.ntmps150
    go_wp2
    exact HR.out _ bl0
  · have j38 : (m.op == 38) = false := by simpa using e38
    by_cases e39 : m.op = 39
    · have j39 : (m.op == 39) = true := by simpa using e39
      rw [decide_eq_true (.inr e39), Bool.true_and] at hR
      have HR := Lib.hid hR
      clear hR e38 e39 e2
      go_enter Tryd.func150, Tryd.ntmps150
      go_wp2
      exact HR.out _ bl0
    · have j39 : (m.op == 39) = false := by simpa using e39
      rw [decide_eq_false (fun h => h.elim e38 e39), Bool.false_and] at hR
      have HR := Lib.hid hR
      clear hR e38 e39 e2
      go_enter Tryd.func150, Tryd.ntmps150
      go_wp2
      exact HR.out _ bl0
set_option maxHeartbeats 1000000 in
theorem lost_calls {w : World} {l : List Mac} {p g cap base : Nat} {vl vr vm : Value} (h : WinO w l p g cap base vl vr vm) (i : Nat) (hi : i < l.length) (R : Ending → World → Prop)
    (hF : lostR l i = none → ∀ w', Below w.heap.size w w' → R (.returned (.bool false)) w')
    (hT : ∀ l', lostR l i = some l' → ∀ w', Below base w w' → Left w' base p l' → R (.returned (.bool true)) w') :
    Calls Tryd.prog 110 #[.pointer (some ⟨p, 0, none⟩), .int .i64 (i : Int)] w R := by
  have C := h.win.cells
  have c2 := C.c2
  have lp := C.lp
  obtain ⟨A3, k3, rfl, hmx, hcap, hs⟩ := h.win.reach.cases_
  have hml : (reachW l).length = l.length := by simp [reachW]
  obtain ⟨b, off, rfl, hb, q⟩ := hs.bool_at (k := i) (by rw [hml]; exact hi)
  rw [hml] at c2 hcap hs
  rw [reachW_at hi] at q
  have i0 : (0 : Int) ≤ (i : Int) := by omega
  have i9 : (i : Int) < (l.length : Int) := by omega
  have H := Lib.hid h
  unfold lostR at hF hT
  cases hr : reachB l i
  · rw [hr] at q
    simp only [hr, Bool.false_eq_true, if_false] at hT
    have HT := Lib.hid (hT _ rfl)
    clear hT hF hs C h
    go_enter Tryd.func110, Tryd.ntmps110
    go_wp2_with fail
    refine outW_calls H.out i hi _ (fun w1 hb1 hl1 => ?_)
    have H1 := Lib.hid (HT.out w1 hb1 hl1)
    clear hb1 hl1
    go_wp2
    exact H1.out
  · rw [hr] at q
    simp only [hr, if_true] at hF
    have HF := Lib.hid (hF trivial)
    clear hT hF hs C h
    go_enter Tryd.func110, Tryd.ntmps110
    go_wp2
    exact HF.out _ bl0
end Go.Proofs.YtkcmijnaheapdaaDoor
