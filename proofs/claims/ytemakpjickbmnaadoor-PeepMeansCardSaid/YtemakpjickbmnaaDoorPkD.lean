/- Package peep: jumps to jumps; idle instructions. Package peep: rules that write an instruction anew. Package peep: what is got again. Package peep: moves to and fro. -/
import Derived.Test.YtemakpjickbmnaaDoorBase
import Derived.Test.YtemakpjickbmnaaDoorRows
import Derived.IntWalk
import Derived.Outline
import Derived.Deep.LoopGhost
import Derived.Deep.RegionLaw
import Derived.Test.YtemakpjickbmnaaDoorPkC
import Derived.StillTailTactics
/- Package peep: jumps to jumps; idle instructions. -/
namespace Go.Proofs.YtemakpjickbmnaaDoor
open Go.RowKit
set_option linter.unusedSimpArgs false
set_option linter.unusedVariables false

theorem set_same_below {w : World} {base : Nat} {e : TypeId} {size n g j cap : Nat} {xs : List Value} {u : Value} (h : w.ownsRow base e size (.slice (some ⟨g, 0, none⟩) n cap) n xs) (hc : w.cell? ⟨g, j, none⟩ = some u) (B : Nat) : Below B w (w.setCell ⟨g, j, none⟩ u) := by
  refine ⟨rfl, rfl, rfl, by simp [World.setCell], fun k _ => ?_⟩
  by_cases hk : k = g
  · subst hk
    obtain ⟨cur, hh⟩ := row_type' h rfl
    rw [block_set hh, hh]
    rw [blk_cell' hh] at hc
    have : cur.setIfInBounds j u = cur := by
      apply Array.ext
      · simp
      · intro i h1 h2
        rw [Array.getElem_setIfInBounds]
        split
        · rename_i e
          subst e
          rw [Array.getElem?_eq_getElem h2] at hc
          exact (Option.some.inj hc).symm
        · rfl
    rw [this]
  · exact Below.heap_setCell _ _ _ _ hk
theorem Left.of_set {w w' : World} {l l' : List Mac} {p g cap base : Nat} {vl vr vm : Value} (h : WinO w l p g cap base vl vr vm) (hl : l'.length = l.length) (hb : w'.heap[p]? = w.heap[p]?) (ho : w'.ownsRow base 36 5 (.slice (some ⟨g, 0, none⟩) l.length cap) l.length (l'.flatMap Mac.cells)) : Left w' base p l' :=
  ⟨g, cap, vl, vr, vm, by rw [hl, hb]; exact h.win.hp, by rw [hl]; exact ho⟩
theorem WinO.ne {w : World} {l : List Mac} {p g cap base : Nat} {vl vr vm : Value} (h : WinO w l p g cap base vl vr vm) : p ≠ g := fun e => row_not' h.own h.win.hp (by decide) (by rw [e]; rfl)
theorem WinO.baseg {w : World} {l : List Mac} {p g cap base : Nat} {vl vr vm : Value} (h : WinO w l p g cap base vl vr vm) : base ≤ g := (h.own.lt g rfl).1
set_option maxHeartbeats 2000000 in
theorem far_calls {w : World} {l : List Mac} {p g cap base : Nat} {vl vr vm : Value} (h : WinO w l p g cap base vl vr vm) (i : Nat) (hi : i < l.length) (R : Ending → World → Prop)
    (hF : farR l i = none → ∀ w', Below w.heap.size w w' → R (.returned (.bool false)) w')
    (hT : ∀ l', farR l i = some l' → ∀ w', Below base w w' → Left w' base p l' → R (.returned (.bool true)) w') :
    Calls Tryd.prog 98 #[.pointer (some ⟨p, 0, none⟩), .int .i64 (i : Int)] w R := by
  have C := h.win.cells
  have c0 := C.c0
  have lp := C.lp
  have M := ownM_at h.own rfl hi
  have m0 := M.c0
  have m1 := M.c1
  have m2 := M.c2
  have m3 := M.c3
  have m4 := M.c4
  have lg := M.lg
  have i0 : (0 : Int) ≤ (i : Int) := by omega
  have i9 : (i : Int) < (l.length : Int) := by omega
  have hok := h.win.ok
  have hm := hok.at_ hi
  have hfew := hok.few
  have hbl := h.base_le
  have H := Lib.hid h
  unfold farR farTo at hF hT
  generalize hM : atL l i = m at *
  have HM := Lib.hid hM
  clear C M h hM
  go_enter Tryd.func98, Tryd.ntmps98
  go_wp2_with fail
  refine jumps_calls m _ _ (fun w5 hb5 => ?_)
  have d0 := (hb5.cell (p := ⟨p, 0, none⟩) lp).trans c0
  have d4 := (hb5.cell (p := ⟨g, i * 5 + 4, none⟩) lg).trans m4
  have lp5 := Nat.lt_of_lt_of_le lp hb5.size
  have lg5 := Nat.lt_of_lt_of_le lg hb5.size
  have H5 := Lib.hid (H.out.below hb5)
  have Hb5 := Lib.hid hb5
  clear hb5 m0 m1 m2 m3 m4 c0
  cases hj : jumpsM m
  · have HF := Lib.hid (hF (by rw [hj]; rfl))
    clear hT hF hj
    go_wp2
    exact HF.out _ Hb5.out
  · have hop := jumps_op.1 hj
    have hjn := hm.jump hop.1 hop.2
    rw [hj] at hF hT
    simp only [if_true] at hF hT
    have HF := Lib.hid hF
    have HT := Lib.hid hT
    clear hT hF hj hop hm
    go_wp2
    go_loopg [6, 28] l.length (fun gh s6 s28 wr => ∃ (k y : Nat), k ≤ l.length ∧ gh = l.length - k ∧ s28 = .int .i64 (k : Int) ∧ s6 = .int .i64 (y : Int) ∧ y < l.length ∧ Hid (ledL l (l.length - k) (y : Int) = ledL l l.length m.n) ∧ wr = w5)
    case atStart => exact ⟨0, m.n.toNat, Nat.zero_le _, rfl, rfl, by rw [Int.toNat_of_nonneg hjn.1], by omega, Lib.hid (by rw [Int.toNat_of_nonneg hjn.1]; rfl), rfl⟩
    case round =>
      obtain ⟨k, y, hk, rfl, rfl, rfl, hy, Hled, rfl⟩ := hrel
      by_cases hlt : k < l.length
      · have My := ownM_at H5.out.own rfl hy
        have y0 := My.c0
        have y4 := My.c4
        have hmy := hok.at_ hy
        have hled : ledL l (l.length - k) (y : Int) = if (atL l y).op ≠ 37 then some (y : Int) else ledL l (l.length - (k + 1)) (atL l y).n := by
          rw [show l.length - k = (l.length - (k + 1)) + 1 from by omega, ledL, Int.toNat_natCast]
        generalize atL l y = o at *
        have k0 : (0 : Int) ≤ (k : Int) := by omega
        have k1 : (k : Int) < (l.length : Int) := by omega
        have z0 : (0 : Int) ≤ (y : Int) := by omega
        have z1 : (y : Int) < (l.length : Int) := by omega
        by_cases h37 : o.op = 37
        · have j37 : (o.op != 37) = false := by simpa using h37
          have hon := hmy.jump (by omega) (by omega)
          rw [if_neg (fun e => e h37)] at hled
          have Hl2 := Lib.hid (hled.symm.trans Hled.out)
          obtain ⟨z, hz⟩ : ∃ z : Nat, o.n = (z : Int) := ⟨o.n.toNat, by omega⟩
          rw [hz] at y4 Hl2 hon
          clear hz h37 hled My hmy
          go_wp2
          go_roundg (l.length - (k + 1))
          case measure => omega
          case rel => exact ⟨k + 1, z, by omega, rfl, by go_num, rfl, by omega, Hl2, rfl⟩
        · have j37 : (o.op != 37) = true := by simpa using h37
          rw [if_pos h37] at hled
          have Hl2 := Lib.hid (Hled.out.symm.trans hled)
          have fz := My.fz (i * 5 + 4)
          clear hled Hled h37 hmy
          by_cases hn : (y : Int) = m.n
          · have jn : ((y : Int) != m.n) = false := by simpa using hn
            have H1 := HF.out (by rw [Hl2.out]; simp only; rw [if_pos hn]; rfl)
            have hbs := set_same_below (u := .int .i64 (y : Int)) H5.out.own (by rw [hn]; exact d4) wr.heap.size
            have Hf := Lib.hid (H1 _ (Hb5.out.trans (hbs.mono Hb5.out.size)))
            clear H1 hbs hn My
            go_wp2
            exact Hf.out
          · have jn : ((y : Int) != m.n) = true := by simpa using hn
            have hset := ownM_put H5.out.own rfl hi (y : Int)
            rw [HM.out] at hset
            have Hf := Lib.hid (HT.out (l.set i (withN m (y : Int))) (by rw [Hl2.out]; simp only; rw [if_neg hn]; rfl) (wr.setCell ⟨g, i * 5 + 4, none⟩ (.int .i64 (y : Int))) ((Hb5.out.mono hbl).setCell (p := ⟨g, i * 5 + 4, none⟩) H.out.baseg _) (Left.of_set H5.out List.length_set (Below.heap_setCell _ _ _ _ H.out.ne) hset))
            clear hset hn My
            go_wp2
            exact Hf.out
      · obtain rfl : k = l.length := by omega
        have Hf := Lib.hid (HF.out (by rw [← Hled.out, Nat.sub_self, ledL]; rfl) wr Hb5.out)
        go_wp2
        exact Hf.out
end Go.Proofs.YtemakpjickbmnaaDoor

/- Package peep: rules that write an instruction anew. -/
namespace Go.Proofs.YtemakpjickbmnaaDoor
open Go.RowKit
set_option linter.unusedSimpArgs false
set_option linter.unusedVariables false

theorem Left.below {w w' : World} {base p : Nat} {l : List Mac} (h : Left w base p l) (hb : Below w.heap.size w w') : Left w' base p l := by
  obtain ⟨g, cap, vl, vr, vm, h1, h2⟩ := h.row
  exact ⟨g, cap, vl, vr, vm, (hb.block _ (blk_lt h1)).trans h1, own_below h2 hb⟩
/-- An instruction of the window is another one. -/
theorem WinO.set5 {w : World} {l : List Mac} {p g cap base : Nat} {vl vr vm : Value} (h : WinO w l p g cap base vl vr vm) {k : Nat} (hk : k < l.length) (m : Mac) :
    Below base w (((((w.setCell ⟨g, k * 5, none⟩ (.int .i64 m.op)).setCell ⟨g, k * 5 + 1, none⟩ (.int .i64 m.dst)).setCell ⟨g, k * 5 + 2, none⟩ (.int .i64 m.a)).setCell ⟨g, k * 5 + 3, none⟩ (.int .i64 m.b)).setCell ⟨g, k * 5 + 4, none⟩ (.int .i64 m.n)) ∧
    Left (((((w.setCell ⟨g, k * 5, none⟩ (.int .i64 m.op)).setCell ⟨g, k * 5 + 1, none⟩ (.int .i64 m.dst)).setCell ⟨g, k * 5 + 2, none⟩ (.int .i64 m.a)).setCell ⟨g, k * 5 + 3, none⟩ (.int .i64 m.b)).setCell ⟨g, k * 5 + 4, none⟩ (.int .i64 m.n)) base p (l.set k m) := by
  have hb := h.baseg
  have hn := h.ne
  refine ⟨(((((Below.refl base w).setCell (p := ⟨g, k * 5, none⟩) hb _).setCell (p := ⟨g, k * 5 + 1, none⟩) hb _).setCell (p := ⟨g, k * 5 + 2, none⟩) hb _).setCell (p := ⟨g, k * 5 + 3, none⟩) hb _).setCell (p := ⟨g, k * 5 + 4, none⟩) hb _, Left.of_set h List.length_set ?_ (ownM_set h.own rfl hk m)⟩
  rw [Below.heap_setCell _ _ _ _ hn, Below.heap_setCell _ _ _ _ hn, Below.heap_setCell _ _ _ _ hn, Below.heap_setCell _ _ _ _ hn, Below.heap_setCell _ _ _ _ hn]
set_option maxHeartbeats 2000000 in
theorem idle_calls {w : World} {l : List Mac} {p g cap base : Nat} {vl vr vm : Value} (h : WinO w l p g cap base vl vr vm) (i : Nat) (hi : i < l.length) (R : Ending → World → Prop)
    (hF : idleR l i = none → ∀ w', Below w.heap.size w w' → R (.returned (.bool false)) w')
    (hT : ∀ l', idleR l i = some l' → ∀ w', Below base w w' → Left w' base p l' → R (.returned (.bool true)) w') :
    Calls Tryd.prog 105 #[.pointer (some ⟨p, 0, none⟩), .int .i64 (i : Int)] w R := by
  have C := h.win.cells
  have c0 := C.c0
  have lp := C.lp
  have M := ownM_at h.own rfl hi
  have m0 := M.c0
  have m1 := M.c1
  have m2 := M.c2
  have m3 := M.c3
  have m4 := M.c4
  have lg := M.lg
  have i0 : (0 : Int) ≤ (i : Int) := by omega
  have i9 : (i : Int) < (l.length : Int) := by omega
  have hbl := h.base_le
  have H := Lib.hid h
  unfold idleR at hF hT
  have Hfz := Lib.hid M.fz
  generalize atL l i = m at *
  clear C M h
  go_enter Tryd.func105, Tryd.ntmps105
  go_wp2_with fail
  refine Contains_calls _ [19, 20, 25, 26, 27, 28] _ _ (ints_blk (xs := [19, 20, 25, 26, 27, 28]) (heap_new rfl) (by simp) (by unfold maxLen; simp)) _ ?_
  obtain ⟨W1, hW1⟩ : ∃ W1, W1 = w.alloc (Obj.cells (List.map (Value.int .i64) [19, 20, 25, 26, 27, 28]).toArray 3) := ⟨_, rfl⟩
  have hb1 : Below w.heap.size w W1 := by rw [hW1]; exact bl0
  rw [← hW1]
  have d0 := (hb1.cell (p := ⟨g, i * 5, none⟩) lg).trans m0
  have d1 := (hb1.cell (p := ⟨g, i * 5 + 1, none⟩) lg).trans m1
  have d2 := (hb1.cell (p := ⟨g, i * 5 + 2, none⟩) lg).trans m2
  have d3 := (hb1.cell (p := ⟨g, i * 5 + 3, none⟩) lg).trans m3
  have d4 := (hb1.cell (p := ⟨g, i * 5 + 4, none⟩) lg).trans m4
  have f0 := (hb1.frozen (p := ⟨g, i * 5, none⟩) lg).trans (Hfz.out _)
  have f1 := (hb1.frozen (p := ⟨g, i * 5 + 1, none⟩) lg).trans (Hfz.out _)
  have f2 := (hb1.frozen (p := ⟨g, i * 5 + 2, none⟩) lg).trans (Hfz.out _)
  have f3 := (hb1.frozen (p := ⟨g, i * 5 + 3, none⟩) lg).trans (Hfz.out _)
  have f4 := (hb1.frozen (p := ⟨g, i * 5 + 4, none⟩) lg).trans (Hfz.out _)
  have lg1 := Nat.lt_of_lt_of_le lg hb1.size
  have H1 := Lib.hid (H.out.below hb1)
  have Hb1 := Lib.hid hb1
  have hs5 := H1.out.set5 hi ⟨2, m.dst, m.a, 0, 0⟩
  have Hs5 := Lib.hid hs5
  clear hb1 hW1 m0 m1 m2 m3 m4 c0 hs5
  have hnought : decide (m.op ∈ [(19 : Int), 20, 25, 26, 27, 28]) = decide (m.op = 19 ∨ m.op = 20 ∨ m.op = 25 ∨ m.op = 26 ∨ m.op = 27 ∨ m.op = 28) := by
    rw [Bool.eq_iff_iff]; simp
  rw [hnought]
  unfold idleM at hF hT
  have key : ∀ (x y : Bool), x = decide (m.op = 19 ∨ m.op = 20 ∨ m.op = 25 ∨ m.op = 26 ∨ m.op = 27 ∨ m.op = 28) → True := fun _ _ _ => trivial
  by_cases hs : m.op = 21 ∨ m.op = 22
  · have hno : decide (m.op = 19 ∨ m.op = 20 ∨ m.op = 25 ∨ m.op = 26 ∨ m.op = 27 ∨ m.op = 28) = false := by simp; omega
    rw [hno]
    simp only [if_pos hs] at hF hT
    by_cases hn : m.n = 1
    · have jn : (m.n == 1) = true := by simpa using hn
      have HT := Lib.hid (hT _ (by rw [if_pos (by simpa using hn)]))
      clear hT hF hn hno hnought key
      rcases hs with e | e
      · have j21 : (m.op == 21) = true := by simpa using e
        clear e
        go_wp2_with fail
        go_region_law (fail)
        all_goals
          go_wp2
          first | exact HT.out _ ((Hb1.out.mono hbl).trans Hs5.out.1) Hs5.out.2 | exact HT.out _ (((Hb1.out.mono hbl).trans Hs5.out.1).drew) (Hs5.out.2.below (Below.refl _ _).drew)
      · have j21 : (m.op == 21) = false := by simp; omega
        have j22 : (m.op == 22) = true := by simpa using e
        clear e
        go_wp2_with fail
        go_region_law (fail)
        all_goals
          go_wp2
          first | exact HT.out _ ((Hb1.out.mono hbl).trans Hs5.out.1) Hs5.out.2 | exact HT.out _ (((Hb1.out.mono hbl).trans Hs5.out.1).drew) (Hs5.out.2.below (Below.refl _ _).drew)
    · have jn : (m.n == 1) = false := by simpa using hn
      have HF := Lib.hid (hF (by rw [if_neg (by simpa using hn)]))
      clear hT hF hn hno hnought key
      rcases hs with e | e
      · have j21 : (m.op == 21) = true := by simpa using e
        clear e
        go_wp2
        exact HF.out _ Hb1.out
      · have j21 : (m.op == 21) = false := by simp; omega
        have j22 : (m.op == 22) = true := by simpa using e
        clear e
        go_wp2
        exact HF.out _ Hb1.out
  · simp only [if_neg hs] at hF hT
    have j21 : (m.op == 21) = false := by simp; omega
    have j22 : (m.op == 22) = false := by simp; omega
    cases hno : decide (m.op = 19 ∨ m.op = 20 ∨ m.op = 25 ∨ m.op = 26 ∨ m.op = 27 ∨ m.op = 28)
    · have HF := Lib.hid (hF (by rw [hno]; simp))
      clear hT hF hno hnought key hs
      go_wp2
      exact HF.out _ Hb1.out
    · rw [hno] at hF hT
      by_cases hn : m.n = 0
      · have jn : (m.n == 0) = true := by simpa using hn
        have HT := Lib.hid (hT _ (by rw [if_pos (by simpa using hn)]))
        clear hT hF hn hno hnought key hs
        go_wp2_with fail
        go_region_law (fail)
        all_goals
          go_wp2
          first | exact HT.out _ ((Hb1.out.mono hbl).trans Hs5.out.1) Hs5.out.2 | exact HT.out _ (((Hb1.out.mono hbl).trans Hs5.out.1).drew) (Hs5.out.2.below (Below.refl _ _).drew)
      · have jn : (m.n == 0) = false := by simpa using hn
        have HF := Lib.hid (hF (by rw [if_neg (by simpa using hn)]))
        clear hT hF hn hno hnought key hs
        go_wp2
        exact HF.out _ Hb1.out
end Go.Proofs.YtemakpjickbmnaaDoor

/- Package peep: what is got again. -/
namespace Go.Proofs.YtemakpjickbmnaaDoor
open Go.RowKit
set_option linter.unusedSimpArgs false
set_option linter.unusedVariables false

set_option maxHeartbeats 2000000 in
theorem again_calls {w : World} {l : List Mac} {p g cap base : Nat} {vl vr vm : Value} (h : WinO w l p g cap base vl vr vm) (i : Nat) (hi : i < l.length) (R : Ending → World → Prop)
    (hF : againR l i = none → ∀ w', Below w.heap.size w w' → R (.returned (.bool false)) w')
    (hT : ∀ l', againR l i = some l' → ∀ w', Below base w w' → Left w' base p l' → R (.returned (.bool true)) w') :
    Calls Tryd.prog 101 #[.pointer (some ⟨p, 0, none⟩), .int .i64 (i : Int)] w R := by
  have C := h.win.cells
  have c0 := C.c0
  have lp := C.lp
  have M := ownM_at h.own rfl hi
  have m0 := M.c0
  have m1 := M.c1
  have m2 := M.c2
  have m3 := M.c3
  have m4 := M.c4
  have lg := M.lg
  have i0 : (0 : Int) ≤ (i : Int) := by omega
  have i9 : (i : Int) < (l.length : Int) := by omega
  have hbl := h.base_le
  have H := Lib.hid h
  unfold againR at hF hT
  generalize atL l i = m at *
  clear C M h
  go_enter Tryd.func101, Tryd.ntmps101
  go_wp2_with fail
  have hbA : Below w.heap.size w (w.alloc (Obj.cells #[.int .i64 m.op, .int .i64 m.dst, .int .i64 m.a, .int .i64 m.b, .int .i64 m.n] 36)) := bl0
  have HbA := Lib.hid hbA
  refine beside_calls (H.out.below hbA) i hi _ (fun hbs w5 hb5 => ?_) (fun hbs w5 hb5 => ?_)
  · have p0 : w5.cell? ⟨w.heap.size, 0, none⟩ = some (.int .i64 m.op) := by rw [hb5.cell (by simp)]; simp
    have p2 : w5.cell? ⟨w.heap.size, 2, none⟩ = some (.int .i64 m.a) := by rw [hb5.cell (by simp)]; simp
    have p4 : w5.cell? ⟨w.heap.size, 4, none⟩ = some (.int .i64 m.n) := by rw [hb5.cell (by simp)]; simp
    have hz5 : w.heap.size < w5.heap.size := by have := hb5.size; simp at this; omega
    have Hb1 := Lib.hid (hbA.trans (hb5.mono (by simp)))
    have H5 := Lib.hid (H.out.below Hb1.out)
    have hi1 := (besB_iff.1 hbs).1
    have M := ownM_at H5.out.own rfl hi1
    have q0 := M.c0
    have q1 := M.c1
    have q4 := M.c4
    have f0 := M.fz ((i + 1) * 5)
    have f1 := M.fz ((i + 1) * 5 + 1)
    have f2 := M.fz ((i + 1) * 5 + 2)
    have f3 := M.fz ((i + 1) * 5 + 3)
    have f4 := M.fz ((i + 1) * 5 + 4)
    have q2 := M.c2
    have q3 := M.c3
    have lg5 := M.lg
    have hs5 := fun n => (H5.out.below (below_drewN (Below.refl _ _) n)).set5 hi1 ⟨2, (atL l (i + 1)).dst, m.a, 0, 0⟩
    generalize atL l (i + 1) = o at *
    have Hs5 := Lib.hid hs5
    have hbs' := Lib.hid hbs
    clear hs5 hb5 hbA M hbs m0 m1 m2 m3 m4 c0
    by_cases e36 : m.op = 36
    · have j36 : (m.op != 36) = false := by simpa using e36
      have E36 := Lib.hid e36
      clear e36
      by_cases e35 : o.op = 35
      · have j35 : (o.op != 35) = false := by simpa using e35
        have E35 := Lib.hid e35
        clear e35
        by_cases en : o.n = m.n
        · have jn : (o.n != m.n) = false := by simpa using en
          have HT := Lib.hid (hT _ (by rw [if_pos ⟨hbs'.out, E36.out, E35.out, en⟩]))
          clear hT hF en
          go_wp2_with fail
          go_quiet (fail)
          go_wp2_with fail
          go_region_law (fail)
          all_goals
            go_wp2
            first | exact HT.out _ ((below_drewN (Hb1.out.mono hbl) _).trans (Hs5.out _).1) (Hs5.out _).2 | exact HT.out _ (((below_drewN (Hb1.out.mono hbl) _).trans (Hs5.out _).1).drew) ((Hs5.out _).2.below (Below.refl _ _).drew)
        · have jn : (o.n != m.n) = true := by simpa using en
          have HF := Lib.hid (hF (by rw [if_neg (fun h => en h.2.2.2)]))
          clear hT hF en
          go_wp2_with fail
          go_quiet (fail)
          go_wp2
          exact HF.out _ (below_drewN Hb1.out _)
      · have j35 : (o.op != 35) = true := by simpa using e35
        have HF := Lib.hid (hF (by rw [if_neg (fun h => e35 h.2.2.1)]))
        clear hT hF e35
        go_wp2_with fail
        go_quiet (fail)
        go_wp2
        exact HF.out _ (below_drewN Hb1.out _)
    · have j36 : (m.op != 36) = true := by simpa using e36
      have HF := Lib.hid (hF (by rw [if_neg (fun h => e36 h.2.1)]))
      clear hT hF e36
      go_wp2_with fail
      go_quiet (fail)
      go_wp2
      exact HF.out _ (below_drewN Hb1.out _)
  · have HF := Lib.hid (hF (by rw [if_neg (fun h => by rw [hbs] at h; cases h.1)]))
    have Hb1 := Lib.hid (hbA.trans (hb5.mono (by simp)))
    have p0 : w5.cell? ⟨w.heap.size, 0, none⟩ = some (.int .i64 m.op) := by rw [hb5.cell (by simp)]; simp
    have p4 : w5.cell? ⟨w.heap.size, 4, none⟩ = some (.int .i64 m.n) := by rw [hb5.cell (by simp)]; simp
    have hz5 : w.heap.size < w5.heap.size := by have := hb5.size; simp at this; omega
    clear hT hF hb5 hbs hbA
    go_wp2_with fail
    go_quiet (fail)
    go_wp2
    exact HF.out _ (below_drewN Hb1.out _)
end Go.Proofs.YtemakpjickbmnaaDoor

/- Package peep: moves to and fro. -/
namespace Go.Proofs.YtemakpjickbmnaaDoor
open Go.RowKit
set_option linter.unusedSimpArgs false
set_option linter.unusedVariables false

theorem eql_Mac (m n : Mac) (w : World) : (binOp .eql 36 (.agg #[.int .i64 m.op, .int .i64 m.dst, .int .i64 m.a, .int .i64 m.b, .int .i64 m.n]) (.agg #[.int .i64 n.op, .int .i64 n.dst, .int .i64 n.a, .int .i64 n.b, .int .i64 n.n])).run Tryd.prog w = .ok (.bool (decide (m = n))) w := by
  have hp : Tryd.prog.stoodInHeld 36 = false := by kernel_rfl
  have ht : Tryd.prog.underlying 36 = some (.struct (Tryd.prog.fieldsOf 36)) := by kernel_rfl
  rw [run_eql_struct, run_equalIn_agg _ _ _ _ _ ht hp]
  have h3 := Tryd.underlying3
  simp [Tryd.underlying36, go_sem, h3]
  have e : m = n ↔ m.op = n.op ∧ m.dst = n.dst ∧ m.a = n.a ∧ m.b = n.b ∧ m.n = n.n := by
    cases m
    cases n
    simp
  by_cases h1 : m.op = n.op <;> by_cases h2 : m.dst = n.dst <;> by_cases h4 : m.a = n.a <;> by_cases h5 : m.b = n.b <;> by_cases h6 : m.n = n.n <;> simp [e, h1, h2, h4, h5, h6]
set_option maxRecDepth 100000 in
set_option maxHeartbeats 2000000 in
theorem back_calls {w : World} {l : List Mac} {p g cap base : Nat} {vl vr vm : Value} (h : WinO w l p g cap base vl vr vm) (i : Nat) (hi : i < l.length) (R : Ending → World → Prop)
    (hF : backR l i = none → ∀ w', Below w.heap.size w w' → R (.returned (.bool false)) w')
    (hT : ∀ l', backR l i = some l' → ∀ w', Below base w w' → Left w' base p l' → R (.returned (.bool true)) w') :
    Calls Tryd.prog 102 #[.pointer (some ⟨p, 0, none⟩), .int .i64 (i : Int)] w R := by
  have C := h.win.cells
  have c0 := C.c0
  have lp := C.lp
  have M := ownM_at h.own rfl hi
  have m0 := M.c0
  have m1 := M.c1
  have m2 := M.c2
  have m3 := M.c3
  have m4 := M.c4
  have lg := M.lg
  have i0 : (0 : Int) ≤ (i : Int) := by omega
  have i9 : (i : Int) < (l.length : Int) := by omega
  have hbl := h.base_le
  have H := Lib.hid h
  unfold backR at hF hT
  generalize atL l i = m at *
  clear C M h
  go_enter Tryd.func102, Tryd.ntmps102
  go_wp2_with fail
  have hbA : Below w.heap.size w (w.alloc (Obj.cells #[.int .i64 m.op, .int .i64 m.dst, .int .i64 m.a, .int .i64 m.b, .int .i64 m.n] 36)) := bl0
  have HbA := Lib.hid hbA
  refine beside_calls (H.out.below hbA) i hi _ (fun hbs w5 hb5 => ?_) (fun hbs w5 hb5 => ?_)
  · have p0 : w5.cell? ⟨w.heap.size, 0, none⟩ = some (.int .i64 m.op) := by rw [hb5.cell (by simp)]; simp
    have p1 : w5.cell? ⟨w.heap.size, 1, none⟩ = some (.int .i64 m.dst) := by rw [hb5.cell (by simp)]; simp
    have p2 : w5.cell? ⟨w.heap.size, 2, none⟩ = some (.int .i64 m.a) := by rw [hb5.cell (by simp)]; simp
    have p4 : w5.cell? ⟨w.heap.size, 4, none⟩ = some (.int .i64 m.n) := by rw [hb5.cell (by simp)]; simp
    have hz5 : w.heap.size < w5.heap.size := by have := hb5.size; simp at this; omega
    have Hb1 := Lib.hid (hbA.trans (hb5.mono (by simp)))
    have H5 := Lib.hid (H.out.below Hb1.out)
    have hi1 := (besB_iff.1 hbs).1
    have M := ownM_at H5.out.own rfl hi1
    have q0 := M.c0
    have q1 := M.c1
    have q4 := M.c4
    have f0 := M.fz ((i + 1) * 5)
    have f1 := M.fz ((i + 1) * 5 + 1)
    have f2 := M.fz ((i + 1) * 5 + 2)
    have f3 := M.fz ((i + 1) * 5 + 3)
    have f4 := M.fz ((i + 1) * 5 + 4)
    have q2 := M.c2
    have q3 := M.c3
    have lg5 := M.lg
    generalize atL l (i + 1) = o at *
    have hbs' := Lib.hid hbs
    clear hb5 hbA M hbs m0 m1 m2 m3 m4 c0
    by_cases e2 : m.op = 2
    · have j2 : (m.op == 2) = true := by simpa using e2
      have E2 := Lib.hid e2
      clear e2
      have heq := eql_Mac o ⟨2, m.a, m.dst, 0, 0⟩
      by_cases eo : o = ⟨2, m.a, m.dst, 0, 0⟩
      · rw [decide_eq_true eo] at heq
        have HT := Lib.hid (hT _ (by rw [if_pos ⟨hbs'.out, E2.out, eo⟩]))
        clear hT hF eo
        have i3 : (0 : Int) ≤ (i : Int) + 1 := by omega
        go_wp2_with fail
        go_still_tail 21, (by kernel_rfl)
        change wpList _ _ _ _ _ w5.drew
        go_wp2_with fail
        rw [show wrap64 ((i : Int) + 1) = ((i + 1 : Nat) : Int) from by (have := H5.out.win.ok.few; unfold wrap64; omega)]
        have hdr : Below w5.heap.size w5 w5.drew := (Below.refl _ _).drew
        with_reducible refine outW_calls (H5.out.below hdr) (i + 1) hi1 _ (fun w1 hb1 hl1 => ?_)
        have H1 := Lib.hid (HT.out w1 (((Hb1.out.drew).mono hbl).trans hb1) hl1)
        clear hb1 hl1
        go_wp2
        exact H1.out
      · rw [decide_eq_false eo] at heq
        have HF := Lib.hid (hF (by rw [if_neg (fun h => eo h.2.2)]))
        clear hT hF eo
        go_wp2_with fail
        go_quiet (fail)
        go_wp2
        exact HF.out _ (below_drewN Hb1.out _)
    · have j2 : (m.op == 2) = false := by simpa using e2
      have HF := Lib.hid (hF (by rw [if_neg (fun h => e2 h.2.1)]))
      clear hT hF e2
      go_wp2_with fail
      go_quiet (fail)
      go_wp2
      exact HF.out _ (below_drewN Hb1.out _)
  · have HF := Lib.hid (hF (by rw [if_neg (fun h => by rw [hbs] at h; cases h.1)]))
    have Hb1 := Lib.hid (hbA.trans (hb5.mono (by simp)))
    have p0 : w5.cell? ⟨w.heap.size, 0, none⟩ = some (.int .i64 m.op) := by rw [hb5.cell (by simp)]; simp
    have p4 : w5.cell? ⟨w.heap.size, 4, none⟩ = some (.int .i64 m.n) := by rw [hb5.cell (by simp)]; simp
    have hz5 : w.heap.size < w5.heap.size := by have := hb5.size; simp at this; omega
    clear hT hF hb5 hbs hbA
    go_wp2_with fail
    go_quiet (fail)
    go_wp2
    exact HF.out _ (below_drewN Hb1.out _)
end Go.Proofs.YtemakpjickbmnaaDoor
