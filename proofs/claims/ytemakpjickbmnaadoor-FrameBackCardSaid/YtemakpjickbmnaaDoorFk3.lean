/- turnerylaw8.frameOf: a frame of raw numbers. -/
import Derived.Test.YtemakpjickbmnaaDoorBase
import Derived.Test.YtemakpjickbmnaaDoorRows
import Derived.IntWalk
import Derived.Outline
import Derived.Deep.LoopGhost
import Derived.Test.YtemakpjickbmnaaDoorFkQ
import Derived.Test.YtemakpjickbmnaaDoorKm1
namespace Go.Proofs.YtemakpjickbmnaaDoor
open Go.RowKit
set_option linter.unusedSimpArgs false
set_option linter.unusedVariables false

theorem and_bit : ∀ y : Nat, y < 256 → ∀ m : Nat, m < 8 → bits .and .i64 ((y : Int) / 2 ^ m) 1 = if y / 2 ^ m % 2 = 1 then 1 else 0 := by decide +kernel
set_option maxRecDepth 100000 in
set_option maxHeartbeats 4000000 in
theorem frameOf_calls (sp sv : Int) (hsp : I64 sp) (hsv : I64 sv) (s y : Nat) (hs : sp % 101 = (s : Int)) (hy : sv % 256 = (y : Int)) (w : World) (R : Ending → World → Prop)
    (hR : ∀ w' v', Below w.heap.size w w' → rpInt.SL w' w'.heap.size (bitsTo y 8) v' → R (.returned (.agg #[.int .i64 (s : Int), v'])) w') :
    Calls Tryd.prog 31 #[.int .i64 sp, .int .i64 sv] w R := by
  have HR := Lib.hid hR
  have Hsp := Lib.hid hsp
  have Hsv := Lib.hid hsv
  have Hs := Lib.hid hs
  have Hy := Lib.hid hy
  have hy256 : y < 256 := by omega
  obtain ⟨W0, hW0⟩ : ∃ W0, W0 = (w.alloc (Obj.cells #[.int .i64 0, .slice none 0 0] 80)).alloc (Obj.cells #[.int .i64 (s : Int), .slice none 0 0] 80) := ⟨_, rfl⟩
  have hb0 : Below w.heap.size w W0 := by subst hW0; exact bl0
  have hz0 : W0.heap.size = w.heap.size + 2 := by subst hW0; simp
  have hA0 : W0.heap[w.heap.size]? = some (.cells #[.int .i64 0, .slice none 0 0] 80 (0, 0)) := by subst hW0; exact blk_alloc (heap_alloc_new _ _) _
  have hF0 : W0.heap[w.heap.size + 1]? = some (.cells #[.int .i64 (s : Int), .slice none 0 0] 80 (0, 0)) := by
    subst hW0
    have := heap_alloc_new (w.alloc (Obj.cells #[.int .i64 0, .slice none 0 0] 80)) (Obj.cells #[.int .i64 (s : Int), .slice none 0 0] 80)
    simpa using this
  have HW0 := Lib.hid hW0.symm
  have HB0 := Lib.hid hb0
  have HA0 := Lib.hid hA0
  have HF0 := Lib.hid hF0
  clear hR hsp hsv hs hy hW0 hb0 hA0 hF0
  go_enter Tryd.func31, Tryd.ntmps31
  go_wp2_with fail
  refine Picked_calls sp 101 (by decide) (by decide) Hsp.out _ _ ?_
  rw [Hs.out]
  go_upto_region 2 with fail
  rw [HW0.out]
  go_wp2
  go_loopg [6] 8 (fun gh s6 wr => ∃ (m N : Nat) (V : Value), m ≤ 8 ∧ N ≤ m ∧ gh = 8 - m ∧ s6 = .int .i64 ((m : Int) + 6) ∧ Hid ((bitsTo y m).length = N) ∧ Hid (wr.ownsRow (w.heap.size + 2) 3 1 V N ((bitsTo y m).flatMap intCells)) ∧ Hid (wr.heap[w.heap.size + 1]? = some (.cells #[.int .i64 (s : Int), V] 80 (0, 0))) ∧ Hid (wr.heap[w.heap.size]? = some (.cells #[.int .i64 0, .slice none 0 0] 80 (0, 0))) ∧ Hid (Below w.heap.size w wr))
  case atStart => exact ⟨0, 0, _, by omega, by omega, rfl, rfl, Lib.hid rfl, Lib.hid (World.ownsRow_nil _ _ _ _), HF0, HA0, HB0⟩
  case round =>
    obtain ⟨m, N, V, hm, hNm, rfl, rfl, HN, Ho, HF, HA, Hb⟩ := hrel
    have hz := Hb.out.size
    obtain ⟨A2, c2, rfl⟩ := own_slice Ho.out
    obtain ⟨f0, f1⟩ := cells_blk HF.out
    obtain ⟨a0, a1⟩ := cells_blk HA.out
    have lF := blk_lt HF.out
    have lA := blk_lt HA.out
    by_cases hlt : m < 8
    · have m8 : (m : Int) + 6 < 14 := by omega
      have hbit := and_bit y hy256 m hlt
      have e6 : (m : Int) + 6 - 6 = (m : Int) := by omega
      have Hst := Lib.hid (bitsTo_step y m)
      by_cases hb : y / 2 ^ m % 2 = 1
      · rw [if_pos hb] at hbit Hst
        clear hb
        have HoW := Lib.hid (Ho.out.alloc (Obj.cells #[.int .i64 ((m : Int) + 6)] 3))
        have HbW := Lib.hid (Hb.out.alloc hz (Obj.cells #[.int .i64 ((m : Int) + 6)] 3))
        have HG : Hid ((wr.alloc (Obj.cells #[.int .i64 ((m : Int) + 6)] 3)).heap[wr.heap.size]? = some (.cells #[.int .i64 ((m : Int) + 6)] 3 (0, 0))) := Lib.hid (heap_alloc_new wr _)
        go_wp2_with fail
        refine Picked_calls sv 256 (by decide) (by decide) Hsv.out _ _ ?_
        rw [Hy.out]
        go_wp2_with (at_builtin; refine app_int rfl _ _ rfl rfl HN.out HoW.out wr.heap.size ((m : Int) + 6) rfl HG.out (by omega) (by simp; omega) ?_)
        intro v' w2 hown1 hgrow
        have hF2 := (hgrow.block (w.heap.size + 1) (by simp; omega) (fun e => by have := (Ho.out.lt _ e.symm).1; omega)).trans (blk_alloc HF.out (Obj.cells #[.int .i64 ((m : Int) + 6)] 3))
        have hA2 := (hgrow.block w.heap.size (by simp; omega) (fun e => by have := (Ho.out.lt _ e.symm).1; omega)).trans (blk_alloc HA.out (Obj.cells #[.int .i64 ((m : Int) + 6)] 3))
        obtain ⟨A3, c3, rfl⟩ := own_slice hown1
        have hb2 := HbW.out.grown hgrow (by simp; omega) (fun k hk => by have := (Ho.out.lt k hk).1; omega)
        obtain ⟨d0, d1⟩ := cells_blk hF2
        have lF2 := blk_lt hF2
        have fz : w2.frozen? ⟨w.heap.size + 1, 1, none⟩ = false := by simp [World.frozen?, hF2]
        have n1 := row_not hown1 hF2 (by decide)
        have hown2 := own_setCell_other (p := ⟨w.heap.size + 1, 1, none⟩) hown1 n1 (.slice A3 (N + 1) c3)
        have hF3 := block_set (j := 1) hF2 (.slice A3 (N + 1) c3)
        have hA3 : (w2.setCell ⟨w.heap.size + 1, 1, none⟩ (.slice A3 (N + 1) c3)).heap[w.heap.size]? = _ := (Below.heap_setCell _ _ _ _ (by show w.heap.size ≠ w.heap.size + 1; omega)).trans hA2
        have Hown2 := Lib.hid hown2
        have HF3 := Lib.hid hF3
        have HA3 := Lib.hid hA3
        have Hb3 := Lib.hid (hb2.setCell (p := ⟨w.heap.size + 1, 1, none⟩) (by show w.heap.size ≤ w.heap.size + 1; omega) (.slice A3 (N + 1) c3))
        clear hown1 hgrow hF2 hA2 hb2 n1 hown2 hF3 hA3
        go_wp2
        go_roundg (8 - (m + 1))
        case measure => omega
        case rel =>
          refine ⟨m + 1, N + 1, _, by omega, by omega, rfl, by go_num, Lib.hid (by rw [Hst.out, List.length_append, HN.out]; rfl), Lib.hid (by rw [Hst.out]; simpa using Hown2.out), Lib.hid (by simpa using HF3.out), HA3, Hb3⟩
      · have hb' : y / 2 ^ m % 2 = 0 := by omega
        rw [if_neg hb] at hbit Hst
        clear hb hb'
        go_wp2_with fail
        refine Picked_calls sv 256 (by decide) (by decide) Hsv.out _ _ ?_
        rw [Hy.out]
        go_wp2
        go_roundg (8 - (m + 1))
        case measure => omega
        case rel => exact ⟨m + 1, N, _, by omega, by omega, rfl, by go_num, Lib.hid (by rw [Hst.out, List.append_nil]; exact HN.out), Lib.hid (by rw [Hst.out, List.append_nil]; exact Ho.out), HF, HA, Hb⟩
    · obtain rfl : m = 8 := by omega
      have za := block_set (j := 1) (block_set (j := 0) HA.out (.int .i64 (s : Int))) (.slice A2 N c2)
      have zb := (Hb.out.setCell (p := ⟨w.heap.size, 0, none⟩) (Nat.le_refl _) (.int .i64 (s : Int))).setCell (p := ⟨w.heap.size, 1, none⟩) (Nat.le_refl _) (.slice A2 N c2)
      have n1 := row_not Ho.out HA.out (by decide)
      have zo := own_setCell_other (p := ⟨w.heap.size, 1, none⟩) (own_setCell_other (p := ⟨w.heap.size, 0, none⟩) Ho.out n1 (.int .i64 (s : Int))) n1 (.slice A2 N c2)
      have Hfin := Lib.hid (HR.out _ _ zb (SLint_own (by rw [HN.out]; exact zo) (Nat.le_refl _)))
      obtain ⟨g0, g1⟩ := cells_blk (T := 80) (u := .int .i64 (s : Int)) (v := .slice A2 N c2) (by simpa using za)
      have G0 := Lib.hid g0
      have G1 := Lib.hid g1
      have z0 : wr.frozen? ⟨w.heap.size, 0, none⟩ = false := by simp [World.frozen?, HA.out]
      have z1 : wr.frozen? ⟨w.heap.size, 1, none⟩ = false := by simp [World.frozen?, HA.out]
      clear za zb n1 zo g0 g1
      go_wp2
      refine bodyPost_ret (v := .agg #[.int .i64 (s : Int), .slice A2 N c2]) (by simp [results, Tryd.results31, go_sem, G0.out, G1.out]) rfl ?_
      exact Hfin.out
end Go.Proofs.YtemakpjickbmnaaDoor
