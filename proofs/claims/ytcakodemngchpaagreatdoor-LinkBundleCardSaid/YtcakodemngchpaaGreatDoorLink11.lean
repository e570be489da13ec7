/- Are two images the same: the document's SameImage, of two readings of one. -/
import Derived.Test.YtcakodemngchpaaGreatDoorBase
import Derived.Test.YtcakodemngchpaaGreatDoorRows
import Derived.IntWalk
import Derived.Deep.LoopGhost
import Derived.Deep.CutBlock
import Derived.Deep.DeepCutAuto
import Derived.Deep.RegionHeld3
import Derived.Outline
import Derived.Test.YtcakodemngchpaaGreatDoorSameA
import Derived.Test.YtcakodemngchpaaGreatDoorLinkY
namespace Go.Proofs.YtcakodemngchpaaGreatDoor
open Go.RowKit
set_option linter.unusedSimpArgs false
set_option linter.unusedVariables false

set_option maxRecDepth 100000 in
set_option maxHeartbeats 4000000 in
theorem SameImage_calls (o : Image) (v1 v2 v3 v4 : Value) (w : World) (h1 : rpGlobal.SL w w.heap.size o.globals v1) (h2 : rpRoutine.SL w w.heap.size o.routines v2) (h3 : rpGlobal.SL w w.heap.size o.globals v3) (h4 : rpRoutine.SL w w.heap.size o.routines v4) (R : Ending → World → Prop)
    (hR : ∀ w', Below w.heap.size w w' → R (.returned (.bool true)) w') :
    Calls Tryz.prog 11 #[.agg #[v1, v2], .agg #[v3, v4]] w R := by
  obtain ⟨A1, n1, rfl, hm1, hcap1, h1⟩ := h1.cases_
  obtain ⟨A2, n2, rfl, hm2, hcap2, h2⟩ := h2.cases_
  obtain ⟨A3, n3, rfl, hm3, hcap3, h3⟩ := h3.cases_
  obtain ⟨A4, n4, rfl, hm4, hcap4, h4⟩ := h4.cases_
  have HR := Lib.hid hR
  have H1 := Lib.hid h1
  have H2 := Lib.hid h2
  have H3 := Lib.hid h3
  have H4 := Lib.hid h4
  obtain ⟨W0, hW0⟩ : ∃ W0, W0 = (w.alloc (Obj.cells #[.slice A1 o.globals.length n1, .slice A2 o.routines.length n2] 43)).alloc (Obj.cells #[.slice A3 o.globals.length n3, .slice A4 o.routines.length n4] 43) := ⟨_, rfl⟩
  have hb0 : Below w.heap.size w W0 := by subst hW0; exact bl0
  have hz0 : W0.heap.size = w.heap.size + 2 := by subst hW0; simp
  have hP : W0.heap[w.heap.size]? = some (.cells #[.slice A1 o.globals.length n1, .slice A2 o.routines.length n2] 43 (0, 0)) := by
    subst hW0
    exact blk_alloc (heap_alloc_new _ _) _
  have hQ : W0.heap[w.heap.size + 1]? = some (.cells #[.slice A3 o.globals.length n3, .slice A4 o.routines.length n4] 43 (0, 0)) := by
    subst hW0
    have := heap_alloc_new (w.alloc (Obj.cells #[.slice A1 o.globals.length n1, .slice A2 o.routines.length n2] 43)) (Obj.cells #[.slice A3 o.globals.length n3, .slice A4 o.routines.length n4] 43)
    simpa using this
  obtain ⟨p0, p1⟩ := cells_blk hP
  obtain ⟨q0, q1⟩ := cells_blk hQ
  have HP := Lib.hid hP
  have HQ := Lib.hid hQ
  have HW := Lib.hid hW0.symm
  have Hb0 := Lib.hid hb0
  have Hz0 := Lib.hid hz0
  have hlen : ∀ (n : Nat), ((n : Int) != (n : Int)) = false := fun n => by simp
  clear hR h1 h2 h3 h4 hP hQ hb0 hz0 hW0
  go_enter Tryz.func11, Tryz.ntmps11
  go_upto_region 1 with fail
  rw [HW.out]
  go_cut [20] (fun s20 wx => s20 = .bool false ∧ Below (w.heap.size + 2) W0 wx)
  case first =>
    go_wp2_with fail
    refine SameGlobals_calls o.globals o.globals _ _ _ (H1.out.up Hb0.out Hb0.out.size) (H3.out.up Hb0.out Hb0.out.size) _ (fun w1 hb1 => ?_)
    rw [sameG_yes]
    have hz1 := hb1.size
    rw [Hz0.out] at hb1 hz1
    obtain ⟨p0, p1⟩ := cells_blk ((hb1.block _ (by omega)).trans HP.out)
    obtain ⟨q0, q1⟩ := cells_blk ((hb1.block _ (by omega)).trans HQ.out)
    have Hb1 := Lib.hid hb1
    clear hb1 HW
    go_wp2
    go_meet
    exact ⟨rfl, Hb1.out⟩
  case rest =>
    rename World => w1
    obtain ⟨rfl, hb1⟩ := hcut
    have Hb1 := Lib.hid hb1
    have HK : Hid (∀ W, Below (w.heap.size + 2) W0 W → Below w.heap.size w W) := Lib.hid fun W h => Hb0.out.trans (h.mono (by omega))
    clear hb1 p0 p1 q0 q1
    go_wp2
    go_loopg [5] o.routines.length (fun g i wr => ∃ k : Nat, k ≤ o.routines.length ∧ g = o.routines.length - k ∧ i = .int .i64 k ∧ Below (w.heap.size + 2) W0 wr)
    case atStart => exact ⟨0, Nat.zero_le _, rfl, rfl, Hb1.out⟩
    case round =>
      obtain ⟨k, hk, rfl, rfl, hbel⟩ := hrel
      have hz := hbel.size
      rw [Hz0.out] at hz
      have hbw := HK.out _ hbel
      obtain ⟨p0, p1⟩ := cells_blk ((hbel.block _ (by have := Hz0.out; omega)).trans HP.out)
      obtain ⟨q0, q1⟩ := cells_blk ((hbel.block _ (by have := Hz0.out; omega)).trans HQ.out)
      have Hb := Lib.hid hbel
      have i1 : (0 : Int) ≤ (k : Int) := Int.natCast_nonneg _
      have hzw : w.heap.size < wr.heap.size := by omega
      have hzw1 : w.heap.size + 1 < wr.heap.size := by omega
      by_cases hlt : k < o.routines.length
      · obtain ⟨b1, o1, x, v1, rfl, hb1, e1, g1, r0, r1⟩ := H2.out.routine_at hlt
        obtain ⟨b2, o2, y, v3, rfl, hb2, e2, g3, r2, r3⟩ := H4.out.routine_at hlt
        obtain rfl : x = y := Option.some.inj (e1.symm.trans e2)
        obtain ⟨A5, n5, rfl, hm5, hcap5, g1⟩ := g1.cases_
        obtain ⟨A7, n7, rfl, hm7, hcap7, g3⟩ := g3.cases_
        have s0 := (hbw.cell (p := ⟨b1, o1 + k * 2, none⟩) hb1).trans r0
        have s1 := (hbw.cell (p := ⟨b1, o1 + k * 2 + 1, none⟩) hb1).trans r1
        have t0 := (hbw.cell (p := ⟨b2, o2 + k * 2, none⟩) hb2).trans r2
        have t1 := (hbw.cell (p := ⟨b2, o2 + k * 2 + 1, none⟩) hb2).trans r3
        have i2 : (k : Int) < (o.routines.length : Int) := by omega
        have k1 := conv_bytes (P := Tryz.prog) Tryz.underlying25 Tryz.underlying5 Tryz.underlying9 (g1.up (B' := wr.heap.size) hbw (by omega))
        have k2 := conv_bytes (P := Tryz.prog) Tryz.underlying25 Tryz.underlying5 Tryz.underlying9 (g3.up (B' := wr.heap.size) hbw (by omega))
        have hbd : Below (w.heap.size + 2) W0 wr.drew := hbel.drew
        have k3 := conv_bytes (P := Tryz.prog) Tryz.underlying25 Tryz.underlying5 Tryz.underlying9 (g1.up (B' := wr.heap.size) (HK.out _ hbd) (by omega))
        have k4 := conv_bytes (P := Tryz.prog) Tryz.underlying25 Tryz.underlying5 Tryz.underlying9 (g3.up (B' := wr.heap.size) (HK.out _ hbd) (by omega))
        have hS0 : wr.cell? ⟨w.heap.size, 1, none⟩ = some (.slice (some ⟨b1, o1, none⟩) o.routines.length n2) ∧ wr.cell? ⟨w.heap.size + 1, 1, none⟩ = some (.slice (some ⟨b2, o2, none⟩) o.routines.length n4) ∧ wr.cell? ⟨b1, o1 + k * 2, none⟩ = some (.string x.name) ∧ wr.cell? ⟨b2, o2 + k * 2, none⟩ = some (.string x.name) ∧ wr.cell? ⟨b1, o1 + k * 2 + 1, none⟩ = some (.slice A5 x.code.length n5) ∧ wr.cell? ⟨b2, o2 + k * 2 + 1, none⟩ = some (.slice A7 x.code.length n7) ∧ (convert 25 9 (.slice A5 x.code.length n5)).run Tryz.prog wr = .ok (.string (strL x.code)) wr ∧ (convert 25 9 (.slice A7 x.code.length n7)).run Tryz.prog wr = .ok (.string (strL x.code)) wr := ⟨p1, q1, s0, t0, s1, t1, k1, k2⟩
        have hS1 : wr.drew.cell? ⟨w.heap.size, 1, none⟩ = some (.slice (some ⟨b1, o1, none⟩) o.routines.length n2) ∧ wr.drew.cell? ⟨w.heap.size + 1, 1, none⟩ = some (.slice (some ⟨b2, o2, none⟩) o.routines.length n4) ∧ wr.drew.cell? ⟨b1, o1 + k * 2, none⟩ = some (.string x.name) ∧ wr.drew.cell? ⟨b2, o2 + k * 2, none⟩ = some (.string x.name) ∧ wr.drew.cell? ⟨b1, o1 + k * 2 + 1, none⟩ = some (.slice A5 x.code.length n5) ∧ wr.drew.cell? ⟨b2, o2 + k * 2 + 1, none⟩ = some (.slice A7 x.code.length n7) ∧ (convert 25 9 (.slice A5 x.code.length n5)).run Tryz.prog wr.drew = .ok (.string (strL x.code)) wr.drew ∧ (convert 25 9 (.slice A7 x.code.length n7)).run Tryz.prog wr.drew = .ok (.string (strL x.code)) wr.drew := ⟨p1, q1, s0, t0, s1, t1, k3, k4⟩
        clear e1 e2 g1 g3 r0 r1 r2 r3 hbel hbw hbd k1 k2 k3 k4
        go_wp2
        go_region_held3 (fun W : World => W.cell? ⟨w.heap.size, 1, none⟩ = some (.slice (some ⟨b1, o1, none⟩) o.routines.length n2) ∧ W.cell? ⟨w.heap.size + 1, 1, none⟩ = some (.slice (some ⟨b2, o2, none⟩) o.routines.length n4) ∧ W.cell? ⟨b1, o1 + k * 2, none⟩ = some (.string x.name) ∧ W.cell? ⟨b2, o2 + k * 2, none⟩ = some (.string x.name) ∧ W.cell? ⟨b1, o1 + k * 2 + 1, none⟩ = some (.slice A5 x.code.length n5) ∧ W.cell? ⟨b2, o2 + k * 2 + 1, none⟩ = some (.slice A7 x.code.length n7) ∧ (convert 25 9 (.slice A5 x.code.length n5)).run Tryz.prog W = .ok (.string (strL x.code)) W ∧ (convert 25 9 (.slice A7 x.code.length n7)).run Tryz.prog W = .ok (.string (strL x.code)) W) (first | with_reducible exact hS0 | with_reducible exact hS1) (fail)
        all_goals
          go_wp2
          go_roundg (o.routines.length - (k + 1))
          case measure => omega
          case rel =>
            have hb := Hb.out
            refine ⟨k + 1, hlt, rfl, by go_num, ?_⟩
            exact bl0
      · obtain rfl : k = o.routines.length := by omega
        have hr := HR.out _ hbw
        clear hbw hbel
        go_wp2
        exact hr
end Go.Proofs.YtcakodemngchpaaGreatDoor
