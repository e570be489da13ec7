/- LinkFault, as the document says it. -/
import Derived.Test.YtfhnmbnniklmiaaDoorBase
import Derived.Test.YtfhnmbnniklmiaaDoorRows
import Derived.IntWalk
import Derived.Deep.LoopGhost
import Derived.Deep.CutBlock
import Derived.Deep.DeepCutAuto
import Derived.Deep.RegionHeld3
import Derived.Outline
import Derived.Test.YtfhnmbnniklmiaaDoorLink1
import Derived.Test.YtfhnmbnniklmiaaDoorObjA
import Derived.Test.YtfhnmbnniklmiaaDoorSameA
namespace Go.Proofs.YtfhnmbnniklmiaaDoor
open Go.RowKit
set_option linter.unusedSimpArgs false
set_option linter.unusedVariables false

set_option maxRecDepth 100000 in
set_option maxHeartbeats 4000000 in
theorem LinkFault_calls (l : List Object) (v : Value) (w : World) (h : rpObject.SL w w.heap.size l v) (R : Ending → World → Prop)
    (hR : ∀ w', Below w.heap.size w w' → R (.returned (.agg #[.int .i64 (linkF l).1, .int .i64 (linkF l).2])) w') : Calls Tryd.prog 36 #[v] w R := by
  obtain ⟨A, c, rfl, hm, hcap, h⟩ := h.cases_
  have HR := Lib.hid hR
  have H := Lib.hid h
  obtain ⟨W0, hW0⟩ : ∃ W0, W0 = w.alloc (Obj.cells #[.int .i64 0, .int .i64 0] 25) := ⟨_, rfl⟩
  have hb0 : Below w.heap.size w W0 := by subst hW0; exact bl0
  have hz0 : W0.heap.size = w.heap.size + 1 := by subst hW0; simp
  have hQ : W0.heap[w.heap.size]? = some (.cells #[.int .i64 0, .int .i64 0] 25 (0, 0)) := by subst hW0; exact heap_alloc_new _ _
  have HW := Lib.hid hW0.symm
  have HQ := Lib.hid hQ
  have Hb0 := Lib.hid hb0
  have Hz0 := Lib.hid hz0
  have HF : Hid (∀ (W : World) (c a : Int), Below W0.heap.size W0 W → linkF l = (c, a) → R (.returned (.agg #[.int .i64 c, .int .i64 a])) ((W.setCell ⟨w.heap.size, 0, none⟩ (.int .i64 c)).setCell ⟨w.heap.size, 1, none⟩ (.int .i64 a))) := Lib.hid fun W c a hb e => by
    have := HR.out ((W.setCell ⟨w.heap.size, 0, none⟩ (.int .i64 c)).setCell ⟨w.heap.size, 1, none⟩ (.int .i64 a)) (((Hb0.out.trans (hb.mono (by rw [Hz0.out]; omega))).setCell (p := ⟨w.heap.size, 0, none⟩) (Nat.le_refl _) _).setCell (p := ⟨w.heap.size, 1, none⟩) (Nat.le_refl _) _)
    rw [e] at this
    exact this
  obtain ⟨q0, q1, z0, z1⟩ := cells_of_block hQ
  have hl0 : w.heap.size < W0.heap.size := by omega
  clear hR h hW0 hb0 hQ
  by_cases e0 : l.length = 0
  · have i0 : ((l.length : Int) == 0) = true := by simp [e0]
    have hfin := Lib.hid (HF.out W0 6 0 (Below.refl _ _) (by unfold linkF; rw [if_pos e0]))
    clear e0 hz0
    go_enter Tryd.func36, Tryd.ntmps36
    go_upto_region 1 with fail
    rw [HW.out]
    go_wp2
    exact bodyPost_ret (v := .agg #[.int .i64 6, .int .i64 0]) (res_Fault (by rfl) (by rfl) (cells_blk (blkp HQ.out))) rfl hfin.out
  have i0 : ((l.length : Int) == 0) = false := by simp [e0]
  by_cases e1 : 12 < l.length
  · have i1 : (12 : Int) < (l.length : Int) := by omega
    have hfin := Lib.hid (HF.out W0 2 0 (Below.refl _ _) (by unfold linkF; rw [if_neg e0, if_pos e1]))
    clear e0 e1 hz0
    go_enter Tryd.func36, Tryd.ntmps36
    go_upto_region 1 with fail
    rw [HW.out]
    go_wp2
    exact bodyPost_ret (v := .agg #[.int .i64 2, .int .i64 0]) (res_Fault (by rfl) (by rfl) (cells_blk (blkp HQ.out))) rfl hfin.out
  have i1 : ¬ (12 : Int) < (l.length : Int) := by omega
  have hlf : linkF l = linkFrom l (l.length - 0) 0 := by unfold linkF; rw [if_neg e0, if_neg e1]; rfl
  have Hlf := Lib.hid hlf
  have hpos : 0 < l.length := by omega
  obtain ⟨b, off, o0, g1, g2, rfl, hb, ez, hg1, _, c0, _⟩ := H.out.object_at (k := 0) hpos
  rw [Nat.zero_mul, Nat.add_zero] at c0
  obtain ⟨G1, gn1, rfl, _, _, hg1⟩ := hg1.cases_
  have hd0 : (l.getD 0 ⟨[], []⟩) = o0 := by rw [List.getD_eq_getElem?_getD, ez]; rfl
  have Hd0 := Lib.hid hd0
  have Hg1 := Lib.hid hg1
  clear e0 e1 hlf ez hd0 hg1 q0 q1 z0 z1
  go_enter Tryd.func36, Tryd.ntmps36
  go_upto_region 1 with fail
  rw [HW.out]
  go_wp2_with fail
  go_loopg [3, 4, 5] l.length (fun g s3 s4 s5 wr => ∃ k : Nat, k ≤ l.length ∧ g = l.length - k ∧ s3 = .int .i64 (k : Int) ∧ linkF l = linkFrom l (l.length - k) k ∧ Below W0.heap.size W0 wr)
  case atStart => exact ⟨0, Nat.zero_le _, rfl, rfl, Hlf.out, Below.refl _ _⟩
  case round =>
    obtain ⟨k, hk, rfl, rfl, hlk, hbel⟩ := hrel
    have Hlk := Lib.hid hlk
    have Hbel := Lib.hid hbel
    have hbw := Hb0.out.trans (hbel.mono (by omega))
    have Hbw := Lib.hid hbw
    have hz := hbel.size
    have hQr := (hbel.block _ (by omega)).trans HQ.out
    have HQr := Lib.hid hQr
    obtain ⟨q0, q1, z0, z1⟩ := cells_of_block hQr
    have hlr : w.heap.size < wr.heap.size := by omega
    have j1 : (0 : Int) ≤ (k : Int) := Int.natCast_nonneg _
    clear hlk hbel hQr
    by_cases hlt : k < l.length
    · obtain ⟨b', off', o, v1, v2, hA, _, e, h1, h2, r0, r1⟩ := H.out.object_at hlt
      cases hA
      obtain ⟨A1, n1, rfl, _, _, h1⟩ := h1.cases_
      obtain ⟨A2, n2, rfl, _, _, h2⟩ := h2.cases_
      have p0 := (hbw.cell (p := ⟨b, off + k * 2, none⟩) hb).trans r0
      have p1 := (hbw.cell (p := ⟨b, off + k * 2 + 1, none⟩) hb).trans r1
      have j2 : (k : Int) < (l.length : Int) := by omega
      have E := Lib.hid e
      have H1 := Lib.hid h1
      have H2 := Lib.hid h2
      have HSS : Hid (∀ W, Below w.heap.size w W → (fun W : World => W.cell? ⟨b, off + k * 2, none⟩ = some (.slice A1 o.globals.length n1) ∧ W.cell? ⟨b, off + k * 2 + 1, none⟩ = some (.slice A2 o.sections.length n2) ∧ W.cell? ⟨b, off, none⟩ = some (.slice G1 o0.globals.length gn1) ∧ Hid (Below w.heap.size w W)) W) := Lib.hid fun W h =>
        ⟨(h.cell (p := ⟨b, off + k * 2, none⟩) hb).trans r0, (h.cell (p := ⟨b, off + k * 2 + 1, none⟩) hb).trans r1, (h.cell (p := ⟨b, off, none⟩) hb).trans c0, Lib.hid h⟩
      obtain ⟨F, hF⟩ : ∃ F, F = objFault o := ⟨_, rfl⟩
      have hFz := objFault_fst o
      rw [← hF] at hFz
      have HFo := Lib.hid hF
      clear r0 r1 e h1 h2 hF
      go_wp2_with fail
      refine ObjectCheck_calls o _ _ _ (H1.out.up Hbw.out Hbw.out.size) (H2.out.up Hbw.out Hbw.out.size) _ (fun w1 hb1 => ?_)
      rw [← HFo.out]
      obtain ⟨fc, fa⟩ := F
      simp only [] at hFz ⊢
      obtain ⟨W1, hW1⟩ : ∃ W1, W1 = w1.alloc (Obj.cells #[.int .i64 fc, .int .i64 fa] 25) := ⟨_, rfl⟩
      have hz1 := hb1.size
      have hV1 : W1.heap[w1.heap.size]? = some (.cells #[.int .i64 fc, .int .i64 fa] 25 (0, 0)) := by subst hW1; exact heap_alloc_new _ _
      have hbW1 : Below wr.heap.size wr W1 := by subst hW1; exact bl0
      have hB1 := Hbel.out.trans (hbW1.mono Hbel.out.size)
      have hQ1 := (hbW1.block _ hlr).trans HQr.out
      have hlV : w1.heap.size < W1.heap.size := blk_lt hV1
      have hlQ : w.heap.size < W1.heap.size := blk_lt hQ1
      have HW1 := Lib.hid hW1.symm
      have HB1 := Lib.hid hB1
      have HQ1 := Lib.hid hQ1
      have HV1 := Lib.hid hV1
      have Hbw1 := Lib.hid (Hbw.out.trans (hbW1.mono Hbw.out.size))
      clear hb1 hW1 hbW1 hB1 p0 p1 q0 q1 z0 z1
      obtain ⟨f0, f1, _, _⟩ := cells_of_block hV1
      obtain ⟨q0, q1, z0, z1⟩ := cells_of_block hQ1
      clear hV1 hQ1
      go_upto_region 9 with fail
      rw [HW1.out]
      by_cases hc : fc = 0
      rotate_left
      · have hcb : (fc != 0) = true := by simp [hc]
        have hfin := Lib.hid (HF.out W1 fc (k : Int) HB1.out (by
          have ha : linkAt l k o = (fc, (k : Int)) := by
            unfold linkAt
            rw [← HFo.out, if_pos hc]
          rw [Hlk.out, linkFrom_stop E.out (by rw [ha]; exact hc), ha]))
        clear hc hFz
        go_wp2
        exact bodyPost_ret (v := .agg #[.int .i64 fc, .int .i64 (k : Int)]) (res_Fault (by rfl) (by rfl) (cells_blk (blkp HQ1.out))) rfl hfin.out
      · have he := hFz hc
        cases he
        clear hFz hc
        obtain ⟨q, hq⟩ : ∃ q, q = sameG o.globals o0.globals := ⟨_, rfl⟩
        have Hq := Lib.hid hq
        clear hq
        have hS0 := HSS.out W1 Hbw1.out
        have hS1 := HSS.out W1.drew Hbw1.out.drew
        go_upto_region 11 with fail
        go_region_held3 (fun W : World => W.cell? ⟨b, off + k * 2, none⟩ = some (.slice A1 o.globals.length n1) ∧ W.cell? ⟨b, off + k * 2 + 1, none⟩ = some (.slice A2 o.sections.length n2) ∧ W.cell? ⟨b, off, none⟩ = some (.slice G1 o0.globals.length gn1) ∧ Hid (Below w.heap.size w W)) (first | with_reducible exact hS0 | with_reducible exact hS1 | with_reducible exact hS5) (first
          | (go_at_call 44; obtain ⟨_, _, _, he⟩ := ‹_ ∧ _ ∧ _ ∧ Hid (Below w.heap.size w _)›; refine SameGlobals_calls o.globals o0.globals _ _ _ (H1.out.up he.out he.out.size) (Hg1.out.up he.out he.out.size) _ ?_; intro w5 hb5; rw [← Hq.out]; have hB5 := he.out.trans (hb5.mono he.out.size); have hS5 := HSS.out w5 hB5; have hBB5 : Below W1.heap.size W1 w5 := (by first | exact hb5 | exact (Below.refl W1.heap.size W1).drew.trans hb5); have Hb5 := Lib.hid hBB5; clear hb5 hB5 hBB5))
        all_goals
          have hz5 := Hb5.out.size
          have hQ5 := (Hb5.out.block _ hlQ).trans HQ1.out
          have hB5 := HB1.out.trans (Hb5.out.mono HB1.out.size)
          have hbw5 := Hbw1.out.trans (Hb5.out.mono Hbw1.out.size)
          have HQ5 := Lib.hid hQ5
          have HB5 := Lib.hid hB5
          have Hbw5 := Lib.hid hbw5
          have hlQ5 : w.heap.size < w5.heap.size := by omega
          clear q0 q1 z0 z1 f0 f1 hS0 hS1 hB5 hbw5
          obtain ⟨q0, q1, z0, z1⟩ := cells_of_block hQ5
          clear hQ5
          cases q
          · have hfin := Lib.hid (HF.out w5 5 (k : Int) HB5.out (by
              have ha : linkAt l k o = (5, (k : Int)) := by
                unfold linkAt
                rw [← HFo.out, if_neg (by simp), Hd0.out, ← Hq.out, if_pos rfl]
              rw [Hlk.out, linkFrom_stop E.out (by rw [ha]; simp), ha]))
            go_wp2
            exact bodyPost_ret (v := .agg #[.int .i64 5, .int .i64 (k : Int)]) (res_Fault (by rfl) (by rfl) (cells_blk (blkp HQ5.out))) rfl hfin.out
          · clear q0 q1 z0 z1
            have hS5' := hS5
            clear hS5
            go_wp2_with fail
            go_loopg [5] o.sections.length (fun gi s5 wi => ∃ j : Nat, j ≤ o.sections.length ∧ gi = o.sections.length - j ∧ s5 = .int .i64 (j : Int) ∧ ((o.sections.take j).any fun s => hasS (allS (l.take k)) s.name) = false ∧ Below w5.heap.size w5 wi)
            case atStart => exact ⟨0, Nat.zero_le _, rfl, rfl, rfl, Below.refl _ _⟩
            case round =>
              rename World => wi
              obtain ⟨j, hj, rfl, rfl, hany, hbi⟩ := hrel
              have hwi := Hbw5.out.trans (hbi.mono Hbw5.out.size)
              obtain ⟨_, p1, _, _⟩ := HSS.out wi hwi
              have Hany := Lib.hid hany
              have Hbi := Lib.hid hbi
              have Hwi := Lib.hid hwi
              have j3 : (0 : Int) ≤ (j : Int) := Int.natCast_nonneg _
              have hQi := (hbi.block _ hlQ5).trans HQ5.out
              have HQi := Lib.hid hQi
              have hlQi : w.heap.size < wi.heap.size := blk_lt hQi
              clear hany hbi
              by_cases hjl : j < o.sections.length
              · obtain ⟨b2, off2, s, u1, u2, rfl, hb2, e2, _, _, t0, _, _⟩ := H2.out.section_at hjl
                have p2 := (hwi.cell (p := ⟨b2, off2 + j * 3, none⟩) hb2).trans t0
                have j4 : (j : Int) < (o.sections.length : Int) := by omega
                have how := owner_lt E.out (show s ∈ o.sections from (List.getElem?_eq_some_iff.1 e2).2 ▸ List.getElem_mem _)
                have hst := any_step (fun s : Section => hasS (allS (l.take k)) s.name) e2
                have Hst := Lib.hid hst
                have How := Lib.hid how
                have E2 := Lib.hid e2
                clear hwi t0 how hst e2 hQi
                go_wp2_with fail
                refine Owner_calls l _ s.name _ (H.out.up Hwi.out Hwi.out.size) _ (fun w6 hb6 => ?_)
                have hb66 := Hbi.out.trans (hb6.mono Hbi.out.size)
                have Hb66 := Lib.hid hb66
                have hQ6 := (hb66.block _ hlQ5).trans HQ5.out
                have HQ6 := Lib.hid hQ6
                obtain ⟨q0, q1, z0, z1⟩ := cells_of_block hQ6
                have hlQ6 : w.heap.size < w6.heap.size := blk_lt hQ6
                have how := How.out
                generalize ownerL l s.name = r at *
                cases hx : hasS (allS (l.take k)) s.name with
                | true =>
                  rw [hx] at how
                  have hr : r < (k : Int) := of_decide_eq_true how
                  have hfin := Lib.hid (HF.out w6 7 (k : Int) (HB5.out.trans (hb66.mono HB5.out.size)) (by
                    have ha : linkAt l k o = (7, (k : Int)) := by
                      unfold linkAt
                      rw [← HFo.out, if_neg (by simp), Hd0.out, ← Hq.out, if_neg (by simp), if_pos]
                      rw [List.any_eq_true]
                      exact ⟨s, (List.getElem?_eq_some_iff.1 E2.out).2 ▸ List.getElem_mem _, hx⟩
                    rw [Hlk.out, linkFrom_stop E.out (by rw [ha]; simp), ha]))
                  clear how hx hb6 hb66 hQ6 p1 p2
                  go_wp2
                  exact bodyPost_ret (v := .agg #[.int .i64 7, .int .i64 (k : Int)]) (res_Fault (by rfl) (by rfl) (cells_blk (blkp HQ6.out))) rfl hfin.out
                | false =>
                  rw [hx] at how
                  have hr : ¬ r < (k : Int) := of_decide_eq_false how
                  have hst2 : ((o.sections.take (j + 1)).any fun s => hasS (allS (l.take k)) s.name) = false := by rw [Hst.out, Hany.out, hx]; rfl
                  have Hst2 := Lib.hid hst2
                  clear how hx hb6 hb66 hQ6 p1 p2 q0 q1 z0 z1 hst2
                  go_wp2
                  go_roundg (o.sections.length - (j + 1))
                  case measure => omega
                  case rel => exact ⟨j + 1, hjl, rfl, by go_num, Hst2.out, Hb66.out⟩
              · obtain rfl : j = o.sections.length := by omega
                rw [List.take_length] at Hany
                have hlink : linkF l = linkFrom l (l.length - (k + 1)) (k + 1) := by
                  rw [Hlk.out]
                  refine linkFrom_step E.out ?_
                  unfold linkAt
                  rw [← HFo.out, if_neg (by simp), Hd0.out, ← Hq.out, if_neg (by simp), if_neg (by rw [Hany.out]; simp)]
                have Hlink := Lib.hid hlink
                have Hbx := Lib.hid (HB5.out.trans (Hbi.out.mono HB5.out.size))
                clear hwi hQi hlink
                go_wp2
                go_roundg (l.length - (k + 1))
                case measure => omega
                case rel => exact ⟨k + 1, hlt, rfl, by go_num, Hlink.out, Hbx.out⟩
    · obtain rfl : k = l.length := by omega
      have hfin := Lib.hid (HF.out wr 0 0 Hbel.out (by rw [Hlk.out, linkFrom_end]))
      clear Hlk
      go_wp2
      exact bodyPost_ret (v := .agg #[.int .i64 0, .int .i64 0]) (res_Fault (by rfl) (by rfl) (cells_blk (blkp HQr.out))) rfl hfin.out
end Go.Proofs.YtfhnmbnniklmiaaDoor
