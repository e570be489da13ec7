/- What is wrong with objects that are to stand together: bundle.fault, and the reference's BundleFault. -/
import Derived.Test.YtfhnmbnniklmiaaDoorBase
import Derived.Test.YtfhnmbnniklmiaaDoorRows
import Derived.IntWalk
import Derived.Deep.LoopGhost
import Derived.Deep.CutBlock
import Derived.Deep.DeepCutAuto
import Derived.Outline
import Derived.Test.YtfhnmbnniklmiaaDoorBun2
import Derived.Test.YtfhnmbnniklmiaaDoorLink2
namespace Go.Proofs.YtfhnmbnniklmiaaDoor
open Go.RowKit
set_option linter.unusedSimpArgs false
set_option linter.unusedVariables false

theorem nodup_upto {l : List Object} : ∀ (k : Nat), (∀ j o, j < k → l[j]? = some o → BunOkAt l j o) → ((allS (l.take k)).map (·.name)).Nodup
  | 0, _ => by simp [allS]
  | k + 1, h => by
    have ih := nodup_upto k fun j o hj ho => h j o (by omega) ho
    cases e : l[k]? with
    | none =>
      have h1 : l.length ≤ k := List.getElem?_eq_none_iff.1 e
      rw [List.take_of_length_le h1] at ih
      rwa [List.take_of_length_le (by omega)]
    | some o =>
      rw [names_step e (h k o (by omega) e).ok ih, List.any_eq_false]
      intro s hs
      rw [(h k o (by omega) e).new s hs]
      simp
theorem pairsTo_len {l : List Object} : ∀ (k : Nat), (∀ j o, j < k → l[j]? = some o → o.sections.length ≤ 40) → (pairsTo l k).length ≤ 40 * k
  | 0, _ => by simp [pairsTo]
  | k + 1, h => by
    have ih := pairsTo_len k fun j o hj ho => h j o (by omega) ho
    rw [pairsTo, List.length_append]
    cases e : l[k]? with
    | none => simp; omega
    | some o =>
      have := h k o (by omega) e
      simp only [pairsAt, List.length_map]
      omega
theorem pairs_take {l : List Object} {n : Nat} : ∀ (k : Nat), k ≤ n → pairsTo (l.take n) k = pairsTo l k
  | 0, _ => rfl
  | k + 1, h => by rw [pairsTo, pairsTo, pairs_take k (by omega), List.getElem?_take, if_pos (by omega)]
theorem take_nodup {l : List Object} {k : Nat} (hk : k < l.length) : ((pairsTo (l.take (k + 1)) (l.take (k + 1)).length).map Prod.fst).Nodup ↔ ((allS (l.take (k + 1))).map (·.name)).Nodup := by
  rw [List.length_take, Nat.min_eq_left (by omega), pairs_take (k + 1) (Nat.le_refl _), pairsTo_names]

set_option maxRecDepth 100000 in
set_option maxHeartbeats 4000000 in
theorem bunFault_calls (l : List Object) (v : Value) (w : World) (h : rpObject.SL w w.heap.size l v) (hS : Shapes w) (R : Ending → World → Prop)
    (hR : ∀ w', Below w.heap.size w w' → R (.returned (.agg #[.int .i64 (bunF l).1, .int .i64 (bunF l).2])) w') : Calls Tryd.prog 45 #[v] w R := by
  have h0 := hS.1
  obtain ⟨A, c, rfl, hm, hcap, h⟩ := h.cases_
  have HR := Lib.hid hR
  have H := Lib.hid h
  have HSh := Lib.hid hS
  obtain ⟨W0, hW0⟩ : ∃ W0, W0 = w.alloc (Obj.cells #[.int .i64 0, .int .i64 0] 25) := ⟨_, rfl⟩
  have hb0 : Below w.heap.size w W0 := by subst hW0; exact (by repeat (first | exact Below.refl _ _ | assumption | refine below_drewN ?_ _ | refine Below.drew ?_ | refine Below.setCell ?_ (by first | omega | (simp; done) | (simp; omega)) _ | refine Below.alloc ?_ (by first | omega | (simp; done) | (simp; omega)) _ | refine below_step (by assumption) ?_ (by first | omega | (simp; done) | (simp; omega))))
  have hz0 : W0.heap.size = w.heap.size + 1 := by subst hW0; simp
  have hQ : W0.heap[w.heap.size]? = some (.cells #[.int .i64 0, .int .i64 0] 25 (0, 0)) := by subst hW0; exact heap_alloc_new _ _
  have HW := Lib.hid hW0.symm
  have HQ := Lib.hid hQ
  have Hb0 := Lib.hid hb0
  have Hz0 := Lib.hid hz0
  have hl0 : w.heap.size < W0.heap.size := by omega
  have HF : Hid (∀ (W : World) (c a : Int), Below W0.heap.size W0 W → bunF l = (c, a) → R (.returned (.agg #[.int .i64 c, .int .i64 a])) ((W.setCell ⟨w.heap.size, 0, none⟩ (.int .i64 c)).setCell ⟨w.heap.size, 1, none⟩ (.int .i64 a))) := Lib.hid fun W c a hb e => by
    have := HR.out ((W.setCell ⟨w.heap.size, 0, none⟩ (.int .i64 c)).setCell ⟨w.heap.size, 1, none⟩ (.int .i64 a)) (((Hb0.out.trans (hb.mono (by rw [Hz0.out]; omega))).setCell (p := ⟨w.heap.size, 0, none⟩) (Nat.le_refl _) _).setCell (p := ⟨w.heap.size, 1, none⟩) (Nat.le_refl _) _)
    rw [e] at this
    exact this
  clear hR h hS hW0 hb0 hQ
  by_cases e1 : 12 < l.length
  · have i1 : (12 : Int) < (l.length : Int) := by omega
    have hbF : bunF l = (2, 0) := by unfold bunF; rw [if_pos e1]
    have HbF := Lib.hid hbF
    clear e1 hz0 hbF
    go_enter Tryd.func45, Tryd.ntmps45
    go_upto_region 1 with fail
    rw [HW.out]
    go_wp2_with fail
    refine Fault_calls 2 0 _ _ (fun w6 hb6 => ?_)
    have hQ6 := (hb6.block _ hl0).trans HQ.out
    have hfin := Lib.hid (HF.out w6 2 0 hb6 HbF.out)
    have HQ6 := Lib.hid hQ6
    obtain ⟨q0, q1, z0, z1⟩ := cells_of_block hQ6
    have hl6 := blk_lt hQ6
    clear hb6 hQ6
    go_wp2
    exact bodyPost_ret (v := .agg #[.int .i64 2, .int .i64 0]) (res_Fault (by rfl) (by rfl) (cells_blk (by repeat (first | with_reducible exact HQ6.out | with_reducible refine blk_drew ?_ | with_reducible refine blk_drewN ?_ _ | with_reducible refine blk_alloc ?_ _ | with_reducible apply blk_set1 | with_reducible apply blk_set0 | with_reducible refine blk_other ?_ (by first | (simp; done) | omega | (simp; omega)) _)))) rfl hfin.out
  have hl12 : l.length ≤ 12 := by omega
  have i1 : ¬ (12 : Int) < (l.length : Int) := by omega
  have hlf : bunF l = bunFrom l (l.length - 0) 0 := by unfold bunF; rw [if_neg e1]; rfl
  have Hlf := Lib.hid hlf
  clear e1 hlf
  go_enter Tryd.func45, Tryd.ntmps45
  go_upto_region 1 with fail
  rw [HW.out]
  go_wp2_with fail
  go_loopg [3, 4, 5, 6, 7, 14] l.length (fun g s3 s4 s5 s6 s7 s14 wr => ∃ k : Nat, k ≤ l.length ∧ g = l.length - k ∧ s14 = .int .i64 (k : Int) ∧ bunF l = bunFrom l (l.length - k) k ∧ (∀ j o, j < k → l[j]? = some o → BunOkAt l j o) ∧ Below W0.heap.size W0 wr)
  case atStart => exact ⟨0, Nat.zero_le _, rfl, rfl, Hlf.out, fun j o h => absurd h (Nat.not_lt_zero _), Below.refl _ _⟩
  case round =>
    obtain ⟨k, hk, rfl, rfl, hlk, hpre, hbel⟩ := hrel
    have Hlk := Lib.hid hlk
    have Hpre := Lib.hid hpre
    have Hbel := Lib.hid hbel
    have hbw := Hb0.out.trans (hbel.mono (by omega))
    have Hbw := Lib.hid hbw
    have hz := hbel.size
    have hlr : w.heap.size < wr.heap.size := by omega
    have j1 : (0 : Int) ≤ (k : Int) := Int.natCast_nonneg _
    by_cases hlt : k < l.length
    · obtain ⟨b, off, o, v1, v2, rfl, hb, e, h1, h2, r0, r1⟩ := H.out.object_at hlt
      obtain ⟨A1, n1, rfl, _, _, h1⟩ := h1.cases_
      obtain ⟨A2, n2, rfl, _, _, h2⟩ := h2.cases_
      have p0 := (hbw.cell (p := ⟨b, off + k * 2, none⟩) hb).trans r0
      have p1 := (hbw.cell (p := ⟨b, off + k * 2 + 1, none⟩) hb).trans r1
      have j2 : (k : Int) < (l.length : Int) := by omega
      have E := Lib.hid e
      have H1 := Lib.hid h1
      have H2 := Lib.hid h2
      obtain ⟨F, hF⟩ : ∃ F, F = objFault o := ⟨_, rfl⟩
      have hFz := objFault_fst o
      rw [← hF] at hFz
      have HFo := Lib.hid hF
      obtain ⟨W3, hW3⟩ : ∃ W3, W3 = wr.alloc (Obj.cells #[.slice A1 o.globals.length n1, .slice A2 o.sections.length n2] 47) := ⟨_, rfl⟩
      have hV3 : W3.heap[wr.heap.size]? = some (.cells #[.slice A1 o.globals.length n1, .slice A2 o.sections.length n2] 47 (0, 0)) := by subst hW3; exact heap_alloc_new _ _
      have hb3 : Below wr.heap.size wr W3 := by subst hW3; exact (by repeat (first | exact Below.refl _ _ | assumption | refine below_drewN ?_ _ | refine Below.drew ?_ | refine Below.setCell ?_ (by first | omega | (simp; done) | (simp; omega)) _ | refine Below.alloc ?_ (by first | omega | (simp; done) | (simp; omega)) _ | refine below_step (by assumption) ?_ (by first | omega | (simp; done) | (simp; omega))))
      have HW3 := Lib.hid hW3.symm
      have HV3 := Lib.hid hV3
      have Hb3 := Lib.hid hb3
      have hl3 : wr.heap.size < W3.heap.size := blk_lt hV3
      obtain ⟨u0, u1, _, _⟩ := cells_of_block hV3
      clear r0 r1 e h1 h2 hF hW3 hV3 hb3 hlk hpre hbel hbw
      go_upto_region 6 with fail
      rw [HW3.out]
      clear p0 p1
      have hbw3 := Lib.hid (Hbw.out.trans (Hb3.out.mono Hbw.out.size))
      go_wp2_with fail
      refine objCheck_calls o _ _ _ (H1.out.up hbw3.out hbw3.out.size) (H2.out.up hbw3.out hbw3.out.size) (HSh.out.up hbw3.out h0) _ (fun w4 hb4 => ?_)
      rw [← HFo.out]
      obtain ⟨fc, fa⟩ := F
      simp only [] at hFz ⊢
      obtain ⟨W5, hW5⟩ : ∃ W5, W5 = w4.alloc (Obj.cells #[.int .i64 fc, .int .i64 fa] 25) := ⟨_, rfl⟩
      have hz4 := hb4.size
      have hV5 : W5.heap[w4.heap.size]? = some (.cells #[.int .i64 fc, .int .i64 fa] 25 (0, 0)) := by subst hW5; exact heap_alloc_new _ _
      have hb45 : Below w4.heap.size w4 W5 := by subst hW5; exact (by repeat (first | exact Below.refl _ _ | assumption | refine below_drewN ?_ _ | refine Below.drew ?_ | refine Below.setCell ?_ (by first | omega | (simp; done) | (simp; omega)) _ | refine Below.alloc ?_ (by first | omega | (simp; done) | (simp; omega)) _ | refine below_step (by assumption) ?_ (by first | omega | (simp; done) | (simp; omega))))
      have hb35 : Below W3.heap.size W3 W5 := hb4.trans (hb45.mono hz4)
      have hb5 : Below wr.heap.size wr W5 := Hb3.out.trans (hb35.mono Hb3.out.size)
      have hb05 := Hbel.out.trans (hb5.mono Hbel.out.size)
      have hbw5 := Hbw.out.trans (hb5.mono Hbw.out.size)
      have hQ5 := (hb05.block _ hl0).trans HQ.out
      have HW5 := Lib.hid hW5.symm
      have Hb05 := Lib.hid hb05
      have Hbw5 := Lib.hid hbw5
      have HQ5 := Lib.hid hQ5
      clear u0 u1
      obtain ⟨f0, f1, _, _⟩ := cells_of_block hV5
      obtain ⟨q0, q1, z0, z1⟩ := cells_of_block hQ5
      have hl5 : w4.heap.size < W5.heap.size := blk_lt hV5
      have hlQ5 : w.heap.size < W5.heap.size := blk_lt hQ5
      clear hb4 hW5 hV5 hb45 hb35 hb5 hb05 hbw5 hQ5
      go_upto_region 7 with fail
      rw [HW5.out]
      by_cases hc : fc = 0
      rotate_left
      · have hq : ∀ w, (binOp .neq 25 (.agg #[.int .i64 fc, .int .i64 fa]) (.agg #[.int .i64 0, .int .i64 0])).run Tryd.prog w = .ok (.bool true) w := fun w => by
          rw [neq_Fault]
          simp [hc]
        have hlf : bunF l = (fc, (k : Int)) := by
          have ha : bunAt l k o = (fc, (k : Int)) := by
            unfold bunAt
            rw [← HFo.out, if_pos hc]
          rw [Hlk.out, bunFrom_stop E.out (by rw [ha]; exact hc), ha]
        have Hlf2 := Lib.hid hlf
        clear hc hFz hlf
        go_wp2_with fail
        refine Fault_calls fc (k : Int) _ _ (fun w6 hb6 => ?_)
        have hQ6 := (hb6.block _ hlQ5).trans HQ5.out
        have hfin := Lib.hid (HF.out w6 fc (k : Int) (Hb05.out.trans (hb6.mono Hb05.out.size)) Hlf2.out)
        have HQ6 := Lib.hid hQ6
        clear q0 q1 z0 z1 f0 f1
        obtain ⟨q0, q1, z0, z1⟩ := cells_of_block hQ6
        have hl6 := blk_lt hQ6
        clear hb6 hQ6
        go_wp2
        exact bodyPost_ret (v := .agg #[.int .i64 fc, .int .i64 (k : Int)]) (res_Fault (by rfl) (by rfl) (cells_blk (by repeat (first | with_reducible exact HQ6.out | with_reducible refine blk_drew ?_ | with_reducible refine blk_drewN ?_ _ | with_reducible refine blk_alloc ?_ _ | with_reducible apply blk_set1 | with_reducible apply blk_set0 | with_reducible refine blk_other ?_ (by first | (simp; done) | omega | (simp; omega)) _)))) rfl hfin.out
      · have he := hFz hc
        cases he
        clear hFz hc
        have hq : ∀ w, (binOp .neq 25 (.agg #[.int .i64 0, .int .i64 0]) (.agg #[.int .i64 0, .int .i64 0])).run Tryd.prog w = .ok (.bool false) w := fun w => neq_Fault 0 0 0 0 w
        have hok : ObjOk o := (objOk_iff o).1 HFo.out.symm
        have Hok := Lib.hid hok
        have hnd : ((allS (l.take k)).map (·.name)).Nodup := nodup_upto k Hpre.out
        have hst : ((pairsTo (l.take (k + 1)) (l.take (k + 1)).length).map Prod.fst).Nodup ↔ (o.sections.any fun s => hasS (allS (l.take k)) s.name) = false := (take_nodup hlt).trans (names_step E.out hok hnd)
        have Hst := Lib.hid hst
        have hfew : (pairsTo (l.take (k + 1)) (l.take (k + 1)).length).length ≤ 100000 := by
          rw [List.length_take, Nat.min_eq_left (by omega), pairs_take (k + 1) (Nat.le_refl _)]
          have := pairsTo_len (l := l) (k + 1) fun j o' hj ho => by
            rcases Nat.lt_or_ge j k with h1 | h1
            · exact (Hpre.out j o' h1 ho).ok.few
            · obtain rfl : j = k := by omega
              obtain rfl : o = o' := Option.some.inj (E.out.symm.trans ho)
              exact hok.few
          omega
        have Hfew := Lib.hid hfew
        have Htk := Lib.hid ((H.out.take_ (show k + 1 ≤ l.length by omega)).up Hbw5.out Hbw5.out.size)
        have w1 : IntKind.i64.wrap ((k : Int) + 1) = (k : Int) + 1 := IntWalk.i64_in _ (by omega)
        have htn : ((k : Int) + 1).toNat = k + 1 := by omega
        have b1 : (0 : Int) ≤ (k : Int) + 1 := by omega
        have b2 : (k : Int) + 1 ≤ (c : Int) := by omega
        clear hok hnd hst hfew
        go_wp2_with fail
        refine index_calls (l.take (k + 1)) _ _ Htk.out Hfew.out _ (fun hnd w6 v6 hb6 hown6 => ?_) (fun hnd m w6 hb6 => ?_)
        · obtain ⟨A6, c6, rfl⟩ := own_slice hown6
          have hnew := Hst.out.1 hnd
          have hat : BunOkAt l k o := ⟨Hok.out, fun s hs => by
            have := List.any_eq_false.1 hnew s hs
            simpa using this⟩
          have hlk2 : bunF l = bunFrom l (l.length - (k + 1)) (k + 1) := by
            rw [Hlk.out, bunFrom_step E.out (by rw [bunAt_good hat])]
          have hpre2 : ∀ j o', j < k + 1 → l[j]? = some o' → BunOkAt l j o' := fun j o' hj ho => by
            rcases Nat.lt_or_ge j k with h1 | h1
            · exact Hpre.out j o' h1 ho
            · obtain rfl : j = k := by omega
              obtain rfl : o = o' := Option.some.inj (E.out.symm.trans ho)
              exact hat
          have Hlk2 := Lib.hid hlk2
          have Hpre2 := Lib.hid hpre2
          have Hb6 := Lib.hid (Hb05.out.trans (hb6.mono Hb05.out.size))
          clear hnew hat hlk2 hpre2 hb6 hown6 hnd q0 q1 z0 z1 f0 f1
          go_wp2
          go_roundg (l.length - (k + 1))
          case measure => omega
          case rel => exact ⟨k + 1, hlt, rfl, by go_num, Hlk2.out, Hpre2.out, Hb6.out⟩
        · have hany : (o.sections.any fun s => hasS (allS (l.take k)) s.name) = true := by
            cases hx : o.sections.any fun s => hasS (allS (l.take k)) s.name with
            | true => rfl
            | false => exact absurd (Hst.out.2 hx) hnd
          have hlf : bunF l = (7, (k : Int)) := by
            have ha : bunAt l k o = (7, (k : Int)) := by
              unfold bunAt
              rw [← HFo.out, if_neg (by simp), if_pos hany]
            rw [Hlk.out, bunFrom_stop E.out (by rw [ha]; simp), ha]
          have Hlf2 := Lib.hid hlf
          have Hb6 := Lib.hid (Hb05.out.trans (hb6.mono Hb05.out.size))
          have m0 : (0 : Int) ≤ (m : Int) := Int.natCast_nonneg _
          clear hany hlf hnd hb6 q0 q1 z0 z1 f0 f1
          go_wp2_with fail
          refine Fault_calls 7 (k : Int) _ _ (fun w7 hb7 => ?_)
          have hb07 := Hb6.out.trans (hb7.mono Hb6.out.size)
          have hQ7 := (hb07.block _ hl0).trans HQ.out
          have hfin := Lib.hid (HF.out w7 7 (k : Int) hb07 Hlf2.out)
          have HQ7 := Lib.hid hQ7
          obtain ⟨q0, q1, z0, z1⟩ := cells_of_block hQ7
          have hl7 := blk_lt hQ7
          clear hb7 hQ7 hb07
          go_wp2
          exact bodyPost_ret (v := .agg #[.int .i64 7, .int .i64 (k : Int)]) (res_Fault (by rfl) (by rfl) (cells_blk (by repeat (first | with_reducible exact HQ7.out | with_reducible refine blk_drew ?_ | with_reducible refine blk_drewN ?_ _ | with_reducible refine blk_alloc ?_ _ | with_reducible apply blk_set1 | with_reducible apply blk_set0 | with_reducible refine blk_other ?_ (by first | (simp; done) | omega | (simp; omega)) _)))) rfl hfin.out
    · obtain rfl : k = l.length := by omega
      have j2 : ¬ (l.length : Int) < (l.length : Int) := by omega
      have hQr := (hbel.block _ hl0).trans HQ.out
      have hfin := Lib.hid (HF.out wr 0 0 hbel (by rw [hlk, bunFrom_end]))
      have HQr := Lib.hid hQr
      obtain ⟨q0, q1, z0, z1⟩ := cells_of_block hQr
      clear hlk hpre hbel hbw hQr
      go_wp2
      exact bodyPost_ret (v := .agg #[.int .i64 0, .int .i64 0]) (res_Fault (by rfl) (by rfl) (cells_blk (by repeat (first | with_reducible exact HQr.out | with_reducible refine blk_drew ?_ | with_reducible refine blk_drewN ?_ _ | with_reducible refine blk_alloc ?_ _ | with_reducible apply blk_set1 | with_reducible apply blk_set0 | with_reducible refine blk_other ?_ (by first | (simp; done) | omega | (simp; omega)) _)))) rfl hfin.out
end Go.Proofs.YtfhnmbnniklmiaaDoor
