/- What is wrong with objects that are to stand together: bundle.fault, and the reference's BundleFault. BundleFault, as the document says it. append onto a row of names of the call's own, from any slice of names: the laws for the walk. bundle.pack: the bytes of objects that may stand together. BundleBytes, as the document says it. bundle.Pack and the document's BundlePack; the law that compares them. -/
import Derived.Test.YtfhnmbnniklmiaaDoorBase
import Derived.Test.YtfhnmbnniklmiaaDoorRows
import Derived.IntWalk
import Derived.Deep.LoopGhost
import Derived.Deep.CutBlock
import Derived.Deep.DeepCutAuto
import Derived.Outline
import Derived.Test.YtfhnmbnniklmiaaDoorBunA
import Derived.Test.YtfhnmbnniklmiaaDoorLink2
import Derived.Deep.RegionHeld3
import Derived.Maps.AppendAt
import Derived.Laws.AppendOwnNone
import Derived.Test.YtfhnmbnniklmiaaDoorAppA
import Derived.Test.YtfhnmbnniklmiaaDoorLinkW
import Derived.Lib.SlBytesConst
import Derived.Test.YtfhnmbnniklmiaaDoorSaveA
import Derived.Deep.RegionLaw
import Derived.Test.YtfhnmbnniklmiaaDoorLink1
import Derived.Test.YtfhnmbnniklmiaaDoorReadC
/- What is wrong with objects that are to stand together: bundle.fault, and the reference's BundleFault. -/
namespace Go.Proofs.YtfhnmbnniklmiaaDoor
open Go.RowKit
set_option linter.unusedSimpArgs false
set_option linter.unusedVariables false

theorem nodup_upto {l : List Object} : ∀ (k : Nat), (∀ j o, j < k → l[j]? = some o → BunOkAt l j o) → ((allS (l.take k)).map (·.name)).Nodup
  | 0, _ => by simp [allS]
  | k + 1, h => by
    have ih := nodup_upto k fun j o hj ho => h j o (by omega) ho
    cases e : l[k]? with
    | none =>
      have h1 : l.length ≤ k := List.getElem?_eq_none_iff.1 e
      rw [List.take_of_length_le h1] at ih
      rwa [List.take_of_length_le (by omega)]
    | some o =>
      rw [names_step e (h k o (by omega) e).ok ih, List.any_eq_false]
      intro s hs
      rw [(h k o (by omega) e).new s hs]
      simp
theorem pairsTo_len {l : List Object} : ∀ (k : Nat), (∀ j o, j < k → l[j]? = some o → o.sections.length ≤ 40) → (pairsTo l k).length ≤ 40 * k
  | 0, _ => by simp [pairsTo]
  | k + 1, h => by
    have ih := pairsTo_len k fun j o hj ho => h j o (by omega) ho
    rw [pairsTo, List.length_append]
    cases e : l[k]? with
    | none => simp; omega
    | some o =>
      have := h k o (by omega) e
      simp only [pairsAt, List.length_map]
      omega
theorem pairs_take {l : List Object} {n : Nat} : ∀ (k : Nat), k ≤ n → pairsTo (l.take n) k = pairsTo l k
  | 0, _ => rfl
  | k + 1, h => by rw [pairsTo, pairsTo, pairs_take k (by omega), List.getElem?_take, if_pos (by omega)]
theorem take_nodup {l : List Object} {k : Nat} (hk : k < l.length) : ((pairsTo (l.take (k + 1)) (l.take (k + 1)).length).map Prod.fst).Nodup ↔ ((allS (l.take (k + 1))).map (·.name)).Nodup := by
  rw [List.length_take, Nat.min_eq_left (by omega), pairs_take (k + 1) (Nat.le_refl _), pairsTo_names]

set_option maxRecDepth 100000 in
set_option maxHeartbeats 4000000 in
theorem bunFault_calls (l : List Object) (v : Value) (w : World) (h : rpObject.SL w w.heap.size l v) (hS : Shapes w) (R : Ending → World → Prop)
    (hR : ∀ w', Below w.heap.size w w' → R (.returned (.agg #[.int .i64 (bunF l).1, .int .i64 (bunF l).2])) w') : Calls Tryd.prog 45 #[v] w R := by
  have h0 := hS.1
  obtain ⟨A, c, rfl, hm, hcap, h⟩ := h.cases_
  have HR := Lib.hid hR
  have H := Lib.hid h
  have HSh := Lib.hid hS
  obtain ⟨W0, hW0⟩ : ∃ W0, W0 = w.alloc (Obj.cells #[.int .i64 0, .int .i64 0] 25) := ⟨_, rfl⟩
  have hb0 : Below w.heap.size w W0 := by subst hW0; exact bl0
  have hz0 : W0.heap.size = w.heap.size + 1 := by subst hW0; simp
  have hQ : W0.heap[w.heap.size]? = some (.cells #[.int .i64 0, .int .i64 0] 25 (0, 0)) := by subst hW0; exact heap_alloc_new _ _
  have HW := Lib.hid hW0.symm
  have HQ := Lib.hid hQ
  have Hb0 := Lib.hid hb0
  have Hz0 := Lib.hid hz0
  have hl0 : w.heap.size < W0.heap.size := by omega
  have HF : Hid (∀ (W : World) (c a : Int), Below W0.heap.size W0 W → bunF l = (c, a) → R (.returned (.agg #[.int .i64 c, .int .i64 a])) ((W.setCell ⟨w.heap.size, 0, none⟩ (.int .i64 c)).setCell ⟨w.heap.size, 1, none⟩ (.int .i64 a))) := Lib.hid fun W c a hb e => by
    have := HR.out ((W.setCell ⟨w.heap.size, 0, none⟩ (.int .i64 c)).setCell ⟨w.heap.size, 1, none⟩ (.int .i64 a)) (((Hb0.out.trans (hb.mono (by rw [Hz0.out]; omega))).setCell (p := ⟨w.heap.size, 0, none⟩) (Nat.le_refl _) _).setCell (p := ⟨w.heap.size, 1, none⟩) (Nat.le_refl _) _)
    rw [e] at this
    exact this
  clear hR h hS hW0 hb0 hQ
  by_cases e1 : 12 < l.length
  · have i1 : (12 : Int) < (l.length : Int) := by omega
    have hbF : bunF l = (2, 0) := by unfold bunF; rw [if_pos e1]
    have HbF := Lib.hid hbF
    clear e1 hz0 hbF
    go_enter Tryd.func45, Tryd.ntmps45
    go_upto_region 1 with fail
    rw [HW.out]
    go_wp2_with fail
    refine Fault_calls 2 0 _ _ (fun w6 hb6 => ?_)
    have hQ6 := (hb6.block _ hl0).trans HQ.out
    have hfin := Lib.hid (HF.out w6 2 0 hb6 HbF.out)
    have HQ6 := Lib.hid hQ6
    obtain ⟨q0, q1, z0, z1⟩ := cells_of_block hQ6
    have hl6 := blk_lt hQ6
    clear hb6 hQ6
    go_wp2
    exact bodyPost_ret (v := .agg #[.int .i64 2, .int .i64 0]) (res_Fault (by rfl) (by rfl) (cells_blk (blkp HQ6.out))) rfl hfin.out
  have hl12 : l.length ≤ 12 := by omega
  have i1 : ¬ (12 : Int) < (l.length : Int) := by omega
  have hlf : bunF l = bunFrom l (l.length - 0) 0 := by unfold bunF; rw [if_neg e1]; rfl
  have Hlf := Lib.hid hlf
  clear e1 hlf
  go_enter Tryd.func45, Tryd.ntmps45
  go_upto_region 1 with fail
  rw [HW.out]
  go_wp2_with fail
  go_loopg [3, 4, 5, 6, 7, 14] l.length (fun g s3 s4 s5 s6 s7 s14 wr => ∃ k : Nat, k ≤ l.length ∧ g = l.length - k ∧ s14 = .int .i64 (k : Int) ∧ bunF l = bunFrom l (l.length - k) k ∧ (∀ j o, j < k → l[j]? = some o → BunOkAt l j o) ∧ Below W0.heap.size W0 wr)
  case atStart => exact ⟨0, Nat.zero_le _, rfl, rfl, Hlf.out, fun j o h => absurd h (Nat.not_lt_zero _), Below.refl _ _⟩
  case round =>
    obtain ⟨k, hk, rfl, rfl, hlk, hpre, hbel⟩ := hrel
    have Hlk := Lib.hid hlk
    have Hpre := Lib.hid hpre
    have Hbel := Lib.hid hbel
    have hbw := Hb0.out.trans (hbel.mono (by omega))
    have Hbw := Lib.hid hbw
    have hz := hbel.size
    have hlr : w.heap.size < wr.heap.size := by omega
    have j1 : (0 : Int) ≤ (k : Int) := Int.natCast_nonneg _
    by_cases hlt : k < l.length
    · obtain ⟨b, off, o, v1, v2, rfl, hb, e, h1, h2, r0, r1⟩ := H.out.object_at hlt
      obtain ⟨A1, n1, rfl, _, _, h1⟩ := h1.cases_
      obtain ⟨A2, n2, rfl, _, _, h2⟩ := h2.cases_
      have p0 := (hbw.cell (p := ⟨b, off + k * 2, none⟩) hb).trans r0
      have p1 := (hbw.cell (p := ⟨b, off + k * 2 + 1, none⟩) hb).trans r1
      have j2 : (k : Int) < (l.length : Int) := by omega
      have E := Lib.hid e
      have H1 := Lib.hid h1
      have H2 := Lib.hid h2
      obtain ⟨F, hF⟩ : ∃ F, F = objFault o := ⟨_, rfl⟩
      have hFz := objFault_fst o
      rw [← hF] at hFz
      have HFo := Lib.hid hF
      obtain ⟨W3, hW3⟩ : ∃ W3, W3 = wr.alloc (Obj.cells #[.slice A1 o.globals.length n1, .slice A2 o.sections.length n2] 47) := ⟨_, rfl⟩
      have hV3 : W3.heap[wr.heap.size]? = some (.cells #[.slice A1 o.globals.length n1, .slice A2 o.sections.length n2] 47 (0, 0)) := by subst hW3; exact heap_alloc_new _ _
      have hb3 : Below wr.heap.size wr W3 := by subst hW3; exact bl0
      have HW3 := Lib.hid hW3.symm
      have HV3 := Lib.hid hV3
      have Hb3 := Lib.hid hb3
      have hl3 : wr.heap.size < W3.heap.size := blk_lt hV3
      obtain ⟨u0, u1, _, _⟩ := cells_of_block hV3
      clear r0 r1 e h1 h2 hF hW3 hV3 hb3 hlk hpre hbel hbw
      go_upto_region 6 with fail
      rw [HW3.out]
      clear p0 p1
      have hbw3 := Lib.hid (Hbw.out.trans (Hb3.out.mono Hbw.out.size))
      go_wp2_with fail
      refine objCheck_calls o _ _ _ (H1.out.up hbw3.out hbw3.out.size) (H2.out.up hbw3.out hbw3.out.size) (HSh.out.up hbw3.out h0) _ (fun w4 hb4 => ?_)
      rw [← HFo.out]
      obtain ⟨fc, fa⟩ := F
      simp only [] at hFz ⊢
      obtain ⟨W5, hW5⟩ : ∃ W5, W5 = w4.alloc (Obj.cells #[.int .i64 fc, .int .i64 fa] 25) := ⟨_, rfl⟩
      have hz4 := hb4.size
      have hV5 : W5.heap[w4.heap.size]? = some (.cells #[.int .i64 fc, .int .i64 fa] 25 (0, 0)) := by subst hW5; exact heap_alloc_new _ _
      have hb45 : Below w4.heap.size w4 W5 := by subst hW5; exact bl0
      have hb35 : Below W3.heap.size W3 W5 := hb4.trans (hb45.mono hz4)
      have hb5 : Below wr.heap.size wr W5 := Hb3.out.trans (hb35.mono Hb3.out.size)
      have hb05 := Hbel.out.trans (hb5.mono Hbel.out.size)
      have hbw5 := Hbw.out.trans (hb5.mono Hbw.out.size)
      have hQ5 := (hb05.block _ hl0).trans HQ.out
      have HW5 := Lib.hid hW5.symm
      have Hb05 := Lib.hid hb05
      have Hbw5 := Lib.hid hbw5
      have HQ5 := Lib.hid hQ5
      clear u0 u1
      obtain ⟨f0, f1, _, _⟩ := cells_of_block hV5
      obtain ⟨q0, q1, z0, z1⟩ := cells_of_block hQ5
      have hl5 : w4.heap.size < W5.heap.size := blk_lt hV5
      have hlQ5 : w.heap.size < W5.heap.size := blk_lt hQ5
      clear hb4 hW5 hV5 hb45 hb35 hb5 hb05 hbw5 hQ5
      go_upto_region 7 with fail
      rw [HW5.out]
      by_cases hc : fc = 0
      rotate_left
      · have hq : ∀ w, (binOp .neq 25 (.agg #[.int .i64 fc, .int .i64 fa]) (.agg #[.int .i64 0, .int .i64 0])).run Tryd.prog w = .ok (.bool true) w := fun w => by
          rw [neq_Fault]
          simp [hc]
        have hlf : bunF l = (fc, (k : Int)) := by
          have ha : bunAt l k o = (fc, (k : Int)) := by
            unfold bunAt
            rw [← HFo.out, if_pos hc]
          rw [Hlk.out, bunFrom_stop E.out (by rw [ha]; exact hc), ha]
        have Hlf2 := Lib.hid hlf
        clear hc hFz hlf
        go_wp2_with fail
        refine Fault_calls fc (k : Int) _ _ (fun w6 hb6 => ?_)
        have hQ6 := (hb6.block _ hlQ5).trans HQ5.out
        have hfin := Lib.hid (HF.out w6 fc (k : Int) (Hb05.out.trans (hb6.mono Hb05.out.size)) Hlf2.out)
        have HQ6 := Lib.hid hQ6
        clear q0 q1 z0 z1 f0 f1
        obtain ⟨q0, q1, z0, z1⟩ := cells_of_block hQ6
        have hl6 := blk_lt hQ6
        clear hb6 hQ6
        go_wp2
        exact bodyPost_ret (v := .agg #[.int .i64 fc, .int .i64 (k : Int)]) (res_Fault (by rfl) (by rfl) (cells_blk (blkp HQ6.out))) rfl hfin.out
      · have he := hFz hc
        cases he
        clear hFz hc
        have hq : ∀ w, (binOp .neq 25 (.agg #[.int .i64 0, .int .i64 0]) (.agg #[.int .i64 0, .int .i64 0])).run Tryd.prog w = .ok (.bool false) w := fun w => neq_Fault 0 0 0 0 w
        have hok : ObjOk o := (objOk_iff o).1 HFo.out.symm
        have Hok := Lib.hid hok
        have hnd : ((allS (l.take k)).map (·.name)).Nodup := nodup_upto k Hpre.out
        have hst : ((pairsTo (l.take (k + 1)) (l.take (k + 1)).length).map Prod.fst).Nodup ↔ (o.sections.any fun s => hasS (allS (l.take k)) s.name) = false := (take_nodup hlt).trans (names_step E.out hok hnd)
        have Hst := Lib.hid hst
        have hfew : (pairsTo (l.take (k + 1)) (l.take (k + 1)).length).length ≤ 100000 := by
          rw [List.length_take, Nat.min_eq_left (by omega), pairs_take (k + 1) (Nat.le_refl _)]
          have := pairsTo_len (l := l) (k + 1) fun j o' hj ho => by
            rcases Nat.lt_or_ge j k with h1 | h1
            · exact (Hpre.out j o' h1 ho).ok.few
            · obtain rfl : j = k := by omega
              obtain rfl : o = o' := Option.some.inj (E.out.symm.trans ho)
              exact hok.few
          omega
        have Hfew := Lib.hid hfew
        have Htk := Lib.hid ((H.out.take_ (show k + 1 ≤ l.length by omega)).up Hbw5.out Hbw5.out.size)
        have w1 : IntKind.i64.wrap ((k : Int) + 1) = (k : Int) + 1 := IntWalk.i64_in _ (by omega)
        have htn : ((k : Int) + 1).toNat = k + 1 := by omega
        have b1 : (0 : Int) ≤ (k : Int) + 1 := by omega
        have b2 : (k : Int) + 1 ≤ (c : Int) := by omega
        clear hok hnd hst hfew
        go_wp2_with fail
        refine index_calls (l.take (k + 1)) _ _ Htk.out Hfew.out _ (fun hnd w6 v6 hb6 hown6 => ?_) (fun hnd m w6 hb6 => ?_)
        · obtain ⟨A6, c6, rfl⟩ := own_slice hown6
          have hnew := Hst.out.1 hnd
          have hat : BunOkAt l k o := ⟨Hok.out, fun s hs => by
            have := List.any_eq_false.1 hnew s hs
            simpa using this⟩
          have hlk2 : bunF l = bunFrom l (l.length - (k + 1)) (k + 1) := by
            rw [Hlk.out, bunFrom_step E.out (by rw [bunAt_good hat])]
          have hpre2 : ∀ j o', j < k + 1 → l[j]? = some o' → BunOkAt l j o' := fun j o' hj ho => by
            rcases Nat.lt_or_ge j k with h1 | h1
            · exact Hpre.out j o' h1 ho
            · obtain rfl : j = k := by omega
              obtain rfl : o = o' := Option.some.inj (E.out.symm.trans ho)
              exact hat
          have Hlk2 := Lib.hid hlk2
          have Hpre2 := Lib.hid hpre2
          have Hb6 := Lib.hid (Hb05.out.trans (hb6.mono Hb05.out.size))
          clear hnew hat hlk2 hpre2 hb6 hown6 hnd q0 q1 z0 z1 f0 f1
          go_wp2
          go_roundg (l.length - (k + 1))
          case measure => omega
          case rel => exact ⟨k + 1, hlt, rfl, by go_num, Hlk2.out, Hpre2.out, Hb6.out⟩
        · have hany : (o.sections.any fun s => hasS (allS (l.take k)) s.name) = true := by
            cases hx : o.sections.any fun s => hasS (allS (l.take k)) s.name with
            | true => rfl
            | false => exact absurd (Hst.out.2 hx) hnd
          have hlf : bunF l = (7, (k : Int)) := by
            have ha : bunAt l k o = (7, (k : Int)) := by
              unfold bunAt
              rw [← HFo.out, if_neg (by simp), if_pos hany]
            rw [Hlk.out, bunFrom_stop E.out (by rw [ha]; simp), ha]
          have Hlf2 := Lib.hid hlf
          have Hb6 := Lib.hid (Hb05.out.trans (hb6.mono Hb05.out.size))
          have m0 : (0 : Int) ≤ (m : Int) := Int.natCast_nonneg _
          clear hany hlf hnd hb6 q0 q1 z0 z1 f0 f1
          go_wp2_with fail
          refine Fault_calls 7 (k : Int) _ _ (fun w7 hb7 => ?_)
          have hb07 := Hb6.out.trans (hb7.mono Hb6.out.size)
          have hQ7 := (hb07.block _ hl0).trans HQ.out
          have hfin := Lib.hid (HF.out w7 7 (k : Int) hb07 Hlf2.out)
          have HQ7 := Lib.hid hQ7
          obtain ⟨q0, q1, z0, z1⟩ := cells_of_block hQ7
          have hl7 := blk_lt hQ7
          clear hb7 hQ7 hb07
          go_wp2
          exact bodyPost_ret (v := .agg #[.int .i64 7, .int .i64 (k : Int)]) (res_Fault (by rfl) (by rfl) (cells_blk (blkp HQ7.out))) rfl hfin.out
    · obtain rfl : k = l.length := by omega
      have j2 : ¬ (l.length : Int) < (l.length : Int) := by omega
      have hQr := (hbel.block _ hl0).trans HQ.out
      have hfin := Lib.hid (HF.out wr 0 0 hbel (by rw [hlk, bunFrom_end]))
      have HQr := Lib.hid hQr
      obtain ⟨q0, q1, z0, z1⟩ := cells_of_block hQr
      clear hlk hpre hbel hbw hQr
      go_wp2
      exact bodyPost_ret (v := .agg #[.int .i64 0, .int .i64 0]) (res_Fault (by rfl) (by rfl) (cells_blk (blkp HQr.out))) rfl hfin.out
end Go.Proofs.YtfhnmbnniklmiaaDoor

/- BundleFault, as the document says it. -/
namespace Go.Proofs.YtfhnmbnniklmiaaDoor
open Go.RowKit
set_option linter.unusedSimpArgs false
set_option linter.unusedVariables false

set_option maxRecDepth 100000 in
set_option maxHeartbeats 4000000 in
theorem BundleFault_calls (l : List Object) (v : Value) (w : World) (h : rpObject.SL w w.heap.size l v) (R : Ending → World → Prop)
    (hR : ∀ w', Below w.heap.size w w' → R (.returned (.agg #[.int .i64 (bunF l).1, .int .i64 (bunF l).2])) w') : Calls Tryd.prog 47 #[v] w R := by
  obtain ⟨A, c, rfl, hm, hcap, h⟩ := h.cases_
  have HR := Lib.hid hR
  have H := Lib.hid h
  obtain ⟨W0, hW0⟩ : ∃ W0, W0 = w.alloc (Obj.cells #[.int .i64 0, .int .i64 0] 25) := ⟨_, rfl⟩
  have hb0 : Below w.heap.size w W0 := by subst hW0; exact bl0
  have hz0 : W0.heap.size = w.heap.size + 1 := by subst hW0; simp
  have hQ : W0.heap[w.heap.size]? = some (.cells #[.int .i64 0, .int .i64 0] 25 (0, 0)) := by subst hW0; exact heap_alloc_new _ _
  have HW := Lib.hid hW0.symm
  have HQ := Lib.hid hQ
  have Hb0 := Lib.hid hb0
  have Hz0 := Lib.hid hz0
  have HF : Hid (∀ (W : World) (c a : Int), Below W0.heap.size W0 W → bunF l = (c, a) → R (.returned (.agg #[.int .i64 c, .int .i64 a])) ((W.setCell ⟨w.heap.size, 0, none⟩ (.int .i64 c)).setCell ⟨w.heap.size, 1, none⟩ (.int .i64 a))) := Lib.hid fun W c a hb e => by
    have := HR.out ((W.setCell ⟨w.heap.size, 0, none⟩ (.int .i64 c)).setCell ⟨w.heap.size, 1, none⟩ (.int .i64 a)) (((Hb0.out.trans (hb.mono (by rw [Hz0.out]; omega))).setCell (p := ⟨w.heap.size, 0, none⟩) (Nat.le_refl _) _).setCell (p := ⟨w.heap.size, 1, none⟩) (Nat.le_refl _) _)
    rw [e] at this
    exact this
  obtain ⟨q0, q1, z0, z1⟩ := cells_of_block hQ
  have hl0 : w.heap.size < W0.heap.size := by omega
  clear hR h hW0 hb0 hQ
  by_cases e1 : 12 < l.length
  · have i1 : (12 : Int) < (l.length : Int) := by omega
    have hfin := Lib.hid (HF.out W0 2 0 (Below.refl _ _) (by unfold bunF; rw [if_pos e1]))
    clear e1 hz0
    go_enter Tryd.func47, Tryd.ntmps47
    go_upto_region 1 with fail
    rw [HW.out]
    go_wp2
    exact bodyPost_ret (v := .agg #[.int .i64 2, .int .i64 0]) (res_Fault (by rfl) (by rfl) (cells_blk (blkp HQ.out))) rfl hfin.out
  have i1 : ¬ (12 : Int) < (l.length : Int) := by omega
  have hlf : bunF l = bunFrom l (l.length - 0) 0 := by unfold bunF; rw [if_neg e1]; rfl
  have Hlf := Lib.hid hlf
  clear e1 hlf q0 q1 z0 z1
  go_enter Tryd.func47, Tryd.ntmps47
  go_upto_region 1 with fail
  rw [HW.out]
  go_wp2_with fail
  go_loopg [3, 4, 5] l.length (fun g s3 s4 s5 wr => ∃ k : Nat, k ≤ l.length ∧ g = l.length - k ∧ s3 = .int .i64 (k : Int) ∧ bunF l = bunFrom l (l.length - k) k ∧ Below W0.heap.size W0 wr)
  case atStart => exact ⟨0, Nat.zero_le _, rfl, rfl, Hlf.out, Below.refl _ _⟩
  case round =>
    obtain ⟨k, hk, rfl, rfl, hlk, hbel⟩ := hrel
    have Hlk := Lib.hid hlk
    have Hbel := Lib.hid hbel
    have hbw := Hb0.out.trans (hbel.mono (by omega))
    have Hbw := Lib.hid hbw
    have hz := hbel.size
    have hQr := (hbel.block _ (by omega)).trans HQ.out
    have HQr := Lib.hid hQr
    obtain ⟨q0, q1, z0, z1⟩ := cells_of_block hQr
    have hlr : w.heap.size < wr.heap.size := by omega
    have j1 : (0 : Int) ≤ (k : Int) := Int.natCast_nonneg _
    clear hlk hbel hQr
    by_cases hlt : k < l.length
    · obtain ⟨b, off, o, v1, v2, rfl, hb, e, h1, h2, r0, r1⟩ := H.out.object_at hlt
      obtain ⟨A1, n1, rfl, _, _, h1⟩ := h1.cases_
      obtain ⟨A2, n2, rfl, _, _, h2⟩ := h2.cases_
      have p0 := (hbw.cell (p := ⟨b, off + k * 2, none⟩) hb).trans r0
      have p1 := (hbw.cell (p := ⟨b, off + k * 2 + 1, none⟩) hb).trans r1
      have j2 : (k : Int) < (l.length : Int) := by omega
      have E := Lib.hid e
      have H1 := Lib.hid h1
      have H2 := Lib.hid h2
      have HSS : Hid (∀ W, Below w.heap.size w W → W.cell? ⟨b, off + k * 2 + 1, none⟩ = some (.slice A2 o.sections.length n2)) := Lib.hid fun W h =>
        (h.cell (p := ⟨b, off + k * 2 + 1, none⟩) hb).trans r1
      obtain ⟨F, hF⟩ : ∃ F, F = objFault o := ⟨_, rfl⟩
      have hFz := objFault_fst o
      rw [← hF] at hFz
      have HFo := Lib.hid hF
      clear r0 r1 e h1 h2 hF
      go_wp2_with fail
      refine ObjectCheck_calls o _ _ _ (H1.out.up Hbw.out Hbw.out.size) (H2.out.up Hbw.out Hbw.out.size) _ (fun w1 hb1 => ?_)
      rw [← HFo.out]
      obtain ⟨fc, fa⟩ := F
      simp only [] at hFz ⊢
      obtain ⟨W1, hW1⟩ : ∃ W1, W1 = w1.alloc (Obj.cells #[.int .i64 fc, .int .i64 fa] 25) := ⟨_, rfl⟩
      have hz1 := hb1.size
      have hV1 : W1.heap[w1.heap.size]? = some (.cells #[.int .i64 fc, .int .i64 fa] 25 (0, 0)) := by subst hW1; exact heap_alloc_new _ _
      have hbW1 : Below wr.heap.size wr W1 := by subst hW1; exact bl0
      have hB1 := Hbel.out.trans (hbW1.mono Hbel.out.size)
      have hQ1 := (hbW1.block _ hlr).trans HQr.out
      have hlV : w1.heap.size < W1.heap.size := blk_lt hV1
      have hlQ : w.heap.size < W1.heap.size := blk_lt hQ1
      have HW1 := Lib.hid hW1.symm
      have HB1 := Lib.hid hB1
      have HQ1 := Lib.hid hQ1
      have HV1 := Lib.hid hV1
      have Hbw1 := Lib.hid (Hbw.out.trans (hbW1.mono Hbw.out.size))
      clear hb1 hW1 hbW1 hB1 p0 p1 q0 q1 z0 z1
      obtain ⟨f0, f1, _, _⟩ := cells_of_block hV1
      obtain ⟨q0, q1, z0, z1⟩ := cells_of_block hQ1
      clear hV1 hQ1
      go_upto_region 7 with fail
      rw [HW1.out]
      by_cases hc : fc = 0
      rotate_left
      · have hcb : (fc != 0) = true := by simp [hc]
        have hfin := Lib.hid (HF.out W1 fc (k : Int) HB1.out (by
          have ha : bunAt l k o = (fc, (k : Int)) := by
            unfold bunAt
            rw [← HFo.out, if_pos hc]
          rw [Hlk.out, bunFrom_stop E.out (by rw [ha]; exact hc), ha]))
        clear hc hFz
        go_wp2
        exact bodyPost_ret (v := .agg #[.int .i64 fc, .int .i64 (k : Int)]) (res_Fault (by rfl) (by rfl) (cells_blk (blkp HQ1.out))) rfl hfin.out
      · have he := hFz hc
        cases he
        clear hFz hc q0 q1 z0 z1
        go_wp2_with fail
        go_loopg [5] o.sections.length (fun gi s5 wi => ∃ j : Nat, j ≤ o.sections.length ∧ gi = o.sections.length - j ∧ s5 = .int .i64 (j : Int) ∧ ((o.sections.take j).any fun s => hasS (allS (l.take k)) s.name) = false ∧ Below W1.heap.size W1 wi)
        case atStart => exact ⟨0, Nat.zero_le _, rfl, rfl, rfl, Below.refl _ _⟩
        case round =>
          rename World => wi
          obtain ⟨j, hj, rfl, rfl, hany, hbi⟩ := hrel
          have hwi := Hbw1.out.trans (hbi.mono Hbw1.out.size)
          have p1 := HSS.out wi hwi
          have Hany := Lib.hid hany
          have Hbi := Lib.hid hbi
          have Hwi := Lib.hid hwi
          have j3 : (0 : Int) ≤ (j : Int) := Int.natCast_nonneg _
          have hQi := (hbi.block _ hlQ).trans HQ1.out
          have HQi := Lib.hid hQi
          have hlQi : w.heap.size < wi.heap.size := blk_lt hQi
          clear hany hbi
          by_cases hjl : j < o.sections.length
          · obtain ⟨b2, off2, s, u1, u2, rfl, hb2, e2, _, _, t0, _, _⟩ := H2.out.section_at hjl
            have p2 := (hwi.cell (p := ⟨b2, off2 + j * 3, none⟩) hb2).trans t0
            have j4 : (j : Int) < (o.sections.length : Int) := by omega
            have how := owner_lt E.out (show s ∈ o.sections from (List.getElem?_eq_some_iff.1 e2).2 ▸ List.getElem_mem _)
            have hst := any_step (fun s : Section => hasS (allS (l.take k)) s.name) e2
            have Hst := Lib.hid hst
            have How := Lib.hid how
            have E2 := Lib.hid e2
            clear hwi t0 how hst e2 hQi
            go_wp2_with fail
            refine Owner_calls l _ s.name _ (H.out.up Hwi.out Hwi.out.size) _ (fun w6 hb6 => ?_)
            have hb66 := Hbi.out.trans (hb6.mono Hbi.out.size)
            have Hb66 := Lib.hid hb66
            have hQ6 := (hb66.block _ hlQ).trans HQ1.out
            have HQ6 := Lib.hid hQ6
            obtain ⟨q0, q1, z0, z1⟩ := cells_of_block hQ6
            have hlQ6 : w.heap.size < w6.heap.size := blk_lt hQ6
            have how := How.out
            generalize ownerL l s.name = r at *
            cases hx : hasS (allS (l.take k)) s.name with
            | true =>
              rw [hx] at how
              have hr : r < (k : Int) := of_decide_eq_true how
              have hfin := Lib.hid (HF.out w6 7 (k : Int) (HB1.out.trans (hb66.mono HB1.out.size)) (by
                have ha : bunAt l k o = (7, (k : Int)) := by
                  unfold bunAt
                  rw [← HFo.out, if_neg (by simp), if_pos]
                  rw [List.any_eq_true]
                  exact ⟨s, (List.getElem?_eq_some_iff.1 E2.out).2 ▸ List.getElem_mem _, hx⟩
                rw [Hlk.out, bunFrom_stop E.out (by rw [ha]; simp), ha]))
              clear how hx hb6 hb66 hQ6 p1 p2
              go_wp2
              exact bodyPost_ret (v := .agg #[.int .i64 7, .int .i64 (k : Int)]) (res_Fault (by rfl) (by rfl) (cells_blk (blkp HQ6.out))) rfl hfin.out
            | false =>
              rw [hx] at how
              have hr : ¬ r < (k : Int) := of_decide_eq_false how
              have hst2 : ((o.sections.take (j + 1)).any fun s => hasS (allS (l.take k)) s.name) = false := by rw [Hst.out, Hany.out, hx]; rfl
              have Hst2 := Lib.hid hst2
              clear how hx hb6 hb66 hQ6 p1 p2 q0 q1 z0 z1 hst2
              go_wp2
              go_roundg (o.sections.length - (j + 1))
              case measure => omega
              case rel => exact ⟨j + 1, hjl, rfl, by go_num, Hst2.out, Hb66.out⟩
          · obtain rfl : j = o.sections.length := by omega
            rw [List.take_length] at Hany
            have hlink : bunF l = bunFrom l (l.length - (k + 1)) (k + 1) := by
              rw [Hlk.out]
              refine bunFrom_step E.out ?_
              unfold bunAt
              rw [← HFo.out, if_neg (by simp), if_neg (by rw [Hany.out]; simp)]
            have Hlink := Lib.hid hlink
            have Hbx := Lib.hid (HB1.out.trans (Hbi.out.mono HB1.out.size))
            clear hwi hQi hlink
            go_wp2
            go_roundg (l.length - (k + 1))
            case measure => omega
            case rel => exact ⟨k + 1, hlt, rfl, by go_num, Hlink.out, Hbx.out⟩
    · obtain rfl : k = l.length := by omega
      have hfin := Lib.hid (HF.out wr 0 0 Hbel.out (by rw [Hlk.out, bunFrom_end]))
      clear Hlk
      go_wp2
      exact bodyPost_ret (v := .agg #[.int .i64 0, .int .i64 0]) (res_Fault (by rfl) (by rfl) (cells_blk (blkp HQr.out))) rfl hfin.out
end Go.Proofs.YtfhnmbnniklmiaaDoor

/- append onto a row of names of the call's own, from any slice of names: the laws for the walk. -/
namespace Go.Proofs.YtfhnmbnniklmiaaDoor
open Go.RowKit
set_option linter.unusedSimpArgs false
set_option linter.unusedVariables false

theorem str_flat_len (l : List ByteArray) : (l.flatMap strCells).length = l.length := by
  have := flat_length strCells 1 (fun _ => rfl) l
  omega
theorem one_str (l : List ByteArray) : ∀ u ∈ l.flatMap strCells, u.oneCell' = true := fun u hu => by
  obtain ⟨x, _, hx⟩ := List.mem_flatMap.1 hu
  have : u = .string x := by simpa [strCells] using hx
  subst this
  rfl
theorem run_strs_nought {t ty : TypeId} (ht : Tryd.prog.underlying t = some (.slice 9)) {w : World} {A A1 : Option Addr} {n c c1 : Nat} (h : n ≤ c1) : (Builtin.append_ #[t, t] ty #[.slice A1 n c1, .slice A 0 c]).run Tryd.prog w = .ok (.slice A1 n c1) w := by
  obtain ⟨iB, hi, zb0, zb1, zb2⟩ := info_parts info_string
  cases A <;> cases A1 <;> simp [Builtin.append_, run_underlying ht, sizeOf, typeInfo, hi, Builtin.lenOf, h, Builtin.firstCells, loadCells, loadCellsFrom, storeCells]
theorem own_cap {w : World} {base : Nat} {e : TypeId} {size n c : Nat} {A : Option Addr} {xs : List Value} (h : w.ownsRow base e size (.slice A n c) n xs) : n ≤ c := by
  rcases h.2 with ⟨h, h0⟩ | ⟨_, _, _, h, _, _, h1, _⟩
  · injection h with _ _ h
    omega
  · injection h with _ _ h
    omega
theorem run_app_strs {t ty : TypeId} (ht : Tryd.prog.underlying t = some (.slice 9)) {w : World} {base B : Nat} {v u : Value} {xs ys : List ByteArray} (hb : w.ownsRow base 9 1 v xs.length (xs.flatMap strCells)) (hu : rpStr.SL w B ys u) (hlen : xs.length + ys.length ≤ 1000000) (hbase : base ≤ w.heap.size) :
    ∃ v' w', (Builtin.append_ #[t, t] ty #[v, u]).run Tryd.prog w = .ok v' w' ∧ w'.ownsRow base 9 1 v' (xs ++ ys).length ((xs ++ ys).flatMap strCells) ∧ Grew (fun k => v.ownBlock = some k) w w' ∧ Came w v v' := by
  obtain ⟨iB, hi, zb0, zb1, zb2⟩ := info_parts info_string
  obtain ⟨A, c, rfl, hm, hcap, hu⟩ := hu.cases_
  rcases Nat.eq_zero_or_pos ys.length with h0 | hpos
  · have hx := List.eq_nil_of_length_eq_zero h0
    subst hx
    obtain ⟨A1, c1, rfl⟩ := own_slice hb
    exact ⟨_, w, run_strs_nought ht (own_cap hb), by simpa using hb, Grew.refl _ _, Came.refl _ _⟩
  · obtain ⟨b, off, _, hA, _⟩ := hu.at_ (List.getElem?_eq_getElem hpos)
    subst hA
    have hnews := hu.news (r := rpStr) (f := strCells) (fun _ _ _ _ h => h) (fun _ => rfl) (by decide)
    obtain ⟨v', w', hr, h2, h3, _, h5⟩ := run_append_own_at (P := Tryd.prog) w base t ty 9 iB _ 1 16 ht hi zb0 zb1 zb2 rfl (by decide) v xs.length (xs.flatMap strCells) hb ⟨b, off, none⟩ ys.length c (ys.flatMap strCells) (flat_length strCells 1 (fun _ => rfl) ys)
      hnews (one_str ys) (by unfold maxLen; omega) (by omega) hbase
    refine ⟨v', w', hr, ?_, Grew.of_grown h3, came_of_at h5⟩
    rw [List.flatMap_append, List.length_append]
    exact h2

/-- At the operation. -/
theorem wp_app_strs (w : World) {o : Oper} {a : Act} {K : Act → World → Prop} {Q : Exit → Act → World → Prop} (s x : Operand) (t : TypeId) (ho : o.op = .call { callee := .builtin .append, args := #[s, x], argTypes := #[t, t] })
    (ht : Tryd.prog.underlying t = some (.slice 9)) {base : Nat} {v u : Value} {xs ys : List ByteArray} (hs : a.eval s = v) (hb : w.ownsRow base 9 1 v xs.length (xs.flatMap strCells)) (hx : a.eval x = u) {B : Nat} (hu : rpStr.SL w B ys u) (hlen : xs.length + ys.length ≤ 1000000) (hbase : base ≤ w.heap.size)
    (h : ∀ v' w', w'.ownsRow base 9 1 v' (xs ++ ys).length ((xs ++ ys).flatMap strCells) → Grew (fun k => v.ownBlock = some k) w w' → Came w v v' → K (a.put o.dst v') w') : o.wp Tryd.prog a w K Q := by
  obtain ⟨v', w', hr, h2, h3, h4⟩ := run_app_strs (ty := o.type) ht hb hu hlen hbase
  unfold Oper.wp execOp
  simp only [ho, resolve, invoke, builtin, Sem.run_bind, Sem.run_pure, Result.andThen_ok, List.map_toArray, List.map_cons, List.map_nil, hs, hx, hr]
  exact h v' w' h2 h3 h4
theorem wpList_app_strs (w : World) {ops : Array Oper} {rest : List Oper} {o : Oper} {a : Act} {Q : Exit → Act → World → Prop} (hgd : o.guard = none) (s x : Operand) (t : TypeId) (ho : o.op = .call { callee := .builtin .append, args := #[s, x], argTypes := #[t, t] })
    (ht : Tryd.prog.underlying t = some (.slice 9)) {base : Nat} {v u : Value} {xs ys : List ByteArray} (hs : a.eval s = v) (hb : w.ownsRow base 9 1 v xs.length (xs.flatMap strCells)) (hx : a.eval x = u) {B : Nat} (hu : rpStr.SL w B ys u) (hlen : xs.length + ys.length ≤ 1000000) (hbase : base ≤ w.heap.size)
    (h : ∀ v' w', w'.ownsRow base 9 1 v' (xs ++ ys).length ((xs ++ ys).flatMap strCells) → Grew (fun k => v.ownBlock = some k) w w' → Came w v v' → wpList Tryd.prog ops Q rest (a.put o.dst v') w') : wpList Tryd.prog ops Q (o :: rest) a w :=
  wpList_plain hgd fun _ hK => wp_app_strs w s x t ho ht hs hb hx hu hlen hbase fun v' w' h2 h3 h4 => hK _ _ (h v' w' h2 h3 h4)
theorem step_app_strs (w : World) {ops : Array Oper} {o : Oper} {a : Act} {K : Act → World → Prop} {Q : Exit → Act → World → Prop} {E : Prop} (hgd : o.guard = none) (s x : Operand) (t : TypeId) (ho : o.op = .call { callee := .builtin .append, args := #[s, x], argTypes := #[t, t] })
    (ht : Tryd.prog.underlying t = some (.slice 9)) {base : Nat} {v u : Value} {xs ys : List ByteArray} (hs : a.eval s = v) (hb : w.ownsRow base 9 1 v xs.length (xs.flatMap strCells)) (hx : a.eval x = u) {B : Nat} (hu : rpStr.SL w B ys u) (hlen : xs.length + ys.length ≤ 1000000) (hbase : base ≤ w.heap.size)
    (h : ∀ v' w', w'.ownsRow base 9 1 v' (xs ++ ys).length ((xs ++ ys).flatMap strCells) → Grew (fun k => v.ownBlock = some k) w w' → Came w v v' → K (a.put o.dst v') w') :
    if Region.wanted o (yielded ops a.tmps) = true then Oper.wp Tryd.prog o a w K Q else E := by
  have hw : Region.wanted o (yielded ops a.tmps) = true := by simp [Region.wanted, hgd]
  rw [if_pos hw]
  exact wp_app_strs w s x t ho ht hs hb hx hu hlen hbase h
/-- A row of names that lies in another block stays as it was. -/
theorem own_grew {X : Nat → Prop} {w w' : World} {base : Nat} {e : TypeId} {size n : Nat} {v : Value} {xs : List Value} (h : w.ownsRow base e size v n xs) (hg : Grew X w w') (hX : ∀ k, v.ownBlock = some k → ¬ X k) : w'.ownsRow base e size v n xs := by
  have hl := h.lt
  obtain ⟨h1, h2⟩ := h
  refine ⟨h1, ?_⟩
  rcases h2 with h2 | ⟨g, cap, cur, hv, hb, hh, r⟩
  · exact .inl h2
  · have e : v.ownBlock = some g := by rw [hv]; rfl
    exact .inr ⟨g, cap, cur, hv, hb, (hg.block g (hl g e).2 (hX g e)).trans hh, r⟩
end Go.Proofs.YtfhnmbnniklmiaaDoor

/- bundle.pack: the bytes of objects that may stand together. -/
namespace Go.Proofs.YtfhnmbnniklmiaaDoor
open Go.RowKit
set_option linter.unusedSimpArgs false
set_option linter.unusedVariables false

set_option maxRecDepth 100000 in
set_option maxHeartbeats 4000000 in
theorem bunText_calls (v : Value) (bs : List UInt8) (s : ByteArray) (base : Nat) (w : World) (hB : Buf w base v bs) (hlen : bs.length ≤ 1099511627776) (hs : s.size ≤ 1099511627776) (hbase : base ≤ w.heap.size) (R : Ending → World → Prop)
    (hR : ∀ w' v', Grew (fun k => v.ownBlock = some k) w w' → Buf w' base v' (bs ++ textB s) → Came w v v' → R (.returned v') w') :
    Calls Tryd.prog 72 #[v, .string s] w R := by
  obtain ⟨A, c, rfl⟩ := hB.slice
  have i1 : (s.size : Int) ≤ 1099511627776 := by omega
  have HR := Lib.hid hR
  have HB := Lib.hid hB
  clear hR hB
  go_enter Tryd.func72, Tryd.ntmps72
  go_wp2_with fail
  refine bNumber_calls _ bs s.size base _ HB.out (by omega) hlen hbase _ (fun w1 v1 hg1 hb1 hc1 => ?_)
  have hl := numB_len s.size
  have hz := hg1.size
  obtain ⟨A1, c1, rfl⟩ := hb1.slice
  have Hb1 := Lib.hid hb1
  have Hg1 := Lib.hid hg1
  have Hc1 := Lib.hid hc1
  have hcl : (bs ++ numB s.size).length ≤ 1099511627786 := by rw [List.length_append]; omega
  have htb : bs ++ textB s = (bs ++ numB s.size) ++ s.data.toList := by unfold textB; rw [List.append_assoc]
  have Htb := Lib.hid htb
  generalize bs ++ numB s.size = cur at *
  clear hb1 hg1 hc1 htb hl
  go_wp2_with (at_builtin; refine wpList_app_str _ rfl _ _ _ rfl Tryd.underlying39 rfl Hb1.out rfl (by omega) (by omega) ?_)
  intro v2 w2 hb2 hg2 hc2
  have hfin := HR.out w2 v2 (Hg1.out.trans hg2 (fun j hj e => by
    rcases Hc1.out j e with h | h
    · exact h
    · omega)) (by rw [Htb.out]; exact hb2) (Hc1.out.trans hc2 hz)
  have Hfin := Lib.hid hfin
  clear hb2 hg2 hc2 hfin
  go_wp2
  exact Hfin.out

theorem Came.of_drew {w : World} {v v' : Value} (h : Came w.drew v v') : Came w v v' := h
theorem idxL_len {l : List Object} (h : BunOk l) : (idxL l).length ≤ 480 := by
  have h1 := pairsTo_len (l := l) l.length fun j o hj ho => (h.each j o ho).ok.few
  have := h.few
  unfold idxL
  rw [addE_len, List.length_nil]
  omega
theorem objB_len {o : Object} (h : ObjOk o) : (objB o).length ≤ 13000012 := by
  have h1 := bodyB_len h
  have h2 : (savedB o).length = (bodyB o).length + 2 := by unfold savedB sumB; simp
  have h3 := textB_len (strL (savedB o))
  rw [strL_size] at h3
  unfold objB
  omega
theorem idx_size {l : List Object} (h : BunOk l) {e : ByteArray × Nat} (he : e ∈ idxL l) : e.1.size ≤ 12 ∧ e.2 < 12 := by
  have h1 := idx_owner h he
  unfold idxL at he
  rw [mem_addE] at he
  rcases he with he | he
  rotate_left
  · cases he
  obtain ⟨h2, o, s, ho, hs, hn⟩ := mem_pairsTo _ he
  obtain ⟨k, hk, e⟩ := List.mem_iff_getElem.1 hs
  have h3 := ((h.each _ o ho).ok.secs k s (by rw [List.getElem?_eq_getElem hk, e])).good
  have h4 := (goodName_len h3).2
  rw [hn] at h4
  have := h.few
  exact ⟨h4, by omega⟩
theorem bunB_len {l : List Object} (h : BunOk l) : (bunB l).length ≤ 160000000 := by
  unfold bunB
  simp only [List.length_append, List.length_cons, List.length_nil]
  have h1 := flat_le entB 32 (idxL l) (fun e he => by
    have h2 := textB_len e.1
    have h3 := numB_len e.2
    have h4 := (idx_size h he).1
    unfold entB
    rw [List.length_append]
    omega)
  have h2 := flat_le objB 13000012 l (fun o ho => by
    obtain ⟨k, hk, e⟩ := List.mem_iff_getElem.1 ho
    exact objB_len (h.each k o (by rw [List.getElem?_eq_getElem hk, e])).ok)
  have h3 := numB_len l.length
  have h4 := numB_len (idxL l).length
  have h5 := Nat.mul_le_mul_right 32 (idxL_len h)
  have h6 := Nat.mul_le_mul_right 13000012 h.few
  omega
theorem bun_nodup {l : List Object} (h : BunOk l) : ((pairsTo l l.length).map Prod.fst).Nodup := by
  rw [pairsTo_names]
  exact h.nodup l.length
theorem pairs_some {l : List Object} (h : BunOk l) : (pairsTo l l.length).length ≤ 100000 := by
  have h1 := pairsTo_len (l := l) l.length fun j o hj ho => (h.each j o ho).ok.few
  have := h.few
  omega

set_option maxRecDepth 100000 in
set_option maxHeartbeats 8000000 in
theorem bunPack_calls (l : List Object) (v : Value) (w : World) (h : rpObject.SL w w.heap.size l v) (hok : BunOk l) (hwide : ∀ o ∈ l, Wide o) (R : Ending → World → Prop)
    (hR : ∀ w' v', Below w.heap.size w w' → Buf w' w.heap.size v' (packB l) → R (.returned v') w') :
    Calls Tryd.prog 46 #[v] w R := by
  obtain ⟨A, c, rfl, hm, hcap, h⟩ := h.cases_
  have HR := Lib.hid hR
  have H := Lib.hid h
  have Hok := Lib.hid hok
  have Hwide := Lib.hid hwide
  have hfew := hok.few
  have hblen := bunB_len hok
  have hilen := idxL_len hok
  have hnd := bun_nodup hok
  have hps := pairs_some hok
  clear hR h hok hwide
  go_enter Tryd.func46, Tryd.ntmps46
  go_wp2_with fail
  refine index_calls l _ _ H.out hps _ (fun _ w1 v1 hb1 hown => ?_) (fun hbad => absurd hnd hbad)
  obtain ⟨A1, c1, rfl⟩ := own_slice hown
  have Hown := Lib.hid hown
  have Hb1 := Lib.hid hb1
  have hob : OB w1.heap.size (.slice (some ⟨w1.heap.size, 0, none⟩) 3 3) [76, 73, 66] w1 (w1.alloc (Obj.cells #[.int .u8 76, .int .u8 73, .int .u8 66] 5 (3, 4))) := by
    refine ⟨.inr ⟨by decide, by decide, w1.heap.size, _, _, rfl, Nat.le_refl _, heap_alloc_new _ _, rfl⟩, (Below.refl _ _).alloc (Nat.le_refl _) _, Nat.le_refl _⟩
  have hcv : (convert 39 39 (.slice (some ⟨w1.heap.size, 0, none⟩) 3 3)).run Tryd.prog (w1.alloc (Obj.cells #[.int .u8 76, .int .u8 73, .int .u8 66] 5)) = .ok (.slice (some ⟨w1.heap.size, 0, none⟩) 3 3) (w1.alloc (Obj.cells #[.int .u8 76, .int .u8 73, .int .u8 66] 5 (3, 4))) := by
    have := Lib.run_convert_bytes_const (P := Tryd.prog) w1 39 5 #[.int .u8 76, .int .u8 73, .int .u8 66] 3 3 Tryd.underlying39 Tryd.underlying5
    simpa using this
  have Hob := Lib.hid hob
  have i0 : (l.length : Int) ≤ 12 := by omega
  have i1 : ((idxL l).length : Int) ≤ 480 := by omega
  clear hown hb1 hob hnd hps
  go_wp2_with fail
  refine bNumber_calls _ [76, 73, 66] l.length w1.heap.size _ Hob.out.buf (by omega) (by decide) Hob.out.base _ (fun w2 v2 hg2 hb2 hc2 => ?_)
  have hob2 := Hob.out.app hb2 hg2
  have hl2 := numB_len l.length
  obtain ⟨A2, c2, rfl⟩ := hb2.slice
  have Hob2 := Lib.hid hob2
  clear hob2 hg2 hb2 hc2 Hob hcv
  go_wp2_with fail
  refine bNumber_calls _ ([76, 73, 66] ++ numB l.length) (idxL l).length w1.heap.size _ Hob2.out.buf (by omega) (by simp; omega) Hob2.out.base _ (fun w3 v3 hg3 hb3 hc3 => ?_)
  have hob3 := Hob2.out.app hb3 hg3
  have htot : [76, 73, 66] ++ numB l.length ++ numB (idxL l).length ++ ((idxL l).flatMap entB ++ l.flatMap objB) = bunB l := by
    unfold bunB
    simp only [List.append_assoc]
  have Htot := Lib.hid htot
  generalize [76, 73, 66] ++ numB l.length ++ numB (idxL l).length = cur0 at *
  obtain ⟨A3, c3, rfl⟩ := hb3.slice
  have Hob3 := Lib.hid hob3
  clear hob3 hg3 hb3 hc3 Hob2 htot hl2
  go_upto_block 0 with fail
  go_cut [5] (fun s5 wx => ∃ cur, cur ++ l.flatMap objB = bunB l ∧ OB w1.heap.size s5 cur w1 wx)
  case first =>
    go_wp2_with fail
    go_loopg [5, 7, 28] (idxL l).length (fun gh s5 s7 i wr => ∃ (k : Nat) (cur : List UInt8), k ≤ (idxL l).length ∧ gh = (idxL l).length - k ∧ i = .int .i64 k ∧ cur ++ (((idxL l).drop k).flatMap entB ++ l.flatMap objB) = bunB l ∧ OB w1.heap.size s5 cur w1 wr)
    case atStart => exact ⟨0, _, Nat.zero_le _, rfl, rfl, Htot.out, Hob3.out⟩
    case round =>
      obtain ⟨k, cur, hk, rfl, rfl, hcur, hob⟩ := hrel
      have hcl : cur.length ≤ 160000000 := by have := congrArg List.length hcur; rw [List.length_append] at this; omega
      obtain ⟨A6, c6, rfl⟩ := hob.buf.slice
      have Hcur := Lib.hid hcur
      have Hob := Lib.hid hob
      have j1 : (0 : Int) ≤ (k : Int) := Int.natCast_nonneg _
      clear hcur hob
      by_cases hlt : k < (idxL l).length
      · obtain ⟨x, hx⟩ : ∃ x, (idxL l)[k]? = some x := ⟨_, List.getElem?_eq_getElem hlt⟩
        have hsz := idx_size Hok.out (List.mem_of_getElem? hx)
        obtain ⟨g, rfl, hbg, hgl, hnc, p0, p1⟩ := own_ent Hown.out hx
        have p0 := (Hob.out.bel.cell (p := ⟨g, k * 2, none⟩) hgl).trans p0
        have p1 := (Hob.out.bel.cell (p := ⟨g, k * 2 + 1, none⟩) hgl).trans p1
        have hst := flat_step entB hx
        have Hst := Lib.hid hst
        obtain ⟨nm, ow⟩ := x
        simp only [] at hsz p0 p1
        have j2 : (k : Int) < ((idxL l).length : Int) := by omega
        have o0 : (0 : Int) ≤ (ow : Int) := Int.natCast_nonneg _
        have o1 : (ow : Int) < 12 := by omega
        have o2 : IntKind.u64.wrap (ow : Int) = (ow : Int) := by rw [IntKind.wrap_u64]; omega
        obtain ⟨wa, hwa⟩ : ∃ wa, wa = wr.alloc (Obj.cells #[.string nm, .int .i64 (ow : Int)] 125) := ⟨_, rfl⟩
        have hV : wa.heap[wr.heap.size]? = some (.cells #[.string nm, .int .i64 (ow : Int)] 125 (0, 0)) := by subst hwa; exact heap_alloc_new _ _
        have hba : Below wr.heap.size wr wa := by subst hwa; exact bl0
        have hoba := Hob.out.below hba
        have Hoba := Lib.hid hoba
        have Hobd := Lib.hid (hoba.below (w' := wa.drew) ((Below.refl _ _).drew))
        have hVl := blk_lt hV
        have hne : (Value.slice A6 cur.length c6).ownBlock ≠ some wr.heap.size := fun e => by have := (Hob.out.buf.lt _ e).2; omega
        have Hne := Lib.hid hne
        have HSS : Hid (∀ W : World, W.heap[wr.heap.size]? = wa.heap[wr.heap.size]? → (fun W : World => W.cell? ⟨wr.heap.size, 0, none⟩ = some (.string nm) ∧ W.cell? ⟨wr.heap.size, 1, none⟩ = some (.int .i64 (ow : Int))) W) := Lib.hid fun W hW => cells_blk (hW.trans hV)
        have HW := Lib.hid hwa.symm
        have hS0 := HSS.out wa.drew rfl
        have hSa := HSS.out wa rfl
        have hnm : nm.size ≤ 1099511627776 := by omega
        have hcb : cur.length ≤ 1099511627776 := by omega
        clear hx hst hwa hV hba hoba hne
        go_upto_region 6 with fail
        rw [HW.out]
        clear p0 p1
        go_region_held3 (fun W : World => W.cell? ⟨wr.heap.size, 0, none⟩ = some (.string nm) ∧ W.cell? ⟨wr.heap.size, 1, none⟩ = some (.int .i64 (ow : Int))) (first | exact hS0 | exact hSa | exact hS5 | exact hS6) (first
          | (go_at_call 72; with_reducible refine bunText_calls _ cur nm w1.heap.size _ (by first | with_reducible exact Hoba.out.buf | with_reducible exact Hobd.out.buf) hcb hnm (by first | with_reducible exact Hoba.out.base | with_reducible exact Hobd.out.base) _ ?_; intro w5 v5 hg5 hb5 hc5; have hgg5 : Grew (fun k => (Value.slice A6 cur.length c6).ownBlock = some k) wa w5 := (by first | with_reducible exact hg5 | with_reducible exact hg5.of_drew); have hS5 := HSS.out w5 (hgg5.block _ hVl Hne.out); have Hob5 := Lib.hid (Hoba.out.app hb5 hgg5); have HB5 := Lib.hid (hgg5.block _ hVl Hne.out); have hz5 := hgg5.size; have hcc5 : Came wa (Value.slice A6 cur.length c6) v5 := (by first | with_reducible exact hc5 | with_reducible exact Came.of_drew hc5); have Hne5 := Lib.hid (hcc5.ne Hne.out hVl); clear hg5 hb5 hc5 hgg5 hcc5)
          | (go_at_call 71; with_reducible refine bNumber_calls _ (cur ++ textB nm) ow w1.heap.size _ Hob5.out.buf (by omega) (by have := textB_len nm; rw [List.length_append]; omega) Hob5.out.base _ ?_; intro w6 v6 hg6 hb6 hc6; have Hob6 := Lib.hid (Hob5.out.app hb6 hg6); have hS6 := HSS.out w6 ((hg6.block _ (by omega) Hne5.out).trans HB5.out); clear hg6 hb6 hc6))
        all_goals
          go_wp2
          go_roundg ((idxL l).length - (k + 1))
          case measure => omega
          case rel => exact ⟨k + 1, _, hlt, rfl, by go_num, by rw [← Hcur.out, Hst.out]; unfold entB; simp only [List.append_assoc], Hob6.out⟩
      · obtain rfl : k = (idxL l).length := by omega
        rw [List.drop_length] at Hcur
        have j2 : ¬ ((idxL l).length : Int) < ((idxL l).length : Int) := by omega
        go_wp2
        go_meet
        exact ⟨_, Hcur.out, Hob.out⟩
  case rest =>
    obtain ⟨cur1, hcur1, hob1⟩ := hcut
    rename World => wc
    have Hcur1 := Lib.hid hcur1
    have Hob1 := Lib.hid hob1
    clear hcur1 hob1 Hob3 Htot
    go_upto_block 2 with fail
    go_cut [5] (fun s5 wx => OB w1.heap.size s5 (bunB l) w1 wx)
    case first =>
      go_wp2_with fail
      go_loopg [5, 9, 43] l.length (fun gh s5 s9 i wr => ∃ (k : Nat) (cur : List UInt8), k ≤ l.length ∧ gh = l.length - k ∧ i = .int .i64 k ∧ cur ++ (l.drop k).flatMap objB = bunB l ∧ OB w1.heap.size s5 cur w1 wr)
      case atStart => exact ⟨0, _, Nat.zero_le _, rfl, rfl, Hcur1.out, Hob1.out⟩
      case round =>
        obtain ⟨k, cur, hk, rfl, rfl, hcur, hob⟩ := hrel
        have hcl : cur.length ≤ 160000000 := by have := congrArg List.length hcur; rw [List.length_append] at this; omega
        obtain ⟨A6, c6, rfl⟩ := hob.buf.slice
        have hbw := Hb1.out.trans (hob.bel.mono Hb1.out.size)
        have Hcur := Lib.hid hcur
        have Hob := Lib.hid hob
        have j1 : (0 : Int) ≤ (k : Int) := Int.natCast_nonneg _
        clear hcur hob
        by_cases hlt : k < l.length
        · obtain ⟨b, off, o, v1, v2, rfl, hb, e, h1, h2, r0, r1⟩ := H.out.object_at hlt
          have p0 := (hbw.cell (p := ⟨b, off + k * 2, none⟩) hb).trans r0
          have p1 := (hbw.cell (p := ⟨b, off + k * 2 + 1, none⟩) hb).trans r1
          have j2 : (k : Int) < (l.length : Int) := by omega
          have hst := flat_step objB e
          have Hst := Lib.hid hst
          have hoo := (Hok.out.each k o e).ok
          have hwo := Hwide.out o (List.mem_of_getElem? e)
          have hsl : (savedB o).length ≤ 13000002 := by
            have h5 := bodyB_len hoo
            have h6 : (savedB o).length = (bodyB o).length + 2 := by unfold savedB sumB; simp
            omega
          obtain ⟨wa, hwa⟩ : ∃ wa, wa = wr.alloc (Obj.cells #[v1, v2] 47) := ⟨_, rfl⟩
          have hV : wa.heap[wr.heap.size]? = some (.cells #[v1, v2] 47 (0, 0)) := by subst hwa; exact heap_alloc_new _ _
          have hba : Below wr.heap.size wr wa := by subst hwa; exact bl0
          have Hoba := Lib.hid (Hob.out.below hba)
          have hba0 := hbw.trans (hba.mono hbw.size)
          have H1 := Lib.hid (h1.up hba0 hba0.size)
          have H2 := Lib.hid (h2.up hba0 hba0.size)
          obtain ⟨B1, n1, rfl, _, _, _⟩ := h1.cases_
          obtain ⟨B2, n2, rfl, _, _, _⟩ := h2.cases_
          have HW := Lib.hid hwa.symm
          obtain ⟨c0, c1⟩ := cells_blk hV
          have Hoo := Lib.hid hoo
          have Hwo := Lib.hid hwo
          clear r0 r1 e hst hwa hV hba hba0 h1 h2 hoo hwo
          go_upto_region 11 with fail
          rw [HW.out]
          clear p0 p1
          go_wp2_with fail
          refine Saved_calls o _ _ _ H1.out H2.out Hoo.out Hwo.out _ (fun w5 v5 hb5 hbuf5 => ?_)
          have Hob5 := Lib.hid (Hoba.out.below hb5)
          have hcv := conv_bytes (P := Tryd.prog) Tryd.underlying39 Tryd.underlying5 Tryd.underlying9 (hbuf5.SL (Nat.le_refl _))
          obtain ⟨A7, c7, rfl⟩ := hbuf5.slice
          have hss : (strL (savedB o)).size ≤ 1099511627776 := by rw [strL_size]; omega
          clear hb5 hbuf5 c0 c1
          go_wp2_with fail
          refine bunText_calls _ cur (strL (savedB o)) w1.heap.size _ Hob5.out.buf (by omega) hss Hob5.out.base _ (fun w6 v6 hg6 hb6 hc6 => ?_)
          have Hob6 := Lib.hid (Hob5.out.app hb6 hg6)
          clear hg6 hb6 hc6 hcv
          go_wp2
          go_roundg (l.length - (k + 1))
          case measure => omega
          case rel => exact ⟨k + 1, _, hlt, rfl, by go_num, by rw [← Hcur.out, Hst.out]; unfold objB; simp only [List.append_assoc], Hob6.out⟩
        · obtain rfl : k = l.length := by omega
          rw [List.drop_length] at Hcur
          have hcb : cur = bunB l := by have := Hcur.out; simpa using this
          have Hcb := Lib.hid hcb
          have j2 : ¬ (l.length : Int) < (l.length : Int) := by omega
          clear hcb
          go_wp2
          go_meet
          rw [← Hcb.out]
          exact Hob.out
    case rest =>
      rename World => wy
      have hob := hcut
      obtain ⟨A5, c5, rfl⟩ := hob.buf.slice
      have Hob := Lib.hid hob
      have hsum := sumL_lt (bunB l)
      have hbz := hob.base
      have Hend := Lib.hid (Hb1.out.trans (hob.bel.mono Hb1.out.size))
      obtain ⟨sm, hsm⟩ : ∃ sm, sm = sumL (bunB l) := ⟨_, rfl⟩
      have Hsm := Lib.hid hsm
      rw [← hsm] at hsum
      clear hcut hob hsm
      go_wp2_with fail
      refine Sum_calls _ (bunB l) _ (Hob.out.buf.SL (Nat.le_refl _)) _ ?_
      rw [← Hsm.out]
      have i0 : (0 : Int) ≤ (sm : Int) := by omega
      have i1 : (sm : Int) < 65521 := by omega
      have hx : byteCells (UInt8.ofNat (sm / 256)) = [.int .u8 ((sm : Int) / 256)] := by
        rw [cells_ofNat]
        congr 2
        omega
      have hy : byteCells (UInt8.ofNat (sm % 256)) = [.int .u8 ((sm : Int) % 256)] := by
        rw [cells_ofNat]
        congr 2
        omega
      have hsrc := Lib.hid (two_src (w := wy) hx hy)
      have hsv : packB l = bunB l ++ [UInt8.ofNat (sm / 256), UInt8.ofNat (sm % 256)] := by
        unfold packB sumB
        rw [← Hsm.out]
      have Hsv := Lib.hid hsv
      have HBa := Lib.hid (Hob.out.buf.alloc (.cells #[.int .u8 ((sm : Int) / 256), .int .u8 ((sm : Int) % 256)] 5))
      generalize UInt8.ofNat (sm / 256) = x at *
      generalize UInt8.ofNat (sm % 256) = y at *
      clear hx hy hsv
      go_wp2_with (at_builtin; refine wpList_app_buf _ rfl _ _ _ rfl Tryd.underlying39 rfl HBa.out rfl hsrc.out (by simp; omega) (by simp; omega) ?_)
      intro v9 w9 hb9 hg9 hc9
      have hbl := Hb1.out.size
      have hfin := HR.out w9 v9 ((Hend.out.alloc (by have := Hend.out.size; omega) _).trans (hg9.below (fun k hk e => by have := (Hob.out.buf.lt k e).1; omega) (by simp; omega))) (by rw [Hsv.out]; exact hb9.base hbl)
      have Hfin := Lib.hid hfin
      clear hb9 hg9 hc9 hfin
      go_wp2
      exact Hfin.out
end Go.Proofs.YtfhnmbnniklmiaaDoor

/- BundleBytes, as the document says it. -/
namespace Go.Proofs.YtfhnmbnniklmiaaDoor
open Go.RowKit
set_option linter.unusedSimpArgs false
set_option linter.unusedVariables false

/-- A row of bytes that grows, from a world on: bs. -/
structure GB (base : Nat) (v0 : Value) (W : World) (v : Value) (bs : List UInt8) (w : World) : Prop where
  buf : Buf w base v bs
  gr : Grew (fun k => v0.ownBlock = some k) W w
  came : Came W v0 v
  hb : base ≤ W.heap.size
theorem GB.below {base : Nat} {v0 v : Value} {W w w' : World} {bs : List UInt8} (h : GB base v0 W v bs w) (hb : Below w.heap.size w w') : GB base v0 W v bs w' := ⟨h.buf.below hb (Nat.le_refl _), h.gr.on hb, h.came, h.hb⟩
theorem GB.app {base : Nat} {v0 v v' : Value} {W w w' : World} {bs cs : List UInt8} (h : GB base v0 W v bs w) (hb : Buf w' base v' cs) (hg : Grew (fun k => v.ownBlock = some k) w w') (hc : Came w v v') : GB base v0 W v' cs w' :=
  ⟨hb, h.gr.trans hg (fun j hj e => by
    rcases h.came j e with h1 | h1
    · exact h1
    · omega), h.came.trans hc h.gr.size, h.hb⟩
theorem GB.base {base : Nat} {v0 v : Value} {W w : World} {bs : List UInt8} (h : GB base v0 W v bs w) : base ≤ w.heap.size := Nat.le_trans h.hb h.gr.size
theorem posN_here {N : List ByteArray} {nm : ByteArray} {p : Nat} (hp : p ≤ N.length) (hlo : ∀ j x, j < p → N[j]? = some x → ltB x nm = true) (hst : ∀ x, N[p]? = some x → ltB x nm = false) : p = posN N nm := by
  rcases Nat.lt_trichotomy p (posN N nm) with h | h | h
  · have := posN_le N nm
    have e := List.getElem?_eq_getElem (show p < N.length by omega)
    have h1 := posN_low h e
    rw [hst _ e] at h1
    cases h1
  · exact h
  · have e := List.getElem?_eq_getElem (show posN N nm < N.length by omega)
    have h1 := hlo _ _ h e
    rw [posN_stop e] at h1
    cases h1
theorem nil_own (k : Nat) (h : (Value.slice none 0 0).ownBlock = some k) : False := by simp [Value.ownBlock] at h
/-- The names of entries. -/
def namesE (E : List (ByteArray × Nat)) : List ByteArray := E.map Prod.fst
theorem namesE_len (E : List (ByteArray × Nat)) : (namesE E).length = E.length := by unfold namesE; rw [List.length_map]
theorem insE_fst (ps : List (ByteArray × Nat)) (e : ByteArray × Nat) : namesE (addE [] (ps ++ [e])) = (namesE (addE [] ps)).take (posN (namesE (addE [] ps)) e.1) ++ [e.1] ++ (namesE (addE [] ps)).drop (posN (namesE (addE [] ps)) e.1) := by
  unfold namesE
  rw [addE_snoc, insE_names]
  unfold insN
  simp

set_option maxRecDepth 100000 in
set_option maxHeartbeats 16000000 in
theorem BundleBytes_calls (l : List Object) (v : Value) (w : World) (h : rpObject.SL w w.heap.size l v) (hok : BunOk l) (hwide : ∀ o ∈ l, Wide o) (R : Ending → World → Prop)
    (hR : ∀ w' v', Below w.heap.size w w' → Buf w' w.heap.size v' (packB l) → R (.returned v') w') :
    Calls Tryd.prog 48 #[v] w R := by
  obtain ⟨A, c, rfl, hm, hcap, h⟩ := h.cases_
  have HR := Lib.hid hR
  have H := Lib.hid h
  have Hok := Lib.hid hok
  have Hwide := Lib.hid hwide
  have hfew := hok.few
  have hblen := bunB_len hok
  have hilen := idxL_len hok
  have Hnd := Lib.hid (bun_nodup hok)
  have hps := pairs_some hok
  obtain ⟨W0, hW0⟩ : ∃ W0, W0 = w.alloc (Obj.cells #[.int .u8 76, .int .u8 73, .int .u8 66] 5) := ⟨_, rfl⟩
  have hgb0 : GB w.heap.size (.slice none 0 0) w (.slice (some ⟨w.heap.size, 0, none⟩) 3 3) [76, 73, 66] W0 := by
    subst hW0
    refine ⟨.inl ⟨rfl, .inr ⟨w.heap.size, 3, _, rfl, Nat.le_refl _, heap_alloc_new _ _, Nat.le_refl _, by unfold maxLen; omega, rfl, rfl⟩⟩, (Grew.refl _ _).alloc _, Came.of_lies (.inr rfl), Nat.le_refl _⟩
  have Hgb0 := Lib.hid hgb0
  have HW := Lib.hid hW0.symm
  clear hR h hok hwide hW0 hgb0
  go_enter Tryd.func48, Tryd.ntmps48
  go_wp2_with fail
  rw [HW.out]
  refine numbered_calls l.length _ _ (by omega) (fun w1 v1 hb1 hbuf1 => ?_)
  have hgb1 := Hgb0.out.below hb1
  have hl1 := numB_len l.length
  have Hgb1 := Lib.hid hgb1
  have Hs1 := Lib.hid (hbuf1.SL (Nat.le_refl _))
  have hbz1 := hgb1.base
  have htot : (76 :: 73 :: 66 :: numB l.length) ++ (numB (idxL l).length ++ ((idxL l).flatMap entB ++ l.flatMap objB)) = bunB l := rfl
  have Htot := Lib.hid htot
  generalize hL : numB l.length = L at *
  obtain ⟨A1, c1, rfl⟩ := hbuf1.slice
  clear hb1 hbuf1 hgb1 hL htot HW
  go_wp2_with (at_builtin; refine wpList_app_buf _ rfl _ _ _ rfl Tryd.underlying39 rfl Hgb1.out.buf rfl Hs1.out (by simp; omega) hbz1 ?_)
  intro v2 W1 hb2 hg2 hc2
  have hgb2 := Hgb1.out.app hb2 hg2 hc2
  obtain ⟨A2, c2, rfl⟩ := hb2.slice
  have Hgb2 := Lib.hid hgb2
  have hbw1 : Below w.heap.size w W1 := hgb2.gr.below (fun k hk e => by cases e) (Nat.le_refl _)
  have Hbw1 := Lib.hid hbw1
  have hzW1 := hbw1.size
  generalize (76 :: 73 :: 66 :: L : List UInt8) = cur0 at *
  clear hb2 hg2 hc2 hgb2 hbw1
  go_upto_block 0 with fail
  go_cut [4] (fun s4 wx => wx.ownsRow W1.heap.size 9 1 s4 (namesE (idxL l)).length ((namesE (idxL l)).flatMap strCells) ∧ Below W1.heap.size W1 wx)
  case first =>
    go_wp2_with fail
    go_loopg [4, 5, 6, 7, 8] l.length (fun gh s4 s5 s6 s7 s8 wr => ∃ k : Nat, k ≤ l.length ∧ gh = l.length - k ∧ s5 = .int .i64 (k : Int) ∧ wr.ownsRow W1.heap.size 9 1 s4 (namesE (addE [] (pairsTo l k))).length ((namesE (addE [] (pairsTo l k))).flatMap strCells) ∧ Below W1.heap.size W1 wr)
    case atStart => exact ⟨0, Nat.zero_le _, rfl, rfl, World.ownsRow_nil _ _ _ _, Below.refl _ _⟩
    case round =>
      obtain ⟨k, hk, rfl, rfl, hown, hbel⟩ := hrel
      have Hown := Lib.hid hown
      have Hbel := Lib.hid hbel
      have hz := hbel.size
      have hbw := Hbw1.out.trans (hbel.mono hzW1)
      have Hbw := Lib.hid hbw
      have j1 : (0 : Int) ≤ (k : Int) := Int.natCast_nonneg _
      obtain ⟨A4, c4, rfl⟩ := own_slice hown
      by_cases hlt : k < l.length
      · obtain ⟨b, off, o, v1, v2, rfl, hb, e, h1, h2, r0, r1⟩ := H.out.object_at hlt
        obtain ⟨A3, n3, rfl, _, _, h2⟩ := h2.cases_
        have j2 : (k : Int) < (l.length : Int) := by omega
        have E := Lib.hid e
        have H2 := Lib.hid h2
        have HP1 : Hid (∀ W, Below w.heap.size w W → W.cell? ⟨b, off + k * 2 + 1, none⟩ = some (.slice A3 o.sections.length n3)) := Lib.hid fun W h => (h.cell (p := ⟨b, off + k * 2 + 1, none⟩) hb).trans r1
        clear hown hbel hbw r0 r1 e h1 h2
        go_wp2_with fail
        go_loopg [4, 6, 7, 8] o.sections.length (fun gi s4 s6 s7 s8 wi => ∃ (j : Nat) (ps : List (ByteArray × Nat)), j ≤ o.sections.length ∧ gi = o.sections.length - j ∧ s6 = .int .i64 (j : Int) ∧ ps = pairsTo l k ++ (pairsAt o k).take j ∧ wi.ownsRow W1.heap.size 9 1 s4 (namesE (addE [] ps)).length ((namesE (addE [] ps)).flatMap strCells) ∧ Below W1.heap.size W1 wi)
        case atStart => exact ⟨0, pairsTo l k, Nat.zero_le _, rfl, rfl, by simp, Hown.out, Hbel.out⟩
        case round =>
          rename World => wi
          obtain ⟨j, ps, hj, rfl, rfl, hps2, hown, hbel⟩ := hrel
          have Hps := Lib.hid hps2
          have Hown2 := Lib.hid hown
          have Hbi := Lib.hid hbel
          have hzi := hbel.size
          have hbwi := Hbw1.out.trans (hbel.mono hzW1)
          have p1 := HP1.out wi hbwi
          have j3 : (0 : Int) ≤ (j : Int) := Int.natCast_nonneg _
          obtain ⟨A5, c5, rfl⟩ := own_slice hown
          by_cases hjl : j < o.sections.length
          · obtain ⟨b5, o5, s, v5, v6, rfl, hb5, e5, h5, h6, q0, q1, q2⟩ := H2.out.section_at hjl
            have p2 := (hbwi.cell (p := ⟨b5, o5 + j * 3, none⟩) hb5).trans q0
            have j4 : (j : Int) < (o.sections.length : Int) := by omega
            have E5 := Lib.hid e5
            have hpl : Hid (ps.length < (pairsTo l l.length).length) := Lib.hid (by rw [hps2]; exact pairs_few E.out e5)
            have hel : (addE [] ps).length = ps.length := by rw [addE_len]; simp
            have hNl : (namesE (addE [] ps)).length ≤ 100000 := by rw [namesE_len, hel]; have := hpl.out; omega
            have Hst : Hid (namesE (addE [] (ps ++ [(s.name, k)])) = (namesE (addE [] ps)).take (posN (namesE (addE [] ps)) s.name) ++ [s.name] ++ (namesE (addE [] ps)).drop (posN (namesE (addE [] ps)) s.name)) := Lib.hid (insE_fst ps (s.name, k))
            have Hps3 : Hid (ps ++ [(s.name, k)] = pairsTo l k ++ (pairsAt o k).take (j + 1)) := Lib.hid (by rw [Hps.out, pairsAt_step E5.out, List.append_assoc])
            have HP5 : Hid (rpStr.SL wi wi.heap.size (namesE (addE [] ps)) (.slice A5 (namesE (addE [] ps)).length c5)) := Lib.hid (SLstr_own hown (Nat.le_refl _))
            generalize namesE (addE [] ps) = N at *
            clear hps2 hown hbel hbwi q0 q1 q2 e5 h5 h6 hel
            go_upto_block 4 with fail
            go_cut [8] (fun s8 wx => s8 = .int .i64 (posN N s.name : Int) ∧ wx = wi)
            case first =>
              go_wp2_with fail
              go_loopg [8] N.length (fun ga s8 wa => ∃ t : Nat, t ≤ N.length ∧ ga = N.length - t ∧ s8 = .int .i64 (t : Int) ∧ (∀ i x, i < t → N[i]? = some x → ltB x s.name = true) ∧ wa = wi)
              case atStart => exact ⟨0, Nat.zero_le _, rfl, rfl, fun i x h => absurd h (Nat.not_lt_zero _), rfl⟩
              case round =>
                obtain ⟨t, ht, rfl, rfl, hlo, rfl⟩ := hrel
                have Hlo := Lib.hid hlo
                have t0 : (0 : Int) ≤ (t : Int) := Int.natCast_nonneg _
                clear hlo
                by_cases htl : t < N.length
                · obtain ⟨g, og, x, rfl, hbg, ex, q0⟩ := HP5.out.str_at htl
                  have t1 : (t : Int) < (N.length : Int) := by omega
                  have Ex := Lib.hid ex
                  have hls := ltB_less x s.name
                  clear ex
                  cases hq : ltB x s.name with
                  | true =>
                    rw [hq] at hls
                    have Hlo2 : Hid (∀ i x, i < t + 1 → N[i]? = some x → ltB x s.name = true) := Lib.hid fun i y hi hy => by
                      rcases Nat.lt_or_ge i t with h1 | h1
                      · exact Hlo.out i y h1 hy
                      · obtain rfl : i = t := by omega
                        obtain rfl : x = y := Option.some.inj (Ex.out.symm.trans hy)
                        exact hq
                    clear hq
                    go_wp2
                    go_roundg (N.length - (t + 1))
                    case measure => omega
                    case rel => exact ⟨t + 1, htl, rfl, by go_num, Hlo2.out, rfl⟩
                  | false =>
                    rw [hq] at hls
                    have hpos : t = posN N s.name := posN_here ht Hlo.out fun y hy => by
                      obtain rfl : x = y := Option.some.inj (Ex.out.symm.trans hy)
                      exact hq
                    have Hpos := Lib.hid hpos
                    clear hq hpos
                    go_wp2
                    go_meet
                    exact ⟨by rw [← Hpos.out], rfl⟩
                · obtain rfl : t = N.length := by omega
                  have t1 : ¬ (N.length : Int) < (N.length : Int) := by omega
                  have hpos : N.length = posN N s.name := posN_here ht Hlo.out fun y hy => by simp at hy
                  have Hpos := Lib.hid hpos
                  clear hpos
                  go_wp2
                  go_meet
                  exact ⟨by rw [← Hpos.out], rfl⟩
            case rest =>
              obtain ⟨rfl, rfl⟩ := hcut
              rename World => wi
              have hpl2 := posN_le N s.name
              generalize posN N s.name = t at *
              have t0 : (0 : Int) ≤ (t : Int) := Int.natCast_nonneg _
              have t1 : (t : Int) ≤ (N.length : Int) := by omega
              have hcap5 : N.length ≤ c5 := own_cap Hown2.out
              have t2 : (t : Int) ≤ (c5 : Int) := by omega
              have t3 : (N.length : Int) ≤ (c5 : Int) := by omega
              have hB0 := Below.refl wi.heap.size wi
              have hB1 := hB0.drew
              have hB2 := hB0.alloc (Nat.le_refl _) (Obj.cells #[.string s.name] 9)
              have hB3 := hB2.drew
              have HSt : Hid (∀ W u, Below wi.heap.size wi W → u = .slice A5 t c5 → rpStr.SL W W.heap.size (N.take t) u) := Lib.hid fun W u hW e => by
                subst e
                exact (HP5.out.up hW hW.size).take_ hpl2
              have Hnew : Hid (∀ (W : World) (B : Nat), W.heap[B]? = some (.cells #[.string s.name] 9 (0, 0)) → rpStr.SL W W.heap.size [s.name] (.slice (some ⟨B, 0, none⟩) 1 1)) := Lib.hid fun W B hW =>
                SLstr_own (xs := [s.name]) (base := 0) ⟨rfl, .inr ⟨B, 1, _, rfl, Nat.zero_le _, hW, Nat.le_refl _, by decide, rfl, rfl⟩⟩ (Nat.le_refl _)
              have HN0 := Lib.hid (heap_alloc_new wi (Obj.cells #[.string s.name] 9))
              have hzi2 : W1.heap.size ≤ wi.heap.size := by omega
              clear p1 p2
              by_cases hA : A5 = none
              · subst hA
                obtain rfl : N = [] := by
                  rcases Nat.eq_zero_or_pos N.length with h0 | hp
                  · exact List.eq_nil_of_length_eq_zero h0
                  · obtain ⟨g, og, x, hA, _⟩ := HP5.out.str_at hp
                    cases hA
                obtain rfl : t = 0 := by simpa using hpl2
                have HSd : Hid (∀ W u, Below wi.heap.size wi W → u = .slice none 0 c5 → rpStr.SL W W.heap.size (([] : List ByteArray).drop 0) u) := Lib.hid fun W u hW e => by
                  subst e
                  exact ⟨none, c5, rfl, Nat.zero_le _, Nat.zero_le _, fun h => absurd h (Nat.lt_irrefl 0)⟩
                go_upto_region 13 with fail
                go_region_held3 (fun _ : World => True) (exact trivial) (first
                  | (refine step_app_strs (w5.alloc (Obj.cells #[.string s.name] 9)) rfl (.tmp 58) (.tmp 60) _ rfl Tryd.underlying23 (base := wi.heap.size) (v := v5) (u := .slice (some ⟨w5.heap.size, 0, none⟩) 1 1) (xs := ([] : List ByteArray).take 0) (ys := [s.name]) (by simp [Act.eval, Act.put]) (own_below hown5 ((Below.refl _ _).alloc (Nat.le_refl _) _)) (by simp [Act.eval, Act.put]) (Hnew.out _ _ (heap_alloc_new _ _)) (by simp <;> omega) (by have := hb5.size; simp <;> omega) ?_; intro v6 w6 hown6 hg6 hc6; have hb6 : Below wi.heap.size wi w6 := (hb5.alloc hb5.size _).trans (hg6.below (fun k hk e => by have := (hown5.lt k e).1; omega) (by have := hb5.size; simp <;> omega)))
                  | (refine step_app_strs w5 rfl (.tmp 58) (.tmp 60) _ rfl Tryd.underlying23 (base := wi.heap.size) (v := v5) (u := .slice (some ⟨wi.heap.size, 0, none⟩) 1 1) (xs := ([] : List ByteArray).take 0) (ys := [s.name]) (by simp [Act.eval, Act.put]) hown5 (by simp [Act.eval, Act.put]) (Hnew.out _ _ HX5.out) (by simp <;> omega) hb5.size ?_; intro v6 w6 hown6 hg6 hc6; have hb6 : Below wi.heap.size wi w6 := hb5.trans (hg6.below (fun k hk e => by have := (hown5.lt k e).1; omega) hb5.size))
                  | (refine step_app_strs w6 rfl (.tmp 61) (.tmp 64) _ rfl Tryd.underlying23 (base := wi.heap.size) (v := v6) (u := .slice none 0 c5) (xs := ([] : List ByteArray).take 0 ++ [s.name]) (ys := ([] : List ByteArray).drop 0) (by simp [Act.eval, Act.put]) hown6 (by simp [Act.eval, Act.put]) (HSd.out _ _ hb6 rfl) (by simp <;> omega) hb6.size ?_; intro v7 w7 hown7 hg7 hc7; have hb7 : Below wi.heap.size wi w7 := hb6.trans (hg7.below (fun k hk e => by have := (hown6.lt k e).1; omega) hb6.size))
                  | (refine step_app_strs _ rfl (.const (.slice none 0 0)) (.tmp 57) _ rfl Tryd.underlying23 (base := wi.heap.size) (v := .slice none 0 0) (u := .slice none 0 c5) (xs := []) (ys := ([] : List ByteArray).take 0) (by simp [Act.eval]) (World.ownsRow_nil _ _ _ _) (by simp [Act.eval, Act.put]) (HSt.out _ _ (by first | with_reducible exact hB0 | with_reducible exact hB1 | with_reducible exact hB2 | with_reducible exact hB3) rfl) (by simp <;> omega) (by first | with_reducible exact hB0.size | with_reducible exact hB1.size | with_reducible exact hB2.size | with_reducible exact hB3.size) ?_; intro v5 w5 hown5 hg5 hc5; have hb5 : Below wi.heap.size wi w5 := (by first | with_reducible exact hB0.trans (hg5.below (fun k _ e => nil_own k e) hB0.size) | with_reducible exact hB1.trans (hg5.below (fun k _ e => nil_own k e) hB1.size) | with_reducible exact hB2.trans (hg5.below (fun k _ e => nil_own k e) hB2.size) | with_reducible exact hB3.trans (hg5.below (fun k _ e => nil_own k e) hB3.size)); first | (have HX5 : Hid (w5.heap[wi.heap.size]? = some (.cells #[.string s.name] 9 (0, 0))) := Lib.hid ((hg5.block wi.heap.size (by simp) (fun e => nil_own _ e)).trans (by exact HN0.out))) | skip))
                all_goals
                  have Hown7 : Hid (w7.ownsRow W1.heap.size 9 1 v7 (namesE (addE [] (ps ++ [(s.name, k)]))).length ((namesE (addE [] (ps ++ [(s.name, k)]))).flatMap strCells)) := Lib.hid (by rw [Hst.out]; exact ownsRow_base hown7 hzi2)
                  have Hb7 := Lib.hid (Hbi.out.trans (hb7.mono hzi2))
                  go_wp2
                  go_roundg (o.sections.length - (j + 1))
                  case measure => omega
                  case rel => exact ⟨j + 1, ps ++ [(s.name, k)], hjl, rfl, by go_num, Hps3.out, Hown7.out, Hb7.out⟩
              · obtain ⟨g, hg⟩ : ∃ g, A5 = some ⟨g, 0, none⟩ := by
                  rcases Hown2.out.2 with ⟨h, _⟩ | ⟨g, _, _, h, _⟩
                  · injection h with h1
                    exact absurd h1 hA
                  · injection h with h1
                    exact ⟨g, h1⟩
                subst hg
                clear hA
                by_cases hct : c5 = t
                · subst hct
                  have hNc : N.length = c5 := by omega
                  have HSd : Hid (∀ W u, Below wi.heap.size wi W → u = .slice (some ⟨g, 0, none⟩) 0 0 → rpStr.SL W W.heap.size (N.drop c5) u) := Lib.hid fun W u hW e => by
                    subst e
                    rw [List.drop_of_length_le (by omega)]
                    exact ⟨_, 0, rfl, Nat.zero_le _, Nat.zero_le _, fun h => absurd h (Nat.lt_irrefl 0)⟩
                  go_upto_region 13 with fail
                  go_region_held3 (fun _ : World => True) (exact trivial) (first
                    | (refine step_app_strs (w5.alloc (Obj.cells #[.string s.name] 9)) rfl (.tmp 58) (.tmp 60) _ rfl Tryd.underlying23 (base := wi.heap.size) (v := v5) (u := .slice (some ⟨w5.heap.size, 0, none⟩) 1 1) (xs := (N).take c5) (ys := [s.name]) (by simp [Act.eval, Act.put]) (own_below hown5 ((Below.refl _ _).alloc (Nat.le_refl _) _)) (by simp [Act.eval, Act.put]) (Hnew.out _ _ (heap_alloc_new _ _)) (by simp <;> omega) (by have := hb5.size; simp <;> omega) ?_; intro v6 w6 hown6 hg6 hc6; have hb6 : Below wi.heap.size wi w6 := (hb5.alloc hb5.size _).trans (hg6.below (fun k hk e => by have := (hown5.lt k e).1; omega) (by have := hb5.size; simp <;> omega)))
                    | (refine step_app_strs w5 rfl (.tmp 58) (.tmp 60) _ rfl Tryd.underlying23 (base := wi.heap.size) (v := v5) (u := .slice (some ⟨wi.heap.size, 0, none⟩) 1 1) (xs := (N).take c5) (ys := [s.name]) (by simp [Act.eval, Act.put]) hown5 (by simp [Act.eval, Act.put]) (Hnew.out _ _ HX5.out) (by simp <;> omega) hb5.size ?_; intro v6 w6 hown6 hg6 hc6; have hb6 : Below wi.heap.size wi w6 := hb5.trans (hg6.below (fun k hk e => by have := (hown5.lt k e).1; omega) hb5.size))
                    | (refine step_app_strs w6 rfl (.tmp 61) (.tmp 64) _ rfl Tryd.underlying23 (base := wi.heap.size) (v := v6) (u := .slice (some ⟨g, 0, none⟩) 0 0) (xs := (N).take c5 ++ [s.name]) (ys := (N).drop c5) (by simp [Act.eval, Act.put]) hown6 (by simp [Act.eval, Act.put]) (HSd.out _ _ hb6 rfl) (by simp <;> omega) hb6.size ?_; intro v7 w7 hown7 hg7 hc7; have hb7 : Below wi.heap.size wi w7 := hb6.trans (hg7.below (fun k hk e => by have := (hown6.lt k e).1; omega) hb6.size))
                    | (refine step_app_strs _ rfl (.const (.slice none 0 0)) (.tmp 57) _ rfl Tryd.underlying23 (base := wi.heap.size) (v := .slice none 0 0) (u := .slice (some ⟨g, 0, none⟩) c5 c5) (xs := []) (ys := (N).take c5) (by simp [Act.eval]) (World.ownsRow_nil _ _ _ _) (by simp [Act.eval, Act.put]) (HSt.out _ _ (by first | with_reducible exact hB0 | with_reducible exact hB1 | with_reducible exact hB2 | with_reducible exact hB3) rfl) (by simp <;> omega) (by first | with_reducible exact hB0.size | with_reducible exact hB1.size | with_reducible exact hB2.size | with_reducible exact hB3.size) ?_; intro v5 w5 hown5 hg5 hc5; have hb5 : Below wi.heap.size wi w5 := (by first | with_reducible exact hB0.trans (hg5.below (fun k _ e => nil_own k e) hB0.size) | with_reducible exact hB1.trans (hg5.below (fun k _ e => nil_own k e) hB1.size) | with_reducible exact hB2.trans (hg5.below (fun k _ e => nil_own k e) hB2.size) | with_reducible exact hB3.trans (hg5.below (fun k _ e => nil_own k e) hB3.size)); first | (have HX5 : Hid (w5.heap[wi.heap.size]? = some (.cells #[.string s.name] 9 (0, 0))) := Lib.hid ((hg5.block wi.heap.size (by simp) (fun e => nil_own _ e)).trans (by exact HN0.out))) | skip))
                  all_goals
                    have Hown7 : Hid (w7.ownsRow W1.heap.size 9 1 v7 (namesE (addE [] (ps ++ [(s.name, k)]))).length ((namesE (addE [] (ps ++ [(s.name, k)]))).flatMap strCells)) := Lib.hid (by rw [Hst.out]; exact ownsRow_base hown7 hzi2)
                    have Hb7 := Lib.hid (Hbi.out.trans (hb7.mono hzi2))
                    go_wp2
                    go_roundg (o.sections.length - (j + 1))
                    case measure => omega
                    case rel => exact ⟨j + 1, ps ++ [(s.name, k)], hjl, rfl, by go_num, Hps3.out, Hown7.out, Hb7.out⟩
                · have HSd : Hid (∀ W u, Below wi.heap.size wi W → u = .slice (some ⟨g, t, none⟩) (N.length - t) (c5 - t) → rpStr.SL W W.heap.size (N.drop t) u) := Lib.hid fun W u hW e => by
                    subst e
                    exact (HP5.out.up hW hW.size).drop_ hpl2 t (fun _ => by simp [rpStr])
                  have t4 : ¬ (c5 : Int) = (t : Int) := by omega
                  go_upto_region 13 with fail
                  go_region_held3 (fun _ : World => True) (exact trivial) (first
                    | (refine step_app_strs (w5.alloc (Obj.cells #[.string s.name] 9)) rfl (.tmp 58) (.tmp 60) _ rfl Tryd.underlying23 (base := wi.heap.size) (v := v5) (u := .slice (some ⟨w5.heap.size, 0, none⟩) 1 1) (xs := (N).take t) (ys := [s.name]) (by simp [Act.eval, Act.put]) (own_below hown5 ((Below.refl _ _).alloc (Nat.le_refl _) _)) (by simp [Act.eval, Act.put]) (Hnew.out _ _ (heap_alloc_new _ _)) (by simp <;> omega) (by have := hb5.size; simp <;> omega) ?_; intro v6 w6 hown6 hg6 hc6; have hb6 : Below wi.heap.size wi w6 := (hb5.alloc hb5.size _).trans (hg6.below (fun k hk e => by have := (hown5.lt k e).1; omega) (by have := hb5.size; simp <;> omega)))
                    | (refine step_app_strs w5 rfl (.tmp 58) (.tmp 60) _ rfl Tryd.underlying23 (base := wi.heap.size) (v := v5) (u := .slice (some ⟨wi.heap.size, 0, none⟩) 1 1) (xs := (N).take t) (ys := [s.name]) (by simp [Act.eval, Act.put]) hown5 (by simp [Act.eval, Act.put]) (Hnew.out _ _ HX5.out) (by simp <;> omega) hb5.size ?_; intro v6 w6 hown6 hg6 hc6; have hb6 : Below wi.heap.size wi w6 := hb5.trans (hg6.below (fun k hk e => by have := (hown5.lt k e).1; omega) hb5.size))
                    | (refine step_app_strs w6 rfl (.tmp 61) (.tmp 64) _ rfl Tryd.underlying23 (base := wi.heap.size) (v := v6) (u := .slice (some ⟨g, t, none⟩) (N.length - t) (c5 - t)) (xs := (N).take t ++ [s.name]) (ys := (N).drop t) (by simp [Act.eval, Act.put]) hown6 (by simp [Act.eval, Act.put]) (HSd.out _ _ hb6 rfl) (by simp <;> omega) hb6.size ?_; intro v7 w7 hown7 hg7 hc7; have hb7 : Below wi.heap.size wi w7 := hb6.trans (hg7.below (fun k hk e => by have := (hown6.lt k e).1; omega) hb6.size))
                    | (refine step_app_strs _ rfl (.const (.slice none 0 0)) (.tmp 57) _ rfl Tryd.underlying23 (base := wi.heap.size) (v := .slice none 0 0) (u := .slice (some ⟨g, 0, none⟩) t c5) (xs := []) (ys := (N).take t) (by simp [Act.eval]) (World.ownsRow_nil _ _ _ _) (by simp [Act.eval, Act.put]) (HSt.out _ _ (by first | with_reducible exact hB0 | with_reducible exact hB1 | with_reducible exact hB2 | with_reducible exact hB3) rfl) (by simp <;> omega) (by first | with_reducible exact hB0.size | with_reducible exact hB1.size | with_reducible exact hB2.size | with_reducible exact hB3.size) ?_; intro v5 w5 hown5 hg5 hc5; have hb5 : Below wi.heap.size wi w5 := (by first | with_reducible exact hB0.trans (hg5.below (fun k _ e => nil_own k e) hB0.size) | with_reducible exact hB1.trans (hg5.below (fun k _ e => nil_own k e) hB1.size) | with_reducible exact hB2.trans (hg5.below (fun k _ e => nil_own k e) hB2.size) | with_reducible exact hB3.trans (hg5.below (fun k _ e => nil_own k e) hB3.size)); first | (have HX5 : Hid (w5.heap[wi.heap.size]? = some (.cells #[.string s.name] 9 (0, 0))) := Lib.hid ((hg5.block wi.heap.size (by simp) (fun e => nil_own _ e)).trans (by exact HN0.out))) | skip))
                  all_goals
                    have Hown7 : Hid (w7.ownsRow W1.heap.size 9 1 v7 (namesE (addE [] (ps ++ [(s.name, k)]))).length ((namesE (addE [] (ps ++ [(s.name, k)]))).flatMap strCells)) := Lib.hid (by rw [Hst.out]; exact ownsRow_base hown7 hzi2)
                    have Hb7 := Lib.hid (Hbi.out.trans (hb7.mono hzi2))
                    go_wp2
                    go_roundg (o.sections.length - (j + 1))
                    case measure => omega
                    case rel => exact ⟨j + 1, ps ++ [(s.name, k)], hjl, rfl, by go_num, Hps3.out, Hown7.out, Hb7.out⟩
          · obtain rfl : j = o.sections.length := by omega
            have hps' : ps = pairsTo l (k + 1) := by
              rw [hps2, pairs_step E.out, List.take_of_length_le (by unfold pairsAt; rw [List.length_map]; exact Nat.le_refl _)]
            have Hps' := Lib.hid hps'
            have j4 : ¬ (o.sections.length : Int) < (o.sections.length : Int) := by omega
            clear hps2 hown hbel hps'
            go_wp2
            go_roundg (l.length - (k + 1))
            case measure => omega
            case rel => exact ⟨k + 1, hlt, rfl, by go_num, by rw [← Hps'.out]; exact Hown2.out, Hbi.out⟩
      · obtain rfl : k = l.length := by omega
        have j2 : ¬ (l.length : Int) < (l.length : Int) := by omega
        go_wp2
        go_meet
        exact ⟨Hown.out, Hbel.out⟩
  case rest =>
    obtain ⟨hown, hbel⟩ := hcut
    rename World => W2
    obtain ⟨A4, c4, rfl⟩ := own_slice hown
    have hz2 := hbel.size
    have hgbs := Hgb2.out.below hbel
    have hbw2 := Hbw1.out.trans (hbel.mono hzW1)
    have hne2 : ∀ k, (Value.slice A4 (namesE (idxL l)).length c4).ownBlock = some k → ¬ (Value.slice A2 cur0.length c2).ownBlock = some k := fun k h1 h2 => by
      have := (hown.lt k h1).1
      have := (Hgb2.out.buf.lt k h2).2
      omega
    have HN : Hid (∀ W, Grew (fun k => (Value.slice A2 cur0.length c2).ownBlock = some k) W2 W → rpStr.SL W W.heap.size (namesE (idxL l)) (.slice A4 (namesE (idxL l)).length c4)) := Lib.hid fun W hW => SLstr_own (own_grew hown hW hne2) (Nat.le_refl _)
    have HO : Hid (∀ W, Grew (fun k => (Value.slice A2 cur0.length c2).ownBlock = some k) W2 W → Below w.heap.size w W) := Lib.hid fun W hW => hbw2.trans (hW.below (fun k hk e => by have := (hgbs.buf.lt k e).1; omega) hbw2.size)
    have Hgb3 : Hid (GB w.heap.size (.slice A2 cur0.length c2) W2 (.slice A2 cur0.length c2) cur0 W2) := Lib.hid ⟨hgbs.buf, Grew.refl _ _, Came.refl _ _, hgbs.base⟩
    have hNl := namesE_len (idxL l)
    have HNg : Hid (∀ (k : Nat) nm, (namesE (idxL l))[k]? = some nm → ∃ ow : Nat, (idxL l)[k]? = some (nm, ow) ∧ ownerL l nm = (ow : Int) ∧ ow < 12 ∧ nm.size ≤ 12) := Lib.hid fun k nm h => by
      unfold namesE at h
      rw [List.getElem?_map, Option.map_eq_some_iff] at h
      obtain ⟨⟨nm', ow⟩, h1, rfl⟩ := h
      have h2 := idx_owner Hok.out (List.mem_of_getElem? h1)
      have h3 := idx_size Hok.out (List.mem_of_getElem? h1)
      exact ⟨ow, h1, h2.1, h3.2, h3.1⟩
    have htot2 := Htot.out
    rw [← hNl] at htot2
    have Htot2 := Lib.hid htot2
    have hcl0 : cur0.length ≤ 160000000 := by have := congrArg List.length htot2; rw [List.length_append] at this; omega
    have HNl := Lib.hid hNl
    generalize namesE (idxL l) = N at *
    have hN480 : N.length ≤ 480 := by omega
    have i2 : (N.length : Int) ≤ 480 := by omega
    clear hown hbel hgbs hbw2 hne2 htot2 Htot hNl
    go_wp2_with fail
    refine numbered_calls N.length _ _ (by omega) (fun w5 v5 hb5 hbuf5 => ?_)
    have hgb5 := Hgb3.out.below hb5
    have Hgb5 := Lib.hid hgb5
    have Hs5 := Lib.hid (hbuf5.SL (Nat.le_refl _))
    have hbz5 := hgb5.base
    have hl5 := numB_len N.length
    have htot3 : (cur0 ++ numB N.length) ++ ((idxL l).flatMap entB ++ l.flatMap objB) = bunB l := by rw [← Htot2.out, List.append_assoc]
    have Htot3 := Lib.hid htot3
    generalize numB N.length = L5 at *
    obtain ⟨A5, c5, rfl⟩ := hbuf5.slice
    clear hb5 hbuf5 hgb5 htot3
    go_wp2_with (at_builtin; refine wpList_app_buf _ rfl _ _ _ rfl Tryd.underlying39 rfl Hgb5.out.buf rfl Hs5.out (by omega) hbz5 ?_)
    intro v6 w6 hb6 hg6 hc6
    have Hgb6 := Lib.hid (Hgb5.out.app hb6 hg6 hc6)
    generalize cur0 ++ L5 = cur1 at *
    clear hb6 hg6 hc6
    go_wp2_with fail
    go_loopg [3, 9] N.length (fun gh s3 s9 wr => ∃ (k : Nat) (cur : List UInt8), k ≤ N.length ∧ gh = N.length - k ∧ s9 = .int .i64 (k : Int) ∧ cur ++ (((idxL l).drop k).flatMap entB ++ l.flatMap objB) = bunB l ∧ GB w.heap.size (.slice A2 cur0.length c2) W2 s3 cur wr)
    case atStart => exact ⟨0, _, Nat.zero_le _, rfl, rfl, Htot3.out, Hgb6.out⟩
    case round =>
      obtain ⟨k, cur, hk, rfl, rfl, hcur, hgb⟩ := hrel
      have hcl : cur.length ≤ 160000000 := by have := congrArg List.length hcur; rw [List.length_append] at this; omega
      have Hcur := Lib.hid hcur
      have Hgb := Lib.hid hgb
      have j1 : (0 : Int) ≤ (k : Int) := Int.natCast_nonneg _
      clear hcur hgb
      by_cases hlt : k < N.length
      · obtain ⟨g, og, nm, rfl, hg, ex, q0⟩ := (HN.out _ Hgb.out.gr).str_at hlt
        obtain ⟨ow, hx, how, ho12, hnsz⟩ := HNg.out k nm ex
        have hst := flat_step entB hx
        have Hst := Lib.hid hst
        have How := Lib.hid how
        have j2 : (k : Int) < (N.length : Int) := by omega
        have HSS : Hid (∀ W, Grew (fun k => (Value.slice A2 cur0.length c2).ownBlock = some k) W2 W → (fun W : World => W.cell? ⟨g, og + k, none⟩ = some (.string nm)) W) := Lib.hid fun W hW => by
          obtain ⟨g', og', nm', e1, _, e2, q1⟩ := (HN.out _ hW).str_at hlt
          injection e1 with e1
          injection e1 with e3 e4
          subst e3 e4
          obtain rfl : nm = nm' := Option.some.inj (ex.symm.trans e2)
          exact q1
        have hS0 := HSS.out wr.drew Hgb.out.gr.drew
        have hSa := HSS.out wr Hgb.out.gr
        have hnm : nm.size ≤ 1099511627776 := by omega
        have hl7 := textB_len nm
        have hl8 := numB_len ow
        have how2 : ow < 9223372036854775808 := by omega
        clear hx hst how q0 ex
        go_wp2
        go_region_held3 (fun W : World => W.cell? ⟨g, og + k, none⟩ = some (.string nm)) (first | with_reducible exact hS0 | with_reducible exact hSa | with_reducible exact hS5 | with_reducible exact hS6 | with_reducible exact hS7 | with_reducible exact hS8 | with_reducible exact hS9) (first
          | (go_at_call 34; with_reducible refine Owner_calls l _ nm w6 (H.out.up (HO.out _ Hgb6.out.gr) (HO.out _ Hgb6.out.gr).size) _ ?_; intro w7 hb7; rw [How.out]; have Hgb7 := Lib.hid (Hgb6.out.below hb7); have hS7 := HSS.out w7 Hgb7.out.gr; clear hb7)
          | (go_at_call 75; with_reducible refine numbered_calls ow w7 _ how2 ?_; intro w8 v8 hb8 hbuf8; have Hgb8 := Lib.hid (Hgb7.out.below hb8); have hS8 := HSS.out w8 Hgb8.out.gr; have Hbuf8 := Lib.hid hbuf8; clear hb8 hbuf8)
          | (refine step_app_buf w8 rfl (.tmp 83) (.tmp 90) _ rfl Tryd.underlying39 (by simp [Act.eval, Act.put]) Hgb8.out.buf (by simp [Act.eval, Act.put]) (Hbuf8.out.SL (Nat.le_refl _)) (by rw [List.length_append]; omega) Hgb8.out.base ?_; intro v9 w9 hb9 hg9 hc9; have Hgb9 := Lib.hid (Hgb8.out.app hb9 hg9 hc9); have hS9 := HSS.out w9 Hgb9.out.gr; clear hb9 hg9 hc9)
          | (refine step_app_buf w5 rfl (.tmp 77) (.tmp 82) _ rfl Tryd.underlying39 (by simp [Act.eval, Act.put]) Hgb5.out.buf (by simp [Act.eval, Act.put]) (Hbuf5.out.SL (Nat.le_refl _)) (by omega) Hgb5.out.base ?_; intro v6 w6 hb6 hg6 hc6; have Hgb6 := Lib.hid (Hgb5.out.app hb6 hg6 hc6); have hS6 := HSS.out w6 Hgb6.out.gr; clear hb6 hg6 hc6)
          | (go_at_call 76; with_reducible refine texted_calls nm _ _ hnm ?_; intro w5 v5 hb5 hbuf5; have hbe5 : Below wr.heap.size wr w5 := (by first | with_reducible exact hb5 | with_reducible exact below_of_drew hb5); have Hgb5 := Lib.hid (Hgb.out.below hbe5); have hS5 := HSS.out w5 Hgb5.out.gr; have Hbuf5 := Lib.hid hbuf5; clear hb5 hbuf5 hbe5))
        all_goals
          go_wp2
          go_roundg (N.length - (k + 1))
          case measure => omega
          case rel => exact ⟨k + 1, _, hlt, rfl, by go_num, by rw [← Hcur.out, Hst.out]; unfold entB; simp only [List.append_assoc], Hgb9.out⟩
      · obtain rfl : k = N.length := by omega
        have j2 : ¬ (N.length : Int) < (N.length : Int) := by omega
        have hcur2 : cur ++ l.flatMap objB = bunB l := by
          have := Hcur.out
          rw [List.drop_of_length_le (by rw [← HNl.out]; exact Nat.le_refl _)] at this
          simpa using this
        have Hcur2 := Lib.hid hcur2
        clear hcur2 Hcur
        go_wp2_with fail
        go_loopg [3, 10] l.length (fun gh s3 s10 wi => ∃ (k : Nat) (cur : List UInt8), k ≤ l.length ∧ gh = l.length - k ∧ s10 = .int .i64 (k : Int) ∧ cur ++ (l.drop k).flatMap objB = bunB l ∧ GB w.heap.size (.slice A2 cur0.length c2) W2 s3 cur wi)
        case atStart => exact ⟨0, _, Nat.zero_le _, rfl, rfl, Hcur2.out, Hgb.out⟩
        case round =>
          rename World => wi
          obtain ⟨k, cv, hk, rfl, rfl, hcv, hgbi⟩ := hrel
          have hcl2 : cv.length ≤ 160000000 := by have := congrArg List.length hcv; rw [List.length_append] at this; omega
          have hbw := HO.out _ hgbi.gr
          have Hcv := Lib.hid hcv
          have Hgbi := Lib.hid hgbi
          have k1 : (0 : Int) ≤ (k : Int) := Int.natCast_nonneg _
          clear hcv hgbi
          by_cases hlt : k < l.length
          · obtain ⟨b, off, o, u1, u2, rfl, hb, e, h1, h2, r0, r1⟩ := H.out.object_at hlt
            have p0 := (hbw.cell (p := ⟨b, off + k * 2, none⟩) hb).trans r0
            have p1 := (hbw.cell (p := ⟨b, off + k * 2 + 1, none⟩) hb).trans r1
            have k2 : (k : Int) < (l.length : Int) := by omega
            have hst := flat_step objB e
            have Hst := Lib.hid hst
            have hoo := (Hok.out.each k o e).ok
            have hwo := Hwide.out o (List.mem_of_getElem? e)
            have hsl : (savedB o).length ≤ 13000002 := by
              have h5 := bodyB_len hoo
              have h6 : (savedB o).length = (bodyB o).length + 2 := by unfold savedB sumB; simp
              omega
            have H1 := Lib.hid (h1.up hbw hbw.size)
            have H2 := Lib.hid (h2.up hbw hbw.size)
            have Hoo := Lib.hid hoo
            have Hwo := Lib.hid hwo
            clear r0 r1 e hst h1 h2 hoo hwo
            go_wp2_with fail
            refine ObjectBytes_calls o _ _ _ H1.out H2.out Hoo.out Hwo.out _ (fun w5 v5 hb5 hbuf5 => ?_)
            have Hgb5 := Lib.hid (Hgbi.out.below hb5)
            have hcv := conv_bytes (P := Tryd.prog) Tryd.underlying39 Tryd.underlying5 Tryd.underlying9 (hbuf5.SL (Nat.le_refl _))
            obtain ⟨A7, c7, rfl⟩ := hbuf5.slice
            have hss : (strL (savedB o)).size ≤ 1099511627776 := by rw [strL_size]; omega
            have hl9 := textB_len (strL (savedB o))
            have hl10 : (strL (savedB o)).size ≤ 13000002 := by rw [strL_size]; exact hsl
            clear hb5 hbuf5 p0 p1
            go_wp2_with fail
            refine texted_calls (strL (savedB o)) _ _ hss (fun w6 v6 hb6 hbuf6 => ?_)
            have Hgb6 := Lib.hid (Hgb5.out.below hb6)
            have Hs6 := Lib.hid (hbuf6.SL (Nat.le_refl _))
            have hbz6 := Hgb6.out.base
            obtain ⟨A8, c8, rfl⟩ := hbuf6.slice
            obtain ⟨A9, c9, h9⟩ := Hgb6.out.buf.slice
            subst h9
            clear hb6 hbuf6 hcv
            go_wp2_with (at_builtin; refine wpList_app_buf _ rfl _ _ _ rfl Tryd.underlying39 rfl Hgb6.out.buf rfl Hs6.out (by omega) hbz6 ?_)
            intro v7 w7 hb7 hg7 hc7
            have Hgb7 := Lib.hid (Hgb6.out.app hb7 hg7 hc7)
            clear hb7 hg7 hc7
            go_wp2
            go_roundg (l.length - (k + 1))
            case measure => omega
            case rel => exact ⟨k + 1, _, hlt, rfl, by go_num, by rw [← Hcv.out, Hst.out]; unfold objB; simp only [List.append_assoc], Hgb7.out⟩
          · obtain rfl : k = l.length := by omega
            have k2 : ¬ (l.length : Int) < (l.length : Int) := by omega
            have hcb : cv = bunB l := by have := Hcv.out; simpa using this
            have Hcb := Lib.hid hcb
            clear hcb
            go_wp2_with fail
            refine summed_calls _ cv w.heap.size _ Hgbi.out.buf (by omega) Hgbi.out.base _ (fun w9 v9 hg9 hb9 => ?_)
            rw [Hcb.out] at hb9
            have hfin := HR.out w9 v9 (hbw.trans (hg9.below (fun k hk e => by have := (Hgbi.out.buf.lt k e).1; omega) Hgbi.out.base)) hb9
            have Hfin := Lib.hid hfin
            clear hg9 hb9 hfin
            go_wp2
            exact Hfin.out
end Go.Proofs.YtfhnmbnniklmiaaDoor

/- bundle.Pack and the document's BundlePack; the law that compares them. -/
namespace Go.Proofs.YtfhnmbnniklmiaaDoor
open Go.RowKit
set_option linter.unusedSimpArgs false
set_option linter.unusedVariables false

theorem res_slF {fn : Func} {t p : Tmp} (h : fn.results = #[.tmp t, .cell p 25]) {tmps : Array Value} {b : Nat} {w : World} {v x y : Value} {T : TypeId} (ht : tmps.getD t undef = v) (hp : tmps.getD p undef = .pointer (some ⟨b, 0, none⟩))
    (hc : w.heap[b]? = some (.cells #[x, y] T (0, 0))) : (results fn tmps).run Tryd.prog w = .ok (.tuple #[v, .agg #[x, y]]) w :=
  res_slice_Fault h ht hp (cells_blk hc)
theorem buf_nil (w : World) (base : Nat) : Buf w base (.slice none 0 0) [] := .inl (World.ownsRow_nil _ _ _ _)

theorem pack_bad {l : List Object} (h : (bunF l).1 ≠ 0) : packO l = [] ∧ packF l = bunF l := by
  unfold packO packF
  rw [if_pos h, if_pos h]
  exact ⟨rfl, rfl⟩
theorem pack_long {l : List Object} (h : bunF l = (0, 0)) (hl : 90000 < (packB l).length) : packO l = [] ∧ packF l = (10, 0) := by
  unfold packO packF
  have h1 : ¬ (bunF l).1 ≠ 0 := by rw [h]; simp
  rw [if_neg h1, if_neg h1, if_pos hl, if_pos hl]
  exact ⟨rfl, rfl⟩
theorem pack_fine {l : List Object} (h : bunF l = (0, 0)) (hl : ¬ 90000 < (packB l).length) : packO l = packB l ∧ packF l = (0, 0) := by
  unfold packO packF
  have h1 : ¬ (bunF l).1 ≠ 0 := by rw [h]; simp
  rw [if_neg h1, if_neg h1, if_neg hl, if_neg hl]
  exact ⟨rfl, rfl⟩

set_option maxRecDepth 100000 in
set_option maxHeartbeats 4000000 in
theorem Pack_calls (l : List Object) (v : Value) (w : World) (h : rpObject.SL w w.heap.size l v) (hwide : ∀ o ∈ l, Wide o) (hS : Shapes w) (R : Ending → World → Prop)
    (hR : ∀ w' v', Below w.heap.size w w' → Buf w' w.heap.size v' (packO l) → R (.returned (.tuple #[v', (.agg #[.int .i64 (packF l).1, .int .i64 (packF l).2])])) w') :
    Calls Tryd.prog 20 #[v] w R := by
  have h0 := hS.1
  obtain ⟨A1, n1, rfl, hm1, hcap1, h⟩ := h.cases_
  have HS := Lib.hid hS
  have HR := Lib.hid hR
  have H := Lib.hid h
  have Hwide := Lib.hid hwide
  obtain ⟨W0, hW0⟩ : ∃ W0, W0 = w.alloc (Obj.cells #[.int .i64 0, .int .i64 0] 25) := ⟨_, rfl⟩
  have hb0 : Below w.heap.size w W0 := by subst hW0; exact bl0
  have hz0 : W0.heap.size = w.heap.size + 1 := by subst hW0; simp
  have hF : W0.heap[w.heap.size]? = some (.cells #[.int .i64 0, .int .i64 0] 25 (0, 0)) := by
    subst hW0
    exact heap_alloc_new _ _
  have HF := Lib.hid hF
  have HW := Lib.hid hW0.symm
  have Hb0 := Lib.hid hb0
  have Hz0 := Lib.hid hz0
  have HK : Hid (∀ W, Below (w.heap.size + 1) W0 W → W.heap[w.heap.size]? = some (.cells #[.int .i64 0, .int .i64 0] 25 (0, 0)) ∧ w.heap.size + 1 ≤ W.heap.size ∧ Below w.heap.size w W) := Lib.hid fun W h =>
    ⟨(h.block _ (by omega)).trans HF.out, by have := h.size; rw [Hz0.out] at this; exact this, Hb0.out.trans (h.mono (by omega))⟩
  clear hR h hF hW0 hb0 hz0 hwide hS
  go_enter Tryd.func20, Tryd.ntmps20
  go_wp2_with fail
  rw [HW.out]
  refine bunFault_calls l _ _ (H.out.up Hb0.out Hb0.out.size) (HS.out.up Hb0.out h0) _ (fun w1 hb1 => ?_)
  rw [Hz0.out] at hb1
  obtain ⟨k2, k3, k4⟩ := HK.out _ hb1
  obtain ⟨d0, d1, y0, y1⟩ := cells_of_block k2
  have hp1 : w.heap.size < w1.heap.size := by omega
  have HF1 := Lib.hid k2
  have Hk4 := Lib.hid k4
  have Hb1 := Lib.hid hb1
  have hfz := fun h => (bunF_ok (l := l) h).1
  obtain ⟨⟨c, a⟩, hFa⟩ : ∃ F, F = bunF l := ⟨_, rfl⟩
  rw [← hFa] at hfz ⊢
  have Hfa := Lib.hid hFa
  simp only [] at hfz ⊢
  clear hb1 k2 k4 hFa HW
  by_cases hc : c = 0
  rotate_left
  · have hq : ∀ w, (binOp .neq 25 (.agg #[.int .i64 c, .int .i64 a]) (.agg #[.int .i64 0, .int .i64 0])).run Tryd.prog w = .ok (.bool true) w := fun w => by
      rw [neq_Fault]
      simp [hc]
    have hsb := pack_bad (l := l) (by rw [← Hfa.out]; exact hc)
    have hret := HR.out
    rw [hsb.1, hsb.2, ← Hfa.out] at hret
    have Hret := Lib.hid hret
    clear hfz hc hret hsb
    go_wp2
    go_region
    all_goals
      go_wp2
      refine bodyPost_ret (v := .tuple #[.slice none 0 0, .agg #[.int .i64 c, .int .i64 a]]) (res_slF (by rfl) (by rfl) (by rfl) (blkp HF1.out)) rfl ?_
      have hb := Hk4.out
      refine Hret.out _ _ ?_ (buf_nil _ _)
      exact bl0
  · have hq : ∀ w, (binOp .neq 25 (.agg #[.int .i64 0, .int .i64 0]) (.agg #[.int .i64 0, .int .i64 0])).run Tryd.prog w = .ok (.bool false) w := fun w => neq_Fault 0 0 0 0 w
    have hca := hfz hc
    simp only [Prod.mk.injEq] at hca
    obtain ⟨rfl, rfl⟩ := hca
    have hok := (bunF_ok (l := l) (by rw [← Hfa.out])).2
    have Hok := Lib.hid hok
    have HA : Hid (∀ W, Below w1.heap.size w1 W → rpObject.SL W W.heap.size l (.slice A1 l.length n1)) := Lib.hid fun W h => by
      have hb := Hk4.out.trans (h.mono (by omega))
      exact H.out.up hb hb.size
    clear hfz hc hok
    go_wp2_with fail
    have hal : Below w1.heap.size w1 (w1.alloc (Obj.cells #[.int .i64 0, .int .i64 0] 25)) := (Below.refl _ _).alloc (Nat.le_refl _) _
    refine bunPack_calls l _ _ (HA.out _ hal) Hok.out Hwide.out _ (fun w2 v2 hb2 hbuf2 => ?_)
    have hz2 := hb2.size
    have hbel2 := Hb1.out.trans (hal.trans (hb2.mono (by simp)) |>.mono (by omega))
    obtain ⟨k2, k3, k4⟩ := HK.out _ hbel2
    obtain ⟨d0, d1, y0, y1⟩ := cells_of_block k2
    obtain ⟨A3, c3, rfl⟩ := hbuf2.slice
    have hq1 : w.heap.size < w2.heap.size := by omega
    have HF2 := Lib.hid k2
    have Hk2 := Lib.hid k4
    have Hbuf2 := Lib.hid (hbuf2.base (b' := w.heap.size + 1) (by simp; omega))
    obtain ⟨L, hL⟩ : ∃ L, L = packB l := ⟨_, rfl⟩
    rw [← hL] at Hbuf2 ⊢
    have HL := Lib.hid hL
    clear hb2 hbuf2 hbel2 k2 k4 hal hL
    by_cases hl : 90000 < L.length
    · have hli : (90000 : Int) < (L.length : Int) := by omega
      have hsb := pack_long Hfa.out.symm (by rw [← HL.out]; exact hl)
      have hr2 := HR.out
      rw [hsb.1, hsb.2] at hr2
      have Hr2 := Lib.hid hr2
      clear hl hr2 hsb
      go_wp2_with fail
      refine Fault_calls _ _ _ _ (fun w3 hb3 => ?_)
      have hz3 := hb3.size
      have HF3 := Lib.hid ((hb3.block _ hq1).trans HF2.out)
      have hF3 := HF3.out
      obtain ⟨e0, e1, x0, x1⟩ := cells_of_block hF3
      have hend := Lib.hid (Hk2.out.trans (hb3.mono (by omega)))
      have hq3 : w.heap.size < w3.heap.size := by omega
      clear hb3 hF3 d0 d1 y0 y1
      go_wp2
      refine bodyPost_ret (v := .tuple #[.slice none 0 0, .agg #[.int .i64 10, .int .i64 0]]) (res_slF (by rfl) (by rfl) (by rfl) (blkp HF3.out)) rfl ?_
      have hb := hend.out
      refine Hr2.out _ _ ?_ (buf_nil _ _)
      exact bl0
    · have hli : ¬ (90000 : Int) < (L.length : Int) := by omega
      have hsb := pack_fine Hfa.out.symm (by rw [← HL.out]; exact hl)
      have hr2 := HR.out
      rw [hsb.1, hsb.2, ← HL.out] at hr2
      have Hr2 := Lib.hid hr2
      clear hl hr2 hsb
      go_wp2
      refine bodyPost_ret (v := .tuple #[.slice A3 L.length c3, .agg #[.int .i64 0, .int .i64 0]]) (res_slF (by rfl) (by rfl) (by rfl) (blkp HF2.out)) rfl ?_
      have hb := Hk2.out
      have hbb := ((Hbuf2.out.grew (Grew.of_grown (grown_setCell w2 ⟨w.heap.size, 0, none⟩ (.int .i64 0))) (fun k hk e => by have := (Hbuf2.out.lt k hk).1; have := Option.some.inj e; simp at this; omega)).grew (Grew.of_grown (grown_setCell _ ⟨w.heap.size, 1, none⟩ (.int .i64 0))) (fun k hk e => by have := (Hbuf2.out.lt k hk).1; have := Option.some.inj e; simp at this; omega)).base (b' := w.heap.size) (by omega)
      refine Hr2.out _ _ ?_ hbb
      exact bl0

set_option maxRecDepth 100000 in
set_option maxHeartbeats 4000000 in
theorem BundlePack_calls (l : List Object) (v : Value) (w : World) (h : rpObject.SL w w.heap.size l v) (hwide : ∀ o ∈ l, Wide o) (R : Ending → World → Prop)
    (hR : ∀ w' v', Below w.heap.size w w' → Buf w' w.heap.size v' (packO l) → R (.returned (.tuple #[v', (.agg #[.int .i64 (packF l).1, .int .i64 (packF l).2])])) w') :
    Calls Tryd.prog 21 #[v] w R := by
  obtain ⟨A1, n1, rfl, hm1, hcap1, h⟩ := h.cases_
  have HR := Lib.hid hR
  have H := Lib.hid h
  have Hwide := Lib.hid hwide
  obtain ⟨W0, hW0⟩ : ∃ W0, W0 = w.alloc (Obj.cells #[.int .i64 0, .int .i64 0] 25) := ⟨_, rfl⟩
  have hb0 : Below w.heap.size w W0 := by subst hW0; exact bl0
  have hz0 : W0.heap.size = w.heap.size + 1 := by subst hW0; simp
  have hF : W0.heap[w.heap.size]? = some (.cells #[.int .i64 0, .int .i64 0] 25 (0, 0)) := by
    subst hW0
    exact heap_alloc_new _ _
  have HF := Lib.hid hF
  have HW := Lib.hid hW0.symm
  have Hb0 := Lib.hid hb0
  have Hz0 := Lib.hid hz0
  have HK : Hid (∀ W, Below (w.heap.size + 1) W0 W → W.heap[w.heap.size]? = some (.cells #[.int .i64 0, .int .i64 0] 25 (0, 0)) ∧ w.heap.size + 1 ≤ W.heap.size ∧ Below w.heap.size w W) := Lib.hid fun W h =>
    ⟨(h.block _ (by omega)).trans HF.out, by have := h.size; rw [Hz0.out] at this; exact this, Hb0.out.trans (h.mono (by omega))⟩
  clear hR h hF hW0 hb0 hz0 hwide
  go_enter Tryd.func21, Tryd.ntmps21
  go_wp2_with fail
  rw [HW.out]
  refine BundleFault_calls l _ _ (H.out.up Hb0.out Hb0.out.size) _ (fun w1 hb1 => ?_)
  rw [Hz0.out] at hb1
  obtain ⟨k2, k3, k4⟩ := HK.out _ hb1
  obtain ⟨d0, d1, y0, y1⟩ := cells_of_block k2
  have hp1 : w.heap.size < w1.heap.size := by omega
  have HF1 := Lib.hid k2
  have Hk4 := Lib.hid k4
  have Hb1 := Lib.hid hb1
  have hfz := fun h => (bunF_ok (l := l) h).1
  obtain ⟨⟨c, a⟩, hFa⟩ : ∃ F, F = bunF l := ⟨_, rfl⟩
  rw [← hFa] at hfz ⊢
  have Hfa := Lib.hid hFa
  simp only [] at hfz ⊢
  clear hb1 k2 k4 hFa HW
  by_cases hc : c = 0
  rotate_left
  · have hq : (c != 0) = true := by simp [hc]
    have hsb := pack_bad (l := l) (by rw [← Hfa.out]; exact hc)
    have hret := HR.out
    rw [hsb.1, hsb.2, ← Hfa.out] at hret
    have Hret := Lib.hid hret
    clear hfz hc hret hsb
    go_wp2
    go_region
    all_goals
      go_wp2
      refine bodyPost_ret (v := .tuple #[.slice none 0 0, .agg #[.int .i64 c, .int .i64 a]]) (res_slF (by rfl) (by rfl) (by rfl) (blkp HF1.out)) rfl ?_
      have hb := Hk4.out
      refine Hret.out _ _ ?_ (buf_nil _ _)
      exact bl0
  · have hca := hfz hc
    simp only [Prod.mk.injEq] at hca
    obtain ⟨rfl, rfl⟩ := hca
    have hok := (bunF_ok (l := l) (by rw [← Hfa.out])).2
    have Hok := Lib.hid hok
    have HA : Hid (∀ W, Below w1.heap.size w1 W → rpObject.SL W W.heap.size l (.slice A1 l.length n1)) := Lib.hid fun W h => by
      have hb := Hk4.out.trans (h.mono (by omega))
      exact H.out.up hb hb.size
    clear hfz hc hok
    go_wp2_with fail
    have hal : Below w1.heap.size w1 (w1.alloc (Obj.cells #[.int .i64 0, .int .i64 0] 25)) := (Below.refl _ _).alloc (Nat.le_refl _) _
    refine BundleBytes_calls l _ _ (HA.out _ hal) Hok.out Hwide.out _ (fun w2 v2 hb2 hbuf2 => ?_)
    have hz2 := hb2.size
    have hbel2 := Hb1.out.trans (hal.trans (hb2.mono (by simp)) |>.mono (by omega))
    obtain ⟨k2, k3, k4⟩ := HK.out _ hbel2
    obtain ⟨d0, d1, y0, y1⟩ := cells_of_block k2
    obtain ⟨A3, c3, rfl⟩ := hbuf2.slice
    have hq1 : w.heap.size < w2.heap.size := by omega
    have HF2 := Lib.hid k2
    have Hk2 := Lib.hid k4
    have Hbuf2 := Lib.hid (hbuf2.base (b' := w.heap.size + 1) (by simp; omega))
    obtain ⟨L, hL⟩ : ∃ L, L = packB l := ⟨_, rfl⟩
    rw [← hL] at Hbuf2 ⊢
    have HL := Lib.hid hL
    clear hb2 hbuf2 hbel2 k2 k4 hal hL
    by_cases hl : 90000 < L.length
    · have hli : (90000 : Int) < (L.length : Int) := by omega
      have hsb := pack_long Hfa.out.symm (by rw [← HL.out]; exact hl)
      have hr2 := HR.out
      rw [hsb.1, hsb.2] at hr2
      have Hr2 := Lib.hid hr2
      clear hl hr2 hsb
      go_wp2
      refine bodyPost_ret (v := .tuple #[.slice none 0 0, .agg #[.int .i64 10, .int .i64 0]]) (res_slF (by rfl) (by rfl) (by rfl) (blkp HF2.out)) rfl ?_
      have hb := Hk2.out
      refine Hr2.out _ _ ?_ (buf_nil _ _)
      exact bl0
    · have hli : ¬ (90000 : Int) < (L.length : Int) := by omega
      have hsb := pack_fine Hfa.out.symm (by rw [← HL.out]; exact hl)
      have hr2 := HR.out
      rw [hsb.1, hsb.2, ← HL.out] at hr2
      have Hr2 := Lib.hid hr2
      clear hl hr2 hsb
      go_wp2
      refine bodyPost_ret (v := .tuple #[.slice A3 L.length c3, .agg #[.int .i64 0, .int .i64 0]]) (res_slF (by rfl) (by rfl) (by rfl) (blkp HF2.out)) rfl ?_
      have hb := Hk2.out
      have hbb := ((Hbuf2.out.grew (Grew.of_grown (grown_setCell w2 ⟨w.heap.size, 0, none⟩ (.int .i64 0))) (fun k hk e => by have := (Hbuf2.out.lt k hk).1; have := Option.some.inj e; simp at this; omega)).grew (Grew.of_grown (grown_setCell _ ⟨w.heap.size, 1, none⟩ (.int .i64 0))) (fun k hk e => by have := (Hbuf2.out.lt k hk).1; have := Option.some.inj e; simp at this; omega)).base (b' := w.heap.size) (by omega)
      refine Hr2.out _ _ ?_ hbb
      exact bl0

set_option maxRecDepth 100000 in
set_option maxHeartbeats 4000000 in
theorem PackSays_calls (l : List Object) (v : Value) (w : World) (h : rpObject.SL w w.heap.size l v) (hwide : ∀ o ∈ l, Wide o) (hS : Shapes w) (R : Ending → World → Prop)
    (hR : ∀ w', Below w.heap.size w w' → R (.returned (.bool true)) w') :
    Calls Tryd.prog 6 #[v] w R := by
  have h0 := hS.1
  obtain ⟨A1, n1, rfl, hm1, hcap1, h⟩ := h.cases_
  have HS := Lib.hid hS
  have HR := Lib.hid hR
  have H := Lib.hid h
  have Hwide := Lib.hid hwide
  obtain ⟨F, hF⟩ : ∃ F, F = packF l := ⟨_, rfl⟩
  obtain ⟨L, hL⟩ : ∃ L, L = packO l := ⟨_, rfl⟩
  have HF := Lib.hid hF
  have HL := Lib.hid hL
  clear hS hR h hwide hF hL
  go_enter Tryd.func6, Tryd.ntmps6
  go_wp2_with fail
  refine Pack_calls l _ _ H.out Hwide.out HS.out _ (fun w1 u1 hb1 hu1 => ?_)
  rw [← HF.out]
  rw [← HL.out] at hu1
  obtain ⟨B1, m1, rfl⟩ := hu1.slice
  have hz1 := hb1.size
  have HU := Lib.hid hu1
  have Hb1 := Lib.hid hb1
  clear hu1 hb1
  go_wp2_with fail
  obtain ⟨W1, hW1⟩ : ∃ W1, W1 = w1.alloc (Obj.cells #[.int .i64 F.1, .int .i64 F.2] 25) := ⟨_, rfl⟩
  rw [← hW1]
  have hz2 : W1.heap.size = w1.heap.size + 1 := by subst hW1; simp
  have hV1 : W1.heap[w1.heap.size]? = some (.cells #[.int .i64 F.1, .int .i64 F.2] 25 (0, 0)) := by
    subst hW1
    exact heap_alloc_new _ _
  have hbw : Below w1.heap.size w1 W1 := by subst hW1; exact bl0
  have hbW : Below w.heap.size w W1 := Hb1.out.trans (hbw.mono Hb1.out.size)
  have HV1 := Lib.hid hV1
  have Hz2 := Lib.hid hz2
  have Hbw := Lib.hid hbw
  have HbW := Lib.hid hbW
  clear hW1 hV1 hz2 hbw hbW
  refine BundlePack_calls l _ _ (H.out.up HbW.out HbW.out.size) Hwide.out _ (fun w2 u2 hb2 hu2 => ?_)
  rw [← HF.out]
  rw [← HL.out] at hu2
  obtain ⟨B2, m2, rfl⟩ := hu2.slice
  have hz3 := hb2.size
  rw [Hz2.out] at hz3
  have hbA : Below w1.heap.size w1 w2 := Hbw.out.trans (hb2.mono (by rw [Hz2.out]; omega))
  obtain ⟨c0, c1⟩ := cells_blk ((hb2.block _ (by rw [Hz2.out]; omega)).trans HV1.out)
  have hz4 : w1.heap.size < w2.heap.size := by omega
  have hal : Below w2.heap.size w2 (w2.alloc (Obj.cells #[.int .i64 F.1, .int .i64 F.2] 25)) := (Below.refl _ _).alloc (Nat.le_refl _) _
  have k1 := conv_bytes (P := Tryd.prog) Tryd.underlying39 Tryd.underlying5 Tryd.underlying9 ((HU.out.SL (Nat.le_refl _)).up (B' := w2.heap.size + 1) (hbA.trans (hal.mono (by omega))) (by omega))
  have k2 := conv_bytes (P := Tryd.prog) Tryd.underlying39 Tryd.underlying5 Tryd.underlying9 ((hu2.SL (Nat.le_refl _)).up (B' := w2.heap.size + 1) hal (by omega))
  have hend := Lib.hid (Hb1.out.trans ((hbA.trans (hal.mono (by omega))).mono hz1))
  have hq : ∀ w, (binOp .eql 25 (.agg #[.int .i64 F.1, .int .i64 F.2]) (.agg #[.int .i64 F.1, .int .i64 F.2])).run Tryd.prog w = .ok (.bool true) w := fun w => by rw [eql_Fault]; simp
  clear hb2 hu2 hbA hal
  go_wp2
  exact HR.out _ hend.out
end Go.Proofs.YtfhnmbnniklmiaaDoor
