/- What is wrong with objects that are to stand together: bundle.fault, and the reference's BundleFault. BundleFault, as the document says it. append onto a row of names of the call's own, from any slice of names: the laws for the walk. bundle.pack: the bytes of objects that may stand together. BundleBytes, as the document says it. bundle.Pack and the document's BundlePack; the law that compares them. -/
import Derived.Test.YtcakodemngchpaaGreatDoorBase
import Derived.Test.YtcakodemngchpaaGreatDoorRows
import Derived.IntWalk
import Derived.Deep.LoopGhost
import Derived.Deep.CutBlock
import Derived.Deep.DeepCutAuto
import Derived.Outline
import Derived.Test.YtcakodemngchpaaGreatDoorBunA
import Derived.Test.YtcakodemngchpaaGreatDoorLinkA
import Derived.Deep.RegionHeld3
import Derived.Maps.AppendAt
import Derived.Laws.AppendOwnNone
import Derived.Test.YtcakodemngchpaaGreatDoorAppA
import Derived.Test.YtcakodemngchpaaGreatDoorLinkW
import Derived.Lib.SlBytesConst
import Derived.Test.YtcakodemngchpaaGreatDoorSaveA
import Derived.Deep.RegionLaw
import Derived.Test.YtcakodemngchpaaGreatDoorReadC
/- What is wrong with objects that are to stand together: bundle.fault, and the reference's BundleFault. -/
namespace Go.Proofs.YtcakodemngchpaaGreatDoor
open Go.RowKit
set_option linter.unusedSimpArgs false
set_option linter.unusedVariables false

theorem nodup_upto {l : List Object} : ∀ (k : Nat), (∀ j o, j < k → l[j]? = some o → BunOkAt l j o) → ((allS (l.take k)).map (·.name)).Nodup
  | 0, _ => by simp [allS]
  | k + 1, h => by
    have ih := nodup_upto k fun j o hj ho => h j o (by omega) ho
    cases e : l[k]? with
    | none =>
      have h1 : l.length ≤ k := List.getElem?_eq_none_iff.1 e
      rw [List.take_of_length_le h1] at ih
      rwa [List.take_of_length_le (by omega)]
    | some o =>
      rw [names_step e (h k o (by omega) e).ok ih, List.any_eq_false]
      intro s hs
      rw [(h k o (by omega) e).new s hs]
      simp
theorem pairsTo_len {l : List Object} : ∀ (k : Nat), (∀ j o, j < k → l[j]? = some o → o.sections.length ≤ 40) → (pairsTo l k).length ≤ 40 * k
  | 0, _ => by simp [pairsTo]
  | k + 1, h => by
    have ih := pairsTo_len k fun j o hj ho => h j o (by omega) ho
    rw [pairsTo, List.length_append]
    cases e : l[k]? with
    | none => simp; omega
    | some o =>
      have := h k o (by omega) e
      simp only [pairsAt, List.length_map]
      omega
theorem pairs_take {l : List Object} {n : Nat} : ∀ (k : Nat), k ≤ n → pairsTo (l.take n) k = pairsTo l k
  | 0, _ => rfl
  | k + 1, h => by rw [pairsTo, pairsTo, pairs_take k (by omega), List.getElem?_take, if_pos (by omega)]
theorem take_nodup {l : List Object} {k : Nat} (hk : k < l.length) : ((pairsTo (l.take (k + 1)) (l.take (k + 1)).length).map Prod.fst).Nodup ↔ ((allS (l.take (k + 1))).map (·.name)).Nodup := by
  rw [List.length_take, Nat.min_eq_left (by omega), pairs_take (k + 1) (Nat.le_refl _), pairsTo_names]

set_option maxRecDepth 100000 in
set_option maxHeartbeats 4000000 in
theorem bunFault_calls (l : List Object) (v : Value) (w : World) (h : rpObject.SL w w.heap.size l v) (hS : Shapes w) (R : Ending → World → Prop)
    (hR : ∀ w', Below w.heap.size w w' → R (.returned (.agg #[.int .i64 (bunF l).1, .int .i64 (bunF l).2])) w') : Calls Tryz.prog 13 #[v] w R := by
  have h0 := hS.1
  obtain ⟨A, c, rfl, hm, hcap, h⟩ := h.cases_
  have HR := Lib.hid hR
  have H := Lib.hid h
  have HSh := Lib.hid hS
  obtain ⟨W0, hW0⟩ : ∃ W0, W0 = w.alloc (Obj.cells #[.int .i64 0, .int .i64 0] 27) := ⟨_, rfl⟩
  have hb0 : Below w.heap.size w W0 := by subst hW0; exact bl0
  have hz0 : W0.heap.size = w.heap.size + 1 := by subst hW0; simp
  have hQ : W0.heap[w.heap.size]? = some (.cells #[.int .i64 0, .int .i64 0] 27 (0, 0)) := by subst hW0; exact heap_alloc_new _ _
  have HW := Lib.hid hW0.symm
  have HQ := Lib.hid hQ
  have Hb0 := Lib.hid hb0
  have Hz0 := Lib.hid hz0
  have hl0 : w.heap.size < W0.heap.size := by omega
  have HF : Hid (∀ (W : World) (c a : Int), Below W0.heap.size W0 W → bunF l = (c, a) → R (.returned (.agg #[.int .i64 c, .int .i64 a])) ((W.setCell ⟨w.heap.size, 0, none⟩ (.int .i64 c)).setCell ⟨w.heap.size, 1, none⟩ (.int .i64 a))) := Lib.hid fun W c a hb e => by
    have := HR.out ((W.setCell ⟨w.heap.size, 0, none⟩ (.int .i64 c)).setCell ⟨w.heap.size, 1, none⟩ (.int .i64 a)) (((Hb0.out.trans (hb.mono (by rw [Hz0.out]; omega))).setCell (p := ⟨w.heap.size, 0, none⟩) (Nat.le_refl _) _).setCell (p := ⟨w.heap.size, 1, none⟩) (Nat.le_refl _) _)
    rw [e] at this
    exact this
  clear hR h hS hW0 hb0 hQ
  by_cases e1 : 12 < l.length
  · have i1 : (12 : Int) < (l.length : Int) := by omega
    have hbF : bunF l = (2, 0) := by unfold bunF; rw [if_pos e1]
    have HbF := Lib.hid hbF
    clear e1 hz0 hbF
    go_enter Tryz.func13, Tryz.ntmps13
    go_upto_region 1 with fail
    rw [HW.out]
    go_wp2_with fail
    refine Fault_calls 2 0 _ _ (fun w6 hb6 => ?_)
    have hQ6 := (hb6.block _ hl0).trans HQ.out
    have hfin := Lib.hid (HF.out w6 2 0 hb6 HbF.out)
    have HQ6 := Lib.hid hQ6
    obtain ⟨q0, q1, z0, z1⟩ := cells_of_block hQ6
    have hl6 := blk_lt hQ6
    clear hb6 hQ6
    go_wp2
    exact bodyPost_ret (v := .agg #[.int .i64 2, .int .i64 0]) (res_Fault (by rfl) (by rfl) (cells_blk (blkp HQ6.out))) rfl hfin.out
  have hl12 : l.length ≤ 12 := by omega
  have i1 : ¬ (12 : Int) < (l.length : Int) := by omega
  have hlf : bunF l = bunFrom l (l.length - 0) 0 := by unfold bunF; rw [if_neg e1]; rfl
  have Hlf := Lib.hid hlf
  clear e1 hlf
  go_enter Tryz.func13, Tryz.ntmps13
  go_upto_region 1 with fail
  rw [HW.out]
  go_wp2_with fail
  go_loopg [3, 4, 5, 6, 7, 14] l.length (fun g s3 s4 s5 s6 s7 s14 wr => ∃ k : Nat, k ≤ l.length ∧ g = l.length - k ∧ s14 = .int .i64 (k : Int) ∧ bunF l = bunFrom l (l.length - k) k ∧ (∀ j o, j < k → l[j]? = some o → BunOkAt l j o) ∧ Below W0.heap.size W0 wr)
  case atStart => exact ⟨0, Nat.zero_le _, rfl, rfl, Hlf.out, fun j o h => absurd h (Nat.not_lt_zero _), Below.refl _ _⟩
  case round =>
    obtain ⟨k, hk, rfl, rfl, hlk, hpre, hbel⟩ := hrel
    have Hlk := Lib.hid hlk
    have Hpre := Lib.hid hpre
    have Hbel := Lib.hid hbel
    have hbw := Hb0.out.trans (hbel.mono (by omega))
    have Hbw := Lib.hid hbw
    have hz := hbel.size
    have hlr : w.heap.size < wr.heap.size := by omega
    have j1 : (0 : Int) ≤ (k : Int) := Int.natCast_nonneg _
    by_cases hlt : k < l.length
    · obtain ⟨b, off, o, v1, v2, rfl, hb, e, h1, h2, r0, r1⟩ := H.out.object_at hlt
      obtain ⟨A1, n1, rfl, _, _, h1⟩ := h1.cases_
      obtain ⟨A2, n2, rfl, _, _, h2⟩ := h2.cases_
      have p0 := (hbw.cell (p := ⟨b, off + k * 2, none⟩) hb).trans r0
      have p1 := (hbw.cell (p := ⟨b, off + k * 2 + 1, none⟩) hb).trans r1
      have j2 : (k : Int) < (l.length : Int) := by omega
      have E := Lib.hid e
      have H1 := Lib.hid h1
      have H2 := Lib.hid h2
      obtain ⟨F, hF⟩ : ∃ F, F = objFault o := ⟨_, rfl⟩
      have hFz := objFault_fst o
      rw [← hF] at hFz
      have HFo := Lib.hid hF
      obtain ⟨W3, hW3⟩ : ∃ W3, W3 = wr.alloc (Obj.cells #[.slice A1 o.globals.length n1, .slice A2 o.sections.length n2] 40) := ⟨_, rfl⟩
      have hV3 : W3.heap[wr.heap.size]? = some (.cells #[.slice A1 o.globals.length n1, .slice A2 o.sections.length n2] 40 (0, 0)) := by subst hW3; exact heap_alloc_new _ _
      have hb3 : Below wr.heap.size wr W3 := by subst hW3; exact bl0
      have HW3 := Lib.hid hW3.symm
      have HV3 := Lib.hid hV3
      have Hb3 := Lib.hid hb3
      have hl3 : wr.heap.size < W3.heap.size := blk_lt hV3
      obtain ⟨u0, u1, _, _⟩ := cells_of_block hV3
      clear r0 r1 e h1 h2 hF hW3 hV3 hb3 hlk hpre hbel hbw
      go_upto_region 6 with fail
      rw [HW3.out]
      clear p0 p1
      have hbw3 := Lib.hid (Hbw.out.trans (Hb3.out.mono Hbw.out.size))
      go_wp2_with fail
      refine objCheck_calls o _ _ _ (H1.out.up hbw3.out hbw3.out.size) (H2.out.up hbw3.out hbw3.out.size) (HSh.out.up hbw3.out h0) _ (fun w4 hb4 => ?_)
      rw [← HFo.out]
      obtain ⟨fc, fa⟩ := F
      simp only [] at hFz ⊢
      obtain ⟨W5, hW5⟩ : ∃ W5, W5 = w4.alloc (Obj.cells #[.int .i64 fc, .int .i64 fa] 27) := ⟨_, rfl⟩
      have hz4 := hb4.size
      have hV5 : W5.heap[w4.heap.size]? = some (.cells #[.int .i64 fc, .int .i64 fa] 27 (0, 0)) := by subst hW5; exact heap_alloc_new _ _
      have hb45 : Below w4.heap.size w4 W5 := by subst hW5; exact bl0
      have hb35 : Below W3.heap.size W3 W5 := hb4.trans (hb45.mono hz4)
      have hb5 : Below wr.heap.size wr W5 := Hb3.out.trans (hb35.mono Hb3.out.size)
      have hb05 := Hbel.out.trans (hb5.mono Hbel.out.size)
      have hbw5 := Hbw.out.trans (hb5.mono Hbw.out.size)
      have hQ5 := (hb05.block _ hl0).trans HQ.out
      have HW5 := Lib.hid hW5.symm
      have Hb05 := Lib.hid hb05
      have Hbw5 := Lib.hid hbw5
      have HQ5 := Lib.hid hQ5
      clear u0 u1
      obtain ⟨f0, f1, _, _⟩ := cells_of_block hV5
      obtain ⟨q0, q1, z0, z1⟩ := cells_of_block hQ5
      have hl5 : w4.heap.size < W5.heap.size := blk_lt hV5
      have hlQ5 : w.heap.size < W5.heap.size := blk_lt hQ5
      clear hb4 hW5 hV5 hb45 hb35 hb5 hb05 hbw5 hQ5
      go_upto_region 7 with fail
      rw [HW5.out]
      by_cases hc : fc = 0
      rotate_left
      · have hq : ∀ w, (binOp .neq 27 (.agg #[.int .i64 fc, .int .i64 fa]) (.agg #[.int .i64 0, .int .i64 0])).run Tryz.prog w = .ok (.bool true) w := fun w => by
          rw [neq_Fault]
          simp [hc]
        have hlf : bunF l = (fc, (k : Int)) := by
          have ha : bunAt l k o = (fc, (k : Int)) := by
            unfold bunAt
            rw [← HFo.out, if_pos hc]
          rw [Hlk.out, bunFrom_stop E.out (by rw [ha]; exact hc), ha]
        have Hlf2 := Lib.hid hlf
        clear hc hFz hlf
        go_wp2_with fail
        refine Fault_calls fc (k : Int) _ _ (fun w6 hb6 => ?_)
        have hQ6 := (hb6.block _ hlQ5).trans HQ5.out
        have hfin := Lib.hid (HF.out w6 fc (k : Int) (Hb05.out.trans (hb6.mono Hb05.out.size)) Hlf2.out)
        have HQ6 := Lib.hid hQ6
        clear q0 q1 z0 z1 f0 f1
        obtain ⟨q0, q1, z0, z1⟩ := cells_of_block hQ6
        have hl6 := blk_lt hQ6
        clear hb6 hQ6
        go_wp2
        exact bodyPost_ret (v := .agg #[.int .i64 fc, .int .i64 (k : Int)]) (res_Fault (by rfl) (by rfl) (cells_blk (blkp HQ6.out))) rfl hfin.out
      · have he := hFz hc
        cases he
        clear hFz hc
        have hq : ∀ w, (binOp .neq 27 (.agg #[.int .i64 0, .int .i64 0]) (.agg #[.int .i64 0, .int .i64 0])).run Tryz.prog w = .ok (.bool false) w := fun w => neq_Fault 0 0 0 0 w
        have hok : ObjOk o := (objOk_iff o).1 HFo.out.symm
        have Hok := Lib.hid hok
        have hnd : ((allS (l.take k)).map (·.name)).Nodup := nodup_upto k Hpre.out
        have hst : ((pairsTo (l.take (k + 1)) (l.take (k + 1)).length).map Prod.fst).Nodup ↔ (o.sections.any fun s => hasS (allS (l.take k)) s.name) = false := (take_nodup hlt).trans (names_step E.out hok hnd)
        have Hst := Lib.hid hst
        have hfew : (pairsTo (l.take (k + 1)) (l.take (k + 1)).length).length ≤ 100000 := by
          rw [List.length_take, Nat.min_eq_left (by omega), pairs_take (k + 1) (Nat.le_refl _)]
          have := pairsTo_len (l := l) (k + 1) fun j o' hj ho => by
            rcases Nat.lt_or_ge j k with h1 | h1
            · exact (Hpre.out j o' h1 ho).ok.few
            · obtain rfl : j = k := by omega
              obtain rfl : o = o' := Option.some.inj (E.out.symm.trans ho)
              exact hok.few
          omega
        have Hfew := Lib.hid hfew
        have Htk := Lib.hid ((H.out.take_ (show k + 1 ≤ l.length by omega)).up Hbw5.out Hbw5.out.size)
        have w1 : IntKind.i64.wrap ((k : Int) + 1) = (k : Int) + 1 := IntWalk.i64_in _ (by omega)
        have htn : ((k : Int) + 1).toNat = k + 1 := by omega
        have b1 : (0 : Int) ≤ (k : Int) + 1 := by omega
        have b2 : (k : Int) + 1 ≤ (c : Int) := by omega
        clear hok hnd hst hfew
        go_wp2_with fail
        refine index_calls (l.take (k + 1)) _ _ Htk.out Hfew.out _ (fun hnd w6 v6 hb6 hown6 => ?_) (fun hnd m w6 hb6 => ?_)
        · obtain ⟨A6, c6, rfl⟩ := own_slice hown6
          have hnew := Hst.out.1 hnd
          have hat : BunOkAt l k o := ⟨Hok.out, fun s hs => by
            have := List.any_eq_false.1 hnew s hs
            simpa using this⟩
          have hlk2 : bunF l = bunFrom l (l.length - (k + 1)) (k + 1) := by
            rw [Hlk.out, bunFrom_step E.out (by rw [bunAt_good hat])]
          have hpre2 : ∀ j o', j < k + 1 → l[j]? = some o' → BunOkAt l j o' := fun j o' hj ho => by
            rcases Nat.lt_or_ge j k with h1 | h1
            · exact Hpre.out j o' h1 ho
            · obtain rfl : j = k := by omega
              obtain rfl : o = o' := Option.some.inj (E.out.symm.trans ho)
              exact hat
          have Hlk2 := Lib.hid hlk2
          have Hpre2 := Lib.hid hpre2
          have Hb6 := Lib.hid (Hb05.out.trans (hb6.mono Hb05.out.size))
          clear hnew hat hlk2 hpre2 hb6 hown6 hnd q0 q1 z0 z1 f0 f1
          go_wp2
          go_roundg (l.length - (k + 1))
          case measure => omega
          case rel => exact ⟨k + 1, hlt, rfl, by go_num, Hlk2.out, Hpre2.out, Hb6.out⟩
        · have hany : (o.sections.any fun s => hasS (allS (l.take k)) s.name) = true := by
            cases hx : o.sections.any fun s => hasS (allS (l.take k)) s.name with
            | true => rfl
            | false => exact absurd (Hst.out.2 hx) hnd
          have hlf : bunF l = (7, (k : Int)) := by
            have ha : bunAt l k o = (7, (k : Int)) := by
              unfold bunAt
              rw [← HFo.out, if_neg (by simp), if_pos hany]
            rw [Hlk.out, bunFrom_stop E.out (by rw [ha]; simp), ha]
          have Hlf2 := Lib.hid hlf
          have Hb6 := Lib.hid (Hb05.out.trans (hb6.mono Hb05.out.size))
          have m0 : (0 : Int) ≤ (m : Int) := Int.natCast_nonneg _
          clear hany hlf hnd hb6 q0 q1 z0 z1 f0 f1
          go_wp2_with fail
          refine Fault_calls 7 (k : Int) _ _ (fun w7 hb7 => ?_)
          have hb07 := Hb6.out.trans (hb7.mono Hb6.out.size)
          have hQ7 := (hb07.block _ hl0).trans HQ.out
          have hfin := Lib.hid (HF.out w7 7 (k : Int) hb07 Hlf2.out)
          have HQ7 := Lib.hid hQ7
          obtain ⟨q0, q1, z0, z1⟩ := cells_of_block hQ7
          have hl7 := blk_lt hQ7
          clear hb7 hQ7 hb07
          go_wp2
          exact bodyPost_ret (v := .agg #[.int .i64 7, .int .i64 (k : Int)]) (res_Fault (by rfl) (by rfl) (cells_blk (blkp HQ7.out))) rfl hfin.out
    · obtain rfl : k = l.length := by omega
      have j2 : ¬ (l.length : Int) < (l.length : Int) := by omega
      have hQr := (hbel.block _ hl0).trans HQ.out
      have hfin := Lib.hid (HF.out wr 0 0 hbel (by rw [hlk, bunFrom_end]))
      have HQr := Lib.hid hQr
      obtain ⟨q0, q1, z0, z1⟩ := cells_of_block hQr
      clear hlk hpre hbel hbw hQr
      go_wp2
      exact bodyPost_ret (v := .agg #[.int .i64 0, .int .i64 0]) (res_Fault (by rfl) (by rfl) (cells_blk (blkp HQr.out))) rfl hfin.out
end Go.Proofs.YtcakodemngchpaaGreatDoor

/- BundleFault, as the document says it. -/
namespace Go.Proofs.YtcakodemngchpaaGreatDoor
open Go.RowKit
set_option linter.unusedSimpArgs false
set_option linter.unusedVariables false

end Go.Proofs.YtcakodemngchpaaGreatDoor

/- append onto a row of names of the call's own, from any slice of names: the laws for the walk. -/
namespace Go.Proofs.YtcakodemngchpaaGreatDoor
open Go.RowKit
set_option linter.unusedSimpArgs false
set_option linter.unusedVariables false

end Go.Proofs.YtcakodemngchpaaGreatDoor

/- bundle.pack: the bytes of objects that may stand together. -/
namespace Go.Proofs.YtcakodemngchpaaGreatDoor
open Go.RowKit
set_option linter.unusedSimpArgs false
set_option linter.unusedVariables false

set_option maxRecDepth 100000 in
set_option maxHeartbeats 4000000 in
theorem bunText_calls (v : Value) (bs : List UInt8) (s : ByteArray) (base : Nat) (w : World) (hB : Buf w base v bs) (hlen : bs.length ≤ 1099511627776) (hs : s.size ≤ 1099511627776) (hbase : base ≤ w.heap.size) (R : Ending → World → Prop)
    (hR : ∀ w' v', Grew (fun k => v.ownBlock = some k) w w' → Buf w' base v' (bs ++ textB s) → Came w v v' → R (.returned v') w') :
    Calls Tryz.prog 31 #[v, .string s] w R := by
  obtain ⟨A, c, rfl⟩ := hB.slice
  have i1 : (s.size : Int) ≤ 1099511627776 := by omega
  have HR := Lib.hid hR
  have HB := Lib.hid hB
  clear hR hB
  go_enter Tryz.func31, Tryz.ntmps31
  go_wp2_with fail
  refine bNumber_calls _ bs s.size base _ HB.out (by omega) hlen hbase _ (fun w1 v1 hg1 hb1 hc1 => ?_)
  have hl := numB_len s.size
  have hz := hg1.size
  obtain ⟨A1, c1, rfl⟩ := hb1.slice
  have Hb1 := Lib.hid hb1
  have Hg1 := Lib.hid hg1
  have Hc1 := Lib.hid hc1
  have hcl : (bs ++ numB s.size).length ≤ 1099511627786 := by rw [List.length_append]; omega
  have htb : bs ++ textB s = (bs ++ numB s.size) ++ s.data.toList := by unfold textB; rw [List.append_assoc]
  have Htb := Lib.hid htb
  generalize bs ++ numB s.size = cur at *
  clear hb1 hg1 hc1 htb hl
  go_wp2_with (at_builtin; refine wpList_app_str _ rfl _ _ _ rfl Tryz.underlying25 rfl Hb1.out rfl (by omega) (by omega) ?_)
  intro v2 w2 hb2 hg2 hc2
  have hfin := HR.out w2 v2 (Hg1.out.trans hg2 (fun j hj e => by
    rcases Hc1.out j e with h | h
    · exact h
    · omega)) (by rw [Htb.out]; exact hb2) (Hc1.out.trans hc2 hz)
  have Hfin := Lib.hid hfin
  clear hb2 hg2 hc2 hfin
  go_wp2
  exact Hfin.out

theorem Came.of_drew {w : World} {v v' : Value} (h : Came w.drew v v') : Came w v v' := h
theorem idxL_len {l : List Object} (h : BunOk l) : (idxL l).length ≤ 480 := by
  have h1 := pairsTo_len (l := l) l.length fun j o hj ho => (h.each j o ho).ok.few
  have := h.few
  unfold idxL
  rw [addE_len, List.length_nil]
  omega
theorem objB_len {o : Object} (h : ObjOk o) : (objB o).length ≤ 13000012 := by
  have h1 := bodyB_len h
  have h2 : (savedB o).length = (bodyB o).length + 2 := by unfold savedB sumB; simp
  have h3 := textB_len (strL (savedB o))
  rw [strL_size] at h3
  unfold objB
  omega
theorem idx_size {l : List Object} (h : BunOk l) {e : ByteArray × Nat} (he : e ∈ idxL l) : e.1.size ≤ 12 ∧ e.2 < 12 := by
  have h1 := idx_owner h he
  unfold idxL at he
  rw [mem_addE] at he
  rcases he with he | he
  rotate_left
  · cases he
  obtain ⟨h2, o, s, ho, hs, hn⟩ := mem_pairsTo _ he
  obtain ⟨k, hk, e⟩ := List.mem_iff_getElem.1 hs
  have h3 := ((h.each _ o ho).ok.secs k s (by rw [List.getElem?_eq_getElem hk, e])).good
  have h4 := (goodName_len h3).2
  rw [hn] at h4
  have := h.few
  exact ⟨h4, by omega⟩
theorem bunB_len {l : List Object} (h : BunOk l) : (bunB l).length ≤ 160000000 := by
  unfold bunB
  simp only [List.length_append, List.length_cons, List.length_nil]
  have h1 := flat_le entB 32 (idxL l) (fun e he => by
    have h2 := textB_len e.1
    have h3 := numB_len e.2
    have h4 := (idx_size h he).1
    unfold entB
    rw [List.length_append]
    omega)
  have h2 := flat_le objB 13000012 l (fun o ho => by
    obtain ⟨k, hk, e⟩ := List.mem_iff_getElem.1 ho
    exact objB_len (h.each k o (by rw [List.getElem?_eq_getElem hk, e])).ok)
  have h3 := numB_len l.length
  have h4 := numB_len (idxL l).length
  have h5 := Nat.mul_le_mul_right 32 (idxL_len h)
  have h6 := Nat.mul_le_mul_right 13000012 h.few
  omega
theorem bun_nodup {l : List Object} (h : BunOk l) : ((pairsTo l l.length).map Prod.fst).Nodup := by
  rw [pairsTo_names]
  exact h.nodup l.length
theorem pairs_some {l : List Object} (h : BunOk l) : (pairsTo l l.length).length ≤ 100000 := by
  have h1 := pairsTo_len (l := l) l.length fun j o hj ho => (h.each j o ho).ok.few
  have := h.few
  omega

set_option maxRecDepth 100000 in
set_option maxHeartbeats 8000000 in
theorem bunPack_calls (l : List Object) (v : Value) (w : World) (h : rpObject.SL w w.heap.size l v) (hok : BunOk l) (hwide : ∀ o ∈ l, Wide o) (R : Ending → World → Prop)
    (hR : ∀ w' v', Below w.heap.size w w' → Buf w' w.heap.size v' (packB l) → R (.returned v') w') :
    Calls Tryz.prog 14 #[v] w R := by
  obtain ⟨A, c, rfl, hm, hcap, h⟩ := h.cases_
  have HR := Lib.hid hR
  have H := Lib.hid h
  have Hok := Lib.hid hok
  have Hwide := Lib.hid hwide
  have hfew := hok.few
  have hblen := bunB_len hok
  have hilen := idxL_len hok
  have hnd := bun_nodup hok
  have hps := pairs_some hok
  clear hR h hok hwide
  go_enter Tryz.func14, Tryz.ntmps14
  go_wp2_with fail
  refine index_calls l _ _ H.out hps _ (fun _ w1 v1 hb1 hown => ?_) (fun hbad => absurd hnd hbad)
  obtain ⟨A1, c1, rfl⟩ := own_slice hown
  have Hown := Lib.hid hown
  have Hb1 := Lib.hid hb1
  have hob : OB w1.heap.size (.slice (some ⟨w1.heap.size, 0, none⟩) 3 3) [76, 73, 66] w1 (w1.alloc (Obj.cells #[.int .u8 76, .int .u8 73, .int .u8 66] 5 (3, 4))) := by
    refine ⟨.inr ⟨by decide, by decide, w1.heap.size, _, _, rfl, Nat.le_refl _, heap_alloc_new _ _, rfl⟩, (Below.refl _ _).alloc (Nat.le_refl _) _, Nat.le_refl _⟩
  have hcv : (convert 25 25 (.slice (some ⟨w1.heap.size, 0, none⟩) 3 3)).run Tryz.prog (w1.alloc (Obj.cells #[.int .u8 76, .int .u8 73, .int .u8 66] 5)) = .ok (.slice (some ⟨w1.heap.size, 0, none⟩) 3 3) (w1.alloc (Obj.cells #[.int .u8 76, .int .u8 73, .int .u8 66] 5 (3, 4))) := by
    have := Lib.run_convert_bytes_const (P := Tryz.prog) w1 25 5 #[.int .u8 76, .int .u8 73, .int .u8 66] 3 3 Tryz.underlying25 Tryz.underlying5
    simpa using this
  have Hob := Lib.hid hob
  have i0 : (l.length : Int) ≤ 12 := by omega
  have i1 : ((idxL l).length : Int) ≤ 480 := by omega
  clear hown hb1 hob hnd hps
  go_wp2_with fail
  refine bNumber_calls _ [76, 73, 66] l.length w1.heap.size _ Hob.out.buf (by omega) (by decide) Hob.out.base _ (fun w2 v2 hg2 hb2 hc2 => ?_)
  have hob2 := Hob.out.app hb2 hg2
  have hl2 := numB_len l.length
  obtain ⟨A2, c2, rfl⟩ := hb2.slice
  have Hob2 := Lib.hid hob2
  clear hob2 hg2 hb2 hc2 Hob hcv
  go_wp2_with fail
  refine bNumber_calls _ ([76, 73, 66] ++ numB l.length) (idxL l).length w1.heap.size _ Hob2.out.buf (by omega) (by simp; omega) Hob2.out.base _ (fun w3 v3 hg3 hb3 hc3 => ?_)
  have hob3 := Hob2.out.app hb3 hg3
  have htot : [76, 73, 66] ++ numB l.length ++ numB (idxL l).length ++ ((idxL l).flatMap entB ++ l.flatMap objB) = bunB l := by
    unfold bunB
    simp only [List.append_assoc]
  have Htot := Lib.hid htot
  generalize [76, 73, 66] ++ numB l.length ++ numB (idxL l).length = cur0 at *
  obtain ⟨A3, c3, rfl⟩ := hb3.slice
  have Hob3 := Lib.hid hob3
  clear hob3 hg3 hb3 hc3 Hob2 htot hl2
  go_upto_block 0 with fail
  go_cut [5] (fun s5 wx => ∃ cur, cur ++ l.flatMap objB = bunB l ∧ OB w1.heap.size s5 cur w1 wx)
  case first =>
    go_wp2_with fail
    go_loopg [5, 7, 28] (idxL l).length (fun gh s5 s7 i wr => ∃ (k : Nat) (cur : List UInt8), k ≤ (idxL l).length ∧ gh = (idxL l).length - k ∧ i = .int .i64 k ∧ cur ++ (((idxL l).drop k).flatMap entB ++ l.flatMap objB) = bunB l ∧ OB w1.heap.size s5 cur w1 wr)
    case atStart => exact ⟨0, _, Nat.zero_le _, rfl, rfl, Htot.out, Hob3.out⟩
    case round =>
      obtain ⟨k, cur, hk, rfl, rfl, hcur, hob⟩ := hrel
      have hcl : cur.length ≤ 160000000 := by have := congrArg List.length hcur; rw [List.length_append] at this; omega
      obtain ⟨A6, c6, rfl⟩ := hob.buf.slice
      have Hcur := Lib.hid hcur
      have Hob := Lib.hid hob
      have j1 : (0 : Int) ≤ (k : Int) := Int.natCast_nonneg _
      clear hcur hob
      by_cases hlt : k < (idxL l).length
      · obtain ⟨x, hx⟩ : ∃ x, (idxL l)[k]? = some x := ⟨_, List.getElem?_eq_getElem hlt⟩
        have hsz := idx_size Hok.out (List.mem_of_getElem? hx)
        obtain ⟨g, rfl, hbg, hgl, hnc, p0, p1⟩ := own_ent Hown.out hx
        have p0 := (Hob.out.bel.cell (p := ⟨g, k * 2, none⟩) hgl).trans p0
        have p1 := (Hob.out.bel.cell (p := ⟨g, k * 2 + 1, none⟩) hgl).trans p1
        have hst := flat_step entB hx
        have Hst := Lib.hid hst
        obtain ⟨nm, ow⟩ := x
        simp only [] at hsz p0 p1
        have j2 : (k : Int) < ((idxL l).length : Int) := by omega
        have o0 : (0 : Int) ≤ (ow : Int) := Int.natCast_nonneg _
        have o1 : (ow : Int) < 12 := by omega
        have o2 : IntKind.u64.wrap (ow : Int) = (ow : Int) := by rw [IntKind.wrap_u64]; omega
        obtain ⟨wa, hwa⟩ : ∃ wa, wa = wr.alloc (Obj.cells #[.string nm, .int .i64 (ow : Int)] 92) := ⟨_, rfl⟩
        have hV : wa.heap[wr.heap.size]? = some (.cells #[.string nm, .int .i64 (ow : Int)] 92 (0, 0)) := by subst hwa; exact heap_alloc_new _ _
        have hba : Below wr.heap.size wr wa := by subst hwa; exact bl0
        have hoba := Hob.out.below hba
        have Hoba := Lib.hid hoba
        have Hobd := Lib.hid (hoba.below (w' := wa.drew) ((Below.refl _ _).drew))
        have hVl := blk_lt hV
        have hne : (Value.slice A6 cur.length c6).ownBlock ≠ some wr.heap.size := fun e => by have := (Hob.out.buf.lt _ e).2; omega
        have Hne := Lib.hid hne
        have HSS : Hid (∀ W : World, W.heap[wr.heap.size]? = wa.heap[wr.heap.size]? → (fun W : World => W.cell? ⟨wr.heap.size, 0, none⟩ = some (.string nm) ∧ W.cell? ⟨wr.heap.size, 1, none⟩ = some (.int .i64 (ow : Int))) W) := Lib.hid fun W hW => cells_blk (hW.trans hV)
        have HW := Lib.hid hwa.symm
        have hS0 := HSS.out wa.drew rfl
        have hSa := HSS.out wa rfl
        have hnm : nm.size ≤ 1099511627776 := by omega
        have hcb : cur.length ≤ 1099511627776 := by omega
        clear hx hst hwa hV hba hoba hne
        go_upto_region 6 with fail
        rw [HW.out]
        clear p0 p1
        go_region_held3 (fun W : World => W.cell? ⟨wr.heap.size, 0, none⟩ = some (.string nm) ∧ W.cell? ⟨wr.heap.size, 1, none⟩ = some (.int .i64 (ow : Int))) (first | exact hS0 | exact hSa | exact hS5 | exact hS6) (first
          | (go_at_call 31; with_reducible refine bunText_calls _ cur nm w1.heap.size _ (by first | with_reducible exact Hoba.out.buf | with_reducible exact Hobd.out.buf) hcb hnm (by first | with_reducible exact Hoba.out.base | with_reducible exact Hobd.out.base) _ ?_; intro w5 v5 hg5 hb5 hc5; have hgg5 : Grew (fun k => (Value.slice A6 cur.length c6).ownBlock = some k) wa w5 := (by first | with_reducible exact hg5 | with_reducible exact hg5.of_drew); have hS5 := HSS.out w5 (hgg5.block _ hVl Hne.out); have Hob5 := Lib.hid (Hoba.out.app hb5 hgg5); have HB5 := Lib.hid (hgg5.block _ hVl Hne.out); have hz5 := hgg5.size; have hcc5 : Came wa (Value.slice A6 cur.length c6) v5 := (by first | with_reducible exact hc5 | with_reducible exact Came.of_drew hc5); have Hne5 := Lib.hid (hcc5.ne Hne.out hVl); clear hg5 hb5 hc5 hgg5 hcc5)
          | (go_at_call 30; with_reducible refine bNumber_calls _ (cur ++ textB nm) ow w1.heap.size _ Hob5.out.buf (by omega) (by have := textB_len nm; rw [List.length_append]; omega) Hob5.out.base _ ?_; intro w6 v6 hg6 hb6 hc6; have Hob6 := Lib.hid (Hob5.out.app hb6 hg6); have hS6 := HSS.out w6 ((hg6.block _ (by omega) Hne5.out).trans HB5.out); clear hg6 hb6 hc6))
        all_goals
          go_wp2
          go_roundg ((idxL l).length - (k + 1))
          case measure => omega
          case rel => exact ⟨k + 1, _, hlt, rfl, by go_num, by rw [← Hcur.out, Hst.out]; unfold entB; simp only [List.append_assoc], Hob6.out⟩
      · obtain rfl : k = (idxL l).length := by omega
        rw [List.drop_length] at Hcur
        have j2 : ¬ ((idxL l).length : Int) < ((idxL l).length : Int) := by omega
        go_wp2
        go_meet
        exact ⟨_, Hcur.out, Hob.out⟩
  case rest =>
    obtain ⟨cur1, hcur1, hob1⟩ := hcut
    rename World => wc
    have Hcur1 := Lib.hid hcur1
    have Hob1 := Lib.hid hob1
    clear hcur1 hob1 Hob3 Htot
    go_upto_block 2 with fail
    go_cut [5] (fun s5 wx => OB w1.heap.size s5 (bunB l) w1 wx)
    case first =>
      go_wp2_with fail
      go_loopg [5, 9, 43] l.length (fun gh s5 s9 i wr => ∃ (k : Nat) (cur : List UInt8), k ≤ l.length ∧ gh = l.length - k ∧ i = .int .i64 k ∧ cur ++ (l.drop k).flatMap objB = bunB l ∧ OB w1.heap.size s5 cur w1 wr)
      case atStart => exact ⟨0, _, Nat.zero_le _, rfl, rfl, Hcur1.out, Hob1.out⟩
      case round =>
        obtain ⟨k, cur, hk, rfl, rfl, hcur, hob⟩ := hrel
        have hcl : cur.length ≤ 160000000 := by have := congrArg List.length hcur; rw [List.length_append] at this; omega
        obtain ⟨A6, c6, rfl⟩ := hob.buf.slice
        have hbw := Hb1.out.trans (hob.bel.mono Hb1.out.size)
        have Hcur := Lib.hid hcur
        have Hob := Lib.hid hob
        have j1 : (0 : Int) ≤ (k : Int) := Int.natCast_nonneg _
        clear hcur hob
        by_cases hlt : k < l.length
        · obtain ⟨b, off, o, v1, v2, rfl, hb, e, h1, h2, r0, r1⟩ := H.out.object_at hlt
          have p0 := (hbw.cell (p := ⟨b, off + k * 2, none⟩) hb).trans r0
          have p1 := (hbw.cell (p := ⟨b, off + k * 2 + 1, none⟩) hb).trans r1
          have j2 : (k : Int) < (l.length : Int) := by omega
          have hst := flat_step objB e
          have Hst := Lib.hid hst
          have hoo := (Hok.out.each k o e).ok
          have hwo := Hwide.out o (List.mem_of_getElem? e)
          have hsl : (savedB o).length ≤ 13000002 := by
            have h5 := bodyB_len hoo
            have h6 : (savedB o).length = (bodyB o).length + 2 := by unfold savedB sumB; simp
            omega
          obtain ⟨wa, hwa⟩ : ∃ wa, wa = wr.alloc (Obj.cells #[v1, v2] 40) := ⟨_, rfl⟩
          have hV : wa.heap[wr.heap.size]? = some (.cells #[v1, v2] 40 (0, 0)) := by subst hwa; exact heap_alloc_new _ _
          have hba : Below wr.heap.size wr wa := by subst hwa; exact bl0
          have Hoba := Lib.hid (Hob.out.below hba)
          have hba0 := hbw.trans (hba.mono hbw.size)
          have H1 := Lib.hid (h1.up hba0 hba0.size)
          have H2 := Lib.hid (h2.up hba0 hba0.size)
          obtain ⟨B1, n1, rfl, _, _, _⟩ := h1.cases_
          obtain ⟨B2, n2, rfl, _, _, _⟩ := h2.cases_
          have HW := Lib.hid hwa.symm
          obtain ⟨c0, c1⟩ := cells_blk hV
          have Hoo := Lib.hid hoo
          have Hwo := Lib.hid hwo
          clear r0 r1 e hst hwa hV hba hba0 h1 h2 hoo hwo
          go_upto_region 11 with fail
          rw [HW.out]
          clear p0 p1
          go_wp2_with fail
          refine Saved_calls o _ _ _ H1.out H2.out Hoo.out Hwo.out _ (fun w5 v5 hb5 hbuf5 => ?_)
          have Hob5 := Lib.hid (Hoba.out.below hb5)
          have hcv := conv_bytes (P := Tryz.prog) Tryz.underlying25 Tryz.underlying5 Tryz.underlying9 (hbuf5.SL (Nat.le_refl _))
          obtain ⟨A7, c7, rfl⟩ := hbuf5.slice
          have hss : (strL (savedB o)).size ≤ 1099511627776 := by rw [strL_size]; omega
          clear hb5 hbuf5 c0 c1
          go_wp2_with fail
          refine bunText_calls _ cur (strL (savedB o)) w1.heap.size _ Hob5.out.buf (by omega) hss Hob5.out.base _ (fun w6 v6 hg6 hb6 hc6 => ?_)
          have Hob6 := Lib.hid (Hob5.out.app hb6 hg6)
          clear hg6 hb6 hc6 hcv
          go_wp2
          go_roundg (l.length - (k + 1))
          case measure => omega
          case rel => exact ⟨k + 1, _, hlt, rfl, by go_num, by rw [← Hcur.out, Hst.out]; unfold objB; simp only [List.append_assoc], Hob6.out⟩
        · obtain rfl : k = l.length := by omega
          rw [List.drop_length] at Hcur
          have hcb : cur = bunB l := by have := Hcur.out; simpa using this
          have Hcb := Lib.hid hcb
          have j2 : ¬ (l.length : Int) < (l.length : Int) := by omega
          clear hcb
          go_wp2
          go_meet
          rw [← Hcb.out]
          exact Hob.out
    case rest =>
      rename World => wy
      have hob := hcut
      obtain ⟨A5, c5, rfl⟩ := hob.buf.slice
      have Hob := Lib.hid hob
      have hsum := sumL_lt (bunB l)
      have hbz := hob.base
      have Hend := Lib.hid (Hb1.out.trans (hob.bel.mono Hb1.out.size))
      obtain ⟨sm, hsm⟩ : ∃ sm, sm = sumL (bunB l) := ⟨_, rfl⟩
      have Hsm := Lib.hid hsm
      rw [← hsm] at hsum
      clear hcut hob hsm
      go_wp2_with fail
      refine Sum_calls _ (bunB l) _ (Hob.out.buf.SL (Nat.le_refl _)) _ ?_
      rw [← Hsm.out]
      have i0 : (0 : Int) ≤ (sm : Int) := by omega
      have i1 : (sm : Int) < 65521 := by omega
      have hx : byteCells (UInt8.ofNat (sm / 256)) = [.int .u8 ((sm : Int) / 256)] := by
        rw [cells_ofNat]
        congr 2
        omega
      have hy : byteCells (UInt8.ofNat (sm % 256)) = [.int .u8 ((sm : Int) % 256)] := by
        rw [cells_ofNat]
        congr 2
        omega
      have hsrc := Lib.hid (two_src (w := wy) hx hy)
      have hsv : packB l = bunB l ++ [UInt8.ofNat (sm / 256), UInt8.ofNat (sm % 256)] := by
        unfold packB sumB
        rw [← Hsm.out]
      have Hsv := Lib.hid hsv
      have HBa := Lib.hid (Hob.out.buf.alloc (.cells #[.int .u8 ((sm : Int) / 256), .int .u8 ((sm : Int) % 256)] 5))
      generalize UInt8.ofNat (sm / 256) = x at *
      generalize UInt8.ofNat (sm % 256) = y at *
      clear hx hy hsv
      go_wp2_with (at_builtin; refine wpList_app_buf _ rfl _ _ _ rfl Tryz.underlying25 rfl HBa.out rfl hsrc.out (by simp; omega) (by simp; omega) ?_)
      intro v9 w9 hb9 hg9 hc9
      have hbl := Hb1.out.size
      have hfin := HR.out w9 v9 ((Hend.out.alloc (by have := Hend.out.size; omega) _).trans (hg9.below (fun k hk e => by have := (Hob.out.buf.lt k e).1; omega) (by simp; omega))) (by rw [Hsv.out]; exact hb9.base hbl)
      have Hfin := Lib.hid hfin
      clear hb9 hg9 hc9 hfin
      go_wp2
      exact Hfin.out
end Go.Proofs.YtcakodemngchpaaGreatDoor

/- BundleBytes, as the document says it. -/
namespace Go.Proofs.YtcakodemngchpaaGreatDoor
open Go.RowKit
set_option linter.unusedSimpArgs false
set_option linter.unusedVariables false

end Go.Proofs.YtcakodemngchpaaGreatDoor

/- bundle.Pack and the document's BundlePack; the law that compares them. -/
namespace Go.Proofs.YtcakodemngchpaaGreatDoor
open Go.RowKit
set_option linter.unusedSimpArgs false
set_option linter.unusedVariables false

theorem res_slF {fn : Func} {t p : Tmp} (h : fn.results = #[.tmp t, .cell p 27]) {tmps : Array Value} {b : Nat} {w : World} {v x y : Value} {T : TypeId} (ht : tmps.getD t undef = v) (hp : tmps.getD p undef = .pointer (some ⟨b, 0, none⟩))
    (hc : w.heap[b]? = some (.cells #[x, y] T (0, 0))) : (results fn tmps).run Tryz.prog w = .ok (.tuple #[v, .agg #[x, y]]) w :=
  res_slice_Fault h ht hp (cells_blk hc)
theorem buf_nil (w : World) (base : Nat) : Buf w base (.slice none 0 0) [] := .inl (World.ownsRow_nil _ _ _ _)

theorem pack_bad {l : List Object} (h : (bunF l).1 ≠ 0) : packO l = [] ∧ packF l = bunF l := by
  unfold packO packF
  rw [if_pos h, if_pos h]
  exact ⟨rfl, rfl⟩
theorem pack_long {l : List Object} (h : bunF l = (0, 0)) (hl : 90000 < (packB l).length) : packO l = [] ∧ packF l = (10, 0) := by
  unfold packO packF
  have h1 : ¬ (bunF l).1 ≠ 0 := by rw [h]; simp
  rw [if_neg h1, if_neg h1, if_pos hl, if_pos hl]
  exact ⟨rfl, rfl⟩
theorem pack_fine {l : List Object} (h : bunF l = (0, 0)) (hl : ¬ 90000 < (packB l).length) : packO l = packB l ∧ packF l = (0, 0) := by
  unfold packO packF
  have h1 : ¬ (bunF l).1 ≠ 0 := by rw [h]; simp
  rw [if_neg h1, if_neg h1, if_neg hl, if_neg hl]
  exact ⟨rfl, rfl⟩

set_option maxRecDepth 100000 in
set_option maxHeartbeats 4000000 in
theorem Pack_calls (l : List Object) (v : Value) (w : World) (h : rpObject.SL w w.heap.size l v) (hwide : ∀ o ∈ l, Wide o) (hS : Shapes w) (R : Ending → World → Prop)
    (hR : ∀ w' v', Below w.heap.size w w' → Buf w' w.heap.size v' (packO l) → R (.returned (.tuple #[v', (.agg #[.int .i64 (packF l).1, .int .i64 (packF l).2])])) w') :
    Calls Tryz.prog 5 #[v] w R := by
  have h0 := hS.1
  obtain ⟨A1, n1, rfl, hm1, hcap1, h⟩ := h.cases_
  have HS := Lib.hid hS
  have HR := Lib.hid hR
  have H := Lib.hid h
  have Hwide := Lib.hid hwide
  obtain ⟨W0, hW0⟩ : ∃ W0, W0 = w.alloc (Obj.cells #[.int .i64 0, .int .i64 0] 27) := ⟨_, rfl⟩
  have hb0 : Below w.heap.size w W0 := by subst hW0; exact bl0
  have hz0 : W0.heap.size = w.heap.size + 1 := by subst hW0; simp
  have hF : W0.heap[w.heap.size]? = some (.cells #[.int .i64 0, .int .i64 0] 27 (0, 0)) := by
    subst hW0
    exact heap_alloc_new _ _
  have HF := Lib.hid hF
  have HW := Lib.hid hW0.symm
  have Hb0 := Lib.hid hb0
  have Hz0 := Lib.hid hz0
  have HK : Hid (∀ W, Below (w.heap.size + 1) W0 W → W.heap[w.heap.size]? = some (.cells #[.int .i64 0, .int .i64 0] 27 (0, 0)) ∧ w.heap.size + 1 ≤ W.heap.size ∧ Below w.heap.size w W) := Lib.hid fun W h =>
    ⟨(h.block _ (by omega)).trans HF.out, by have := h.size; rw [Hz0.out] at this; exact this, Hb0.out.trans (h.mono (by omega))⟩
  clear hR h hF hW0 hb0 hz0 hwide hS
  go_enter Tryz.func5, Tryz.ntmps5
  go_wp2_with fail
  rw [HW.out]
  refine bunFault_calls l _ _ (H.out.up Hb0.out Hb0.out.size) (HS.out.up Hb0.out h0) _ (fun w1 hb1 => ?_)
  rw [Hz0.out] at hb1
  obtain ⟨k2, k3, k4⟩ := HK.out _ hb1
  obtain ⟨d0, d1, y0, y1⟩ := cells_of_block k2
  have hp1 : w.heap.size < w1.heap.size := by omega
  have HF1 := Lib.hid k2
  have Hk4 := Lib.hid k4
  have Hb1 := Lib.hid hb1
  have hfz := fun h => (bunF_ok (l := l) h).1
  obtain ⟨⟨c, a⟩, hFa⟩ : ∃ F, F = bunF l := ⟨_, rfl⟩
  rw [← hFa] at hfz ⊢
  have Hfa := Lib.hid hFa
  simp only [] at hfz ⊢
  clear hb1 k2 k4 hFa HW
  by_cases hc : c = 0
  rotate_left
  · have hq : ∀ w, (binOp .neq 27 (.agg #[.int .i64 c, .int .i64 a]) (.agg #[.int .i64 0, .int .i64 0])).run Tryz.prog w = .ok (.bool true) w := fun w => by
      rw [neq_Fault]
      simp [hc]
    have hsb := pack_bad (l := l) (by rw [← Hfa.out]; exact hc)
    have hret := HR.out
    rw [hsb.1, hsb.2, ← Hfa.out] at hret
    have Hret := Lib.hid hret
    clear hfz hc hret hsb
    go_wp2
    go_region
    all_goals
      go_wp2
      refine bodyPost_ret (v := .tuple #[.slice none 0 0, .agg #[.int .i64 c, .int .i64 a]]) (res_slF (by rfl) (by rfl) (by rfl) (blkp HF1.out)) rfl ?_
      have hb := Hk4.out
      refine Hret.out _ _ ?_ (buf_nil _ _)
      exact bl0
  · have hq : ∀ w, (binOp .neq 27 (.agg #[.int .i64 0, .int .i64 0]) (.agg #[.int .i64 0, .int .i64 0])).run Tryz.prog w = .ok (.bool false) w := fun w => neq_Fault 0 0 0 0 w
    have hca := hfz hc
    simp only [Prod.mk.injEq] at hca
    obtain ⟨rfl, rfl⟩ := hca
    have hok := (bunF_ok (l := l) (by rw [← Hfa.out])).2
    have Hok := Lib.hid hok
    have HA : Hid (∀ W, Below w1.heap.size w1 W → rpObject.SL W W.heap.size l (.slice A1 l.length n1)) := Lib.hid fun W h => by
      have hb := Hk4.out.trans (h.mono (by omega))
      exact H.out.up hb hb.size
    clear hfz hc hok
    go_wp2_with fail
    have hal : Below w1.heap.size w1 (w1.alloc (Obj.cells #[.int .i64 0, .int .i64 0] 27)) := (Below.refl _ _).alloc (Nat.le_refl _) _
    refine bunPack_calls l _ _ (HA.out _ hal) Hok.out Hwide.out _ (fun w2 v2 hb2 hbuf2 => ?_)
    have hz2 := hb2.size
    have hbel2 := Hb1.out.trans (hal.trans (hb2.mono (by simp)) |>.mono (by omega))
    obtain ⟨k2, k3, k4⟩ := HK.out _ hbel2
    obtain ⟨d0, d1, y0, y1⟩ := cells_of_block k2
    obtain ⟨A3, c3, rfl⟩ := hbuf2.slice
    have hq1 : w.heap.size < w2.heap.size := by omega
    have HF2 := Lib.hid k2
    have Hk2 := Lib.hid k4
    have Hbuf2 := Lib.hid (hbuf2.base (b' := w.heap.size + 1) (by simp; omega))
    obtain ⟨L, hL⟩ : ∃ L, L = packB l := ⟨_, rfl⟩
    rw [← hL] at Hbuf2 ⊢
    have HL := Lib.hid hL
    clear hb2 hbuf2 hbel2 k2 k4 hal hL
    by_cases hl : 90000 < L.length
    · have hli : (90000 : Int) < (L.length : Int) := by omega
      have hsb := pack_long Hfa.out.symm (by rw [← HL.out]; exact hl)
      have hr2 := HR.out
      rw [hsb.1, hsb.2] at hr2
      have Hr2 := Lib.hid hr2
      clear hl hr2 hsb
      go_wp2_with fail
      refine Fault_calls _ _ _ _ (fun w3 hb3 => ?_)
      have hz3 := hb3.size
      have HF3 := Lib.hid ((hb3.block _ hq1).trans HF2.out)
      have hF3 := HF3.out
      obtain ⟨e0, e1, x0, x1⟩ := cells_of_block hF3
      have hend := Lib.hid (Hk2.out.trans (hb3.mono (by omega)))
      have hq3 : w.heap.size < w3.heap.size := by omega
      clear hb3 hF3 d0 d1 y0 y1
      go_wp2
      refine bodyPost_ret (v := .tuple #[.slice none 0 0, .agg #[.int .i64 10, .int .i64 0]]) (res_slF (by rfl) (by rfl) (by rfl) (blkp HF3.out)) rfl ?_
      have hb := hend.out
      refine Hr2.out _ _ ?_ (buf_nil _ _)
      exact bl0
    · have hli : ¬ (90000 : Int) < (L.length : Int) := by omega
      have hsb := pack_fine Hfa.out.symm (by rw [← HL.out]; exact hl)
      have hr2 := HR.out
      rw [hsb.1, hsb.2, ← HL.out] at hr2
      have Hr2 := Lib.hid hr2
      clear hl hr2 hsb
      go_wp2
      refine bodyPost_ret (v := .tuple #[.slice A3 L.length c3, .agg #[.int .i64 0, .int .i64 0]]) (res_slF (by rfl) (by rfl) (by rfl) (blkp HF2.out)) rfl ?_
      have hb := Hk2.out
      have hbb := ((Hbuf2.out.grew (Grew.of_grown (grown_setCell w2 ⟨w.heap.size, 0, none⟩ (.int .i64 0))) (fun k hk e => by have := (Hbuf2.out.lt k hk).1; have := Option.some.inj e; simp at this; omega)).grew (Grew.of_grown (grown_setCell _ ⟨w.heap.size, 1, none⟩ (.int .i64 0))) (fun k hk e => by have := (Hbuf2.out.lt k hk).1; have := Option.some.inj e; simp at this; omega)).base (b' := w.heap.size) (by omega)
      refine Hr2.out _ _ ?_ hbb
      exact bl0

end Go.Proofs.YtcakodemngchpaaGreatDoor
