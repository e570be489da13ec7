/- LinkMet, as the document says it: the walk. link.gather: objects that may be linked, and their sections by their names. link: a name is met; what is reached from main on. link.reach: functions that main reaches; link.Reach, link.Undone. -/
import Derived.Test.YtcakodemngchpaaGreatDoorBase
import Derived.Test.YtcakodemngchpaaGreatDoorRows
import Derived.IntWalk
import Derived.Deep.LoopGhost
import Derived.Deep.CutBlock
import Derived.Deep.DeepCutAuto
import Derived.Deep.RegionHeld3
import Derived.Outline
import Derived.Test.YtcakodemngchpaaGreatDoorLinkA
import Derived.Test.YtcakodemngchpaaGreatDoorAlike
import Derived.Test.YtcakodemngchpaaGreatDoorReadC
/- LinkMet, as the document says it: the walk. -/
namespace Go.Proofs.YtcakodemngchpaaGreatDoor
open Go.RowKit
set_option linter.unusedSimpArgs false
set_option linter.unusedVariables false

/-- What a round of reaching knows. -/
structure Rnd (S : List Section) (i : Nat) (st : List ByteArray × List ByteArray) : Prop where
  inv : RInv S st
  le : i ≤ st.1.length
  fin : reached S = reachL S (S.length - i) i st
  few : st.2.length ≤ 5000 * i
theorem Rnd.begin {S : List Section} (h : hasS S mainB = true) : Rnd S 0 ([mainB], []) := ⟨RInv.begin h, Nat.zero_le _, rfl, Nat.zero_le _⟩
theorem Rnd.stop {S : List Section} {i : Nat} {st : List ByteArray × List ByteArray} (h : Rnd S i st) (hi : ¬ i < st.1.length) : st = reached S := by
  rw [h.fin, reachL_end (by omega)]
theorem Rnd.next {S : List Section} (hf : Fine S) {i : Nat} {st : List ByteArray × List ByteArray} (h : Rnd S i st) {nm : ByteArray} (hi : st.1[i]? = some nm) {s : Section} (hs : secFind S nm = some s) : Rnd S (i + 1) (meetsL S st s.mends) := by
  have h1 := (List.getElem?_eq_some_iff.1 hi).1
  obtain ⟨h2, h3, h4⟩ := h.inv.meets s.mends
  have h5 := h.few
  have h6 := (hf.mends s (by unfold secFind at hs; exact List.mem_of_find?_eq_some hs)).2.1
  refine ⟨h2, by omega, ?_, by omega⟩
  rw [h.fin, reachL_step h.inv hi]
  unfold mendsOf
  rw [hs]
/-- .. in the midst of a round. -/
theorem Rnd.mid {S : List Section} (hf : Fine S) {i : Nat} {st : List ByteArray × List ByteArray} (h : Rnd S i st) {s : Section} (hs : s ∈ S) (k : Nat) : (meetsL S st (s.mends.take k)).1.length ≤ 480 ∧ (meetsL S st (s.mends.take k)).2.length ≤ 3000000 := by
  obtain ⟨h2, h3, h4⟩ := h.inv.meets (s.mends.take k)
  have h5 := h.few
  have h6 := (hf.mends s hs).2.1
  have h7 := h.inv.len
  have h8 := hf.few
  have h9 := h.le
  have h10 := h2.len
  rw [List.length_take] at h4
  omega

end Go.Proofs.YtcakodemngchpaaGreatDoor
/- link.gather: objects that may be linked, and their sections by their names. -/
namespace Go.Proofs.YtcakodemngchpaaGreatDoor
open Go.RowKit
set_option linter.unusedSimpArgs false
set_option linter.unusedVariables false

/-- A store into a map, as a step of a region that draws. -/
theorem step_mapUpdate {P : Program} {w w' : World} {ops : Array Oper} {o : Oper} {a : Act} {K : Act → World → Prop} {Q : Exit → Act → World → Prop} {E : Prop} (hgd : o.guard = none) (m x v : Operand) (t : TypeId) (ho : o.op = Op.mapUpdate t m x v) (mv key val : Value) (hm : a.eval m = mv) (hx : a.eval x = key) (hv : a.eval v = val)
    (hr : (Instr.mapUpdate t mv key val).run P w = .ok () w') (h : K (a.put o.dst undef) w') : if Region.wanted o (yielded ops a.tmps) = true then Oper.wp P o a w K Q else E := by
  have hw : Region.wanted o (yielded ops a.tmps) = true := by simp [Region.wanted, hgd]
  rw [if_pos hw]
  unfold Oper.wp
  simp [execOp, ho, hm, hx, hv, hr, Result.andThen]
  exact h

set_option maxRecDepth 100000 in
set_option maxHeartbeats 4000000 in
theorem gather_calls (l : List Object) (v : Value) (wa w : World) (h : rpObject.SL wa wa.heap.size l v) (hw : Below wa.heap.size wa w) (hS : Shapes w) (R : Ending → World → Prop)
    (hbad : (linkF l).1 ≠ 0 → ∀ w', Below w.heap.size w w' → R (.returned (.tuple #[.pointer none, (.agg #[.int .i64 (linkF l).1, .int .i64 (linkF l).2])])) w')
    (hgood : (linkF l).1 = 0 → ∀ w' X G gc, w.heap.size ≤ X → X + 1 < w'.heap.size → Below w.heap.size w w' → rpGlobal.SL wa wa.heap.size (l.getD 0 ⟨[], []⟩).globals (.slice G (l.getD 0 ⟨[], []⟩).globals.length gc) →
      w'.heap[X + 1]? = some (.cells #[.slice G (l.getD 0 ⟨[], []⟩).globals.length gc, .map (some X), .slice none 0 0, .slice none 0 0] 74 (0, 0)) → MapSec wa w' X (allS l).length (allS l) →
      R (.returned (.tuple #[.pointer (some ⟨X + 1, 0, none⟩), .agg #[.int .i64 0, .int .i64 0]])) w') :
    Calls Tryz.prog 44 #[v] w R := by
  have h0 := hS.1
  obtain ⟨A, c, rfl, hm, hcap, h⟩ := h.cases_
  have Hbad := Lib.hid hbad
  have Hgood := Lib.hid hgood
  have H := Lib.hid h
  have Hw := Lib.hid hw
  have HSh := Lib.hid hS
  obtain ⟨W0, hW0⟩ : ∃ W0, W0 = w.alloc (Obj.cells #[.int .i64 0, .int .i64 0] 27) := ⟨_, rfl⟩
  have hb0 : Below w.heap.size w W0 := by subst hW0; exact bl0
  have hz0 : W0.heap.size = w.heap.size + 1 := by subst hW0; simp
  have hQ : W0.heap[w.heap.size]? = some (.cells #[.int .i64 0, .int .i64 0] 27 (0, 0)) := by subst hW0; exact heap_alloc_new _ _
  have HW := Lib.hid hW0.symm
  have HQ := Lib.hid hQ
  have Hb0 := Lib.hid hb0
  have HF : Hid (∀ (W : World) (c a : Int), Below w.heap.size w W → linkF l = (c, a) → c ≠ 0 → R (.returned (.tuple #[.pointer none, .agg #[.int .i64 c, .int .i64 a]])) ((W.setCell ⟨w.heap.size, 0, none⟩ (.int .i64 c)).setCell ⟨w.heap.size, 1, none⟩ (.int .i64 a))) := Lib.hid fun W c a hb e hc => by
    have := Hbad.out (by rw [e]; exact hc) ((W.setCell ⟨w.heap.size, 0, none⟩ (.int .i64 c)).setCell ⟨w.heap.size, 1, none⟩ (.int .i64 a)) ((hb.setCell (p := ⟨w.heap.size, 0, none⟩) (Nat.le_refl _) _).setCell (p := ⟨w.heap.size, 1, none⟩) (Nat.le_refl _) _)
    rw [e] at this
    exact this
  obtain ⟨q0, q1, z0, z1⟩ := cells_of_block hQ
  have hl0 : w.heap.size < W0.heap.size := by omega
  clear hbad hgood h hS hW0 hb0 hQ hw
  by_cases e0 : l.length = 0
  · have i0 : ((l.length : Int) == 0) = true := by simp [e0]
    have hlf : linkF l = (6, 0) := by unfold linkF; rw [if_pos e0]
    have Hlf := Lib.hid hlf
    clear e0 hz0 hlf
    go_enter Tryz.func44, Tryz.ntmps44
    go_upto_region 1 with fail
    rw [HW.out]
    go_wp2_with fail
    refine Fault_calls 6 0 _ _ (fun w1 hb1 => ?_)
    have hQ1 := (hb1.block _ hl0).trans HQ.out
    have hfin := Lib.hid (HF.out w1 6 0 (Hb0.out.trans (hb1.mono Hb0.out.size)) Hlf.out (by decide))
    have HQ1 := Lib.hid hQ1
    clear q0 q1 z0 z1
    obtain ⟨q0, q1, z0, z1⟩ := cells_of_block hQ1
    have hl1 := blk_lt hQ1
    clear hb1 hQ1
    go_wp2
    exact bodyPost_ret (v := .tuple #[.pointer none, .agg #[.int .i64 6, .int .i64 0]]) (res_slice_Fault (by rfl) (by rfl) (by rfl) (cells_blk (blkp HQ1.out))) rfl hfin.out
  have i0 : ((l.length : Int) == 0) = false := by simp [e0]
  by_cases e1 : 12 < l.length
  · have i1 : (12 : Int) < (l.length : Int) := by omega
    have hlf : linkF l = (2, 0) := by unfold linkF; rw [if_neg e0, if_pos e1]
    have Hlf := Lib.hid hlf
    clear e0 hz0 hlf e1
    go_enter Tryz.func44, Tryz.ntmps44
    go_upto_region 1 with fail
    rw [HW.out]
    go_wp2_with fail
    refine Fault_calls 2 0 _ _ (fun w1 hb1 => ?_)
    have hQ1 := (hb1.block _ hl0).trans HQ.out
    have hfin := Lib.hid (HF.out w1 2 0 (Hb0.out.trans (hb1.mono Hb0.out.size)) Hlf.out (by decide))
    have HQ1 := Lib.hid hQ1
    clear q0 q1 z0 z1
    obtain ⟨q0, q1, z0, z1⟩ := cells_of_block hQ1
    have hl1 := blk_lt hQ1
    clear hb1 hQ1
    go_wp2
    exact bodyPost_ret (v := .tuple #[.pointer none, .agg #[.int .i64 2, .int .i64 0]]) (res_slice_Fault (by rfl) (by rfl) (by rfl) (cells_blk (blkp HQ1.out))) rfl hfin.out
  have i1 : ¬ (12 : Int) < (l.length : Int) := by omega
  have hlf : linkF l = linkFrom l (l.length - 0) 0 := by unfold linkF; rw [if_neg e0, if_neg e1]; rfl
  have Hlf := Lib.hid hlf
  have hpos : 0 < l.length := by omega
  obtain ⟨b, off, o0, g1, g2, rfl, hb, ez, hg1, _, c0, _⟩ := H.out.object_at (k := 0) hpos
  replace c0 := (Hw.out.cell (p := ⟨b, off + 0 * 2, none⟩) hb).trans c0
  replace hb : b < w.heap.size := Nat.lt_of_lt_of_le hb Hw.out.size
  rw [Nat.zero_mul, Nat.add_zero] at c0
  obtain ⟨G1, gn1, rfl, _, _, hg1⟩ := hg1.cases_
  have hd0 : (l.getD 0 ⟨[], []⟩) = o0 := by rw [List.getD_eq_getElem?_getD, ez]; rfl
  rw [hd0] at Hgood
  have Hd0 := Lib.hid hd0
  have Hg1 := Lib.hid (hg1.up Hw.out Hw.out.size)
  have Hg0 := Lib.hid hg1
  have cw := (Hb0.out.cell (p := ⟨b, off, none⟩) hb).trans c0
  have j0 : (0 : Int) < (l.length : Int) := by omega
  clear e0 e1 hlf ez hd0 hg1 q0 q1 z0 z1
  obtain ⟨W1, hW1⟩ : ∃ W1, W1 = W0.alloc (Obj.map #[] 0) := ⟨_, rfl⟩
  obtain ⟨W2, hW2⟩ : ∃ W2, W2 = W1.alloc (Obj.cells #[.slice G1 o0.globals.length gn1, .map (some W0.heap.size), .slice none 0 0, .slice none 0 0] 74) := ⟨_, rfl⟩
  have hz1 : W1.heap.size = W0.heap.size + 1 := by subst hW1; simp
  have hz2 : W2.heap.size = W0.heap.size + 2 := by subst hW2; simp; omega
  have hX2 : W2.heap[W0.heap.size + 1]? = some (.cells #[.slice G1 o0.globals.length gn1, .map (some W0.heap.size), .slice none 0 0, .slice none 0 0] 74 (0, 0)) := by
    have := heap_alloc_new W1 (Obj.cells #[.slice G1 o0.globals.length gn1, .map (some W0.heap.size), .slice none 0 0, .slice none 0 0] 74)
    rw [hz1, ← hW2] at this
    exact this
  have hmp2 : MapSec wa W2 W0.heap.size 0 [] := by
    subst hW2
    refine MapSec.below ?_ ((Below.refl _ _).alloc (Nat.le_refl _) _)
    subst hW1
    exact MapSec.made _ _
  have hb2 : Below W0.heap.size W0 W2 := by subst hW2 hW1; exact bl0
  have hQ2 := (hb2.block _ hl0).trans HQ.out
  have HW1 := Lib.hid hW1.symm
  have HW2 := Lib.hid hW2.symm
  have HX2 := Lib.hid hX2
  have Hmp2 := Lib.hid hmp2
  have HQ2 := Lib.hid hQ2
  have Hb2 := Lib.hid (Hb0.out.trans (hb2.mono Hb0.out.size))
  clear hW1 hW2 hX2 hmp2 hb2 hQ2
  have hmm := @run_makeMap Tryz.prog
  have hl2 : w.heap.size < W2.heap.size := by omega
  have HgX : Hid (∀ W, Grew (fun b => b = W0.heap.size) W2 W → Below w.heap.size w W ∧ W.heap[w.heap.size]? = some (.cells #[.int .i64 0, .int .i64 0] 27 (0, 0)) ∧ W.heap[W0.heap.size + 1]? = some (.cells #[.slice G1 o0.globals.length gn1, .map (some W0.heap.size), .slice none 0 0, .slice none 0 0] 74 (0, 0))) := Lib.hid fun W hg =>
    ⟨Hb2.out.trans (hg.below (fun k h1 h2 => by omega) Hb2.out.size), (hg.block _ (by omega) (by omega)).trans HQ2.out, (hg.block _ (by omega) (by omega)).trans HX2.out⟩
  have hW2l : W0.heap.size + 1 < W2.heap.size := by omega
  clear hz0 hz1 hz2
  go_enter Tryz.func44, Tryz.ntmps44
  go_upto_region 1 with fail
  rw [HW.out]
  go_upto_region 6 with fail
  rw [HW1.out, HW2.out]
  clear hmm
  go_wp2_with fail
  go_loopg [5, 6, 7, 9, 10, 11, 31, 58] l.length (fun g s5 s6 s7 s9 s10 s11 s31 s58 wr => ∃ k : Nat, k ≤ l.length ∧ g = l.length - k ∧ s31 = .int .i64 (k : Int) ∧ linkF l = linkFrom l (l.length - k) k ∧ (allS (l.take k)).length ≤ 40 * k ∧ MapSec wa wr W0.heap.size (allS (l.take k)).length (allS (l.take k)) ∧ Grew (fun b => b = W0.heap.size) W2 wr)
  case atStart => exact ⟨0, Nat.zero_le _, rfl, rfl, Hlf.out, Nat.le_refl _, Hmp2.out, Grew.refl _ _⟩
  case round =>
    obtain ⟨k, hk, rfl, rfl, hlk, hsl, hmp, hgr⟩ := hrel
    obtain ⟨hbw, hQr, hXr⟩ := HgX.out wr hgr
    have Hlk := Lib.hid hlk
    have Hmp := Lib.hid hmp
    have Hgr := Lib.hid hgr
    have Hbw := Lib.hid hbw
    have HQr := Lib.hid hQr
    have HXr := Lib.hid hXr
    have hzr := hgr.size
    have j1 : (0 : Int) ≤ (k : Int) := Int.natCast_nonneg _
    clear hlk hmp hgr hbw hQr hXr
    by_cases hlt : k < l.length
    · obtain ⟨b', off', o, v1, v2, hA, hb', e, h1, h2, r0, r1⟩ := H.out.object_at hlt
      cases hA
      replace r0 := (Hw.out.cell (p := ⟨b, off + k * 2, none⟩) hb').trans r0
      replace r1 := (Hw.out.cell (p := ⟨b, off + k * 2 + 1, none⟩) hb').trans r1
      obtain ⟨A1, n1, rfl, _, _, h1⟩ := h1.cases_
      obtain ⟨A2, n2, rfl, _, _, h2⟩ := h2.cases_
      have p0 := (Hbw.out.cell (p := ⟨b, off + k * 2, none⟩) hb).trans r0
      have p1 := (Hbw.out.cell (p := ⟨b, off + k * 2 + 1, none⟩) hb).trans r1
      have j2 : (k : Int) < (l.length : Int) := by omega
      have E := Lib.hid e
      have H1 := Lib.hid (h1.up Hw.out Hw.out.size)
      have H2 := Lib.hid (h2.up Hw.out Hw.out.size)
      have H20 := Lib.hid h2
      obtain ⟨F, hF⟩ : ∃ F, F = objFault o := ⟨_, rfl⟩
      have hFz := objFault_fst o
      rw [← hF] at hFz
      have HFo := Lib.hid hF
      obtain ⟨W3, hW3⟩ : ∃ W3, W3 = wr.alloc (Obj.cells #[.slice A1 o.globals.length n1, .slice A2 o.sections.length n2] 40) := ⟨_, rfl⟩
      have hV3 : W3.heap[wr.heap.size]? = some (.cells #[.slice A1 o.globals.length n1, .slice A2 o.sections.length n2] 40 (0, 0)) := by subst hW3; exact heap_alloc_new _ _
      have hb3 : Below wr.heap.size wr W3 := by subst hW3; exact bl0
      have HW3 := Lib.hid hW3.symm
      have HV3 := Lib.hid hV3
      have Hb3 := Lib.hid hb3
      have hl3 : wr.heap.size < W3.heap.size := blk_lt hV3
      obtain ⟨u0, u1, _, _⟩ := cells_of_block hV3
      clear r0 r1 e h1 h2 hF hW3 hV3 hb3
      go_upto_region 9 with fail
      rw [HW3.out]
      clear p0 p1
      have hbw3 := Lib.hid (Hbw.out.trans (Hb3.out.mono Hbw.out.size))
      go_wp2_with fail
      refine objCheck_calls o _ _ _ (H1.out.up hbw3.out hbw3.out.size) (H2.out.up hbw3.out hbw3.out.size) (HSh.out.up hbw3.out h0) _ (fun w4 hb4 => ?_)
      rw [← HFo.out]
      obtain ⟨fc, fa⟩ := F
      simp only [] at hFz ⊢
      obtain ⟨W5, hW5⟩ : ∃ W5, W5 = w4.alloc (Obj.cells #[.int .i64 fc, .int .i64 fa] 27) := ⟨_, rfl⟩
      have hz4 := hb4.size
      have hV5 : W5.heap[w4.heap.size]? = some (.cells #[.int .i64 fc, .int .i64 fa] 27 (0, 0)) := by subst hW5; exact heap_alloc_new _ _
      have hb45 : Below w4.heap.size w4 W5 := by subst hW5; exact bl0
      have hb35 : Below W3.heap.size W3 W5 := hb4.trans (hb45.mono hz4)
      have hb5 : Below wr.heap.size wr W5 := Hb3.out.trans (hb35.mono Hb3.out.size)
      have hg5 := Hgr.out.on hb5
      obtain ⟨hbw5, hQ5, hX5⟩ := HgX.out W5 hg5
      have hO5 := (hb35.block _ hl3).trans HV3.out
      have hmp5 := Hmp.out.below hb5
      have HW5 := Lib.hid hW5.symm
      have Hg5 := Lib.hid hg5
      have Hbw5 := Lib.hid hbw5
      have HQ5 := Lib.hid hQ5
      have HX5 := Lib.hid hX5
      have HO5 := Lib.hid hO5
      have Hmp5 := Lib.hid hmp5
      clear u0 u1
      obtain ⟨f0, f1, _, _⟩ := cells_of_block hV5
      obtain ⟨q0, q1, z0, z1⟩ := cells_of_block hQ5
      obtain ⟨u0, u1, _, _⟩ := cells_of_block hO5
      have hl5 : w4.heap.size < W5.heap.size := blk_lt hV5
      have hlQ5 : w.heap.size < W5.heap.size := blk_lt hQ5
      have hlX5 : W0.heap.size + 1 < W5.heap.size := blk_lt hX5
      have hlO5 : wr.heap.size < W5.heap.size := blk_lt hO5
      clear hb4 hW5 hV5 hb45 hb35 hb5 hg5 hbw5 hQ5 hX5 hO5 hmp5
      go_upto_region 10 with fail
      rw [HW5.out]
      by_cases hc : fc = 0
      rotate_left
      · have hq : ∀ w, (binOp .neq 27 (.agg #[.int .i64 fc, .int .i64 fa]) (.agg #[.int .i64 0, .int .i64 0])).run Tryz.prog w = .ok (.bool true) w := fun w => by
          rw [neq_Fault]
          simp [hc]
        have hlf : linkF l = (fc, (k : Int)) := by
          have ha : linkAt l k o = (fc, (k : Int)) := by
            unfold linkAt
            rw [← HFo.out, if_pos hc]
          rw [Hlk.out, linkFrom_stop E.out (by rw [ha]; exact hc), ha]
        have Hfin := Lib.hid (fun W (hb : Below w.heap.size w W) => HF.out W fc (k : Int) hb hlf hc)
        clear hc hFz hlf
        go_wp2_with fail
        refine Fault_calls fc (k : Int) _ _ (fun w6 hb6 => ?_)
        have hQ6 := (hb6.block _ hlQ5).trans HQ5.out
        have hfin := Lib.hid (Hfin.out w6 (Hbw5.out.trans (hb6.mono Hbw5.out.size)))
        have HQ6 := Lib.hid hQ6
        clear q0 q1 z0 z1 f0 f1 u0 u1
        obtain ⟨q0, q1, z0, z1⟩ := cells_of_block hQ6
        have hl6 := blk_lt hQ6
        clear hb6 hQ6
        go_wp2
        exact bodyPost_ret (v := .tuple #[.pointer none, .agg #[.int .i64 fc, .int .i64 (k : Int)]]) (res_slice_Fault (by rfl) (by rfl) (by rfl) (cells_blk (blkp HQ6.out))) rfl hfin.out
      · have he := hFz hc
        cases he
        clear hFz hc
        have hok := (objOk_iff o).1 HFo.out.symm
        have Hok := Lib.hid hok
        have hq0 : ∀ w, (binOp .neq 27 (.agg #[.int .i64 0, .int .i64 0]) (.agg #[.int .i64 0, .int .i64 0])).run Tryz.prog w = .ok (.bool false) w := fun w => neq_Fault 0 0 0 0 w
        obtain ⟨q, hq⟩ : ∃ q, q = sameG o.globals o0.globals := ⟨_, rfl⟩
        have Hq := Lib.hid hq
        obtain ⟨x0, x1, x2, x3⟩ : W5.cell? ⟨W0.heap.size + 1, 0, none⟩ = some (.slice G1 o0.globals.length gn1) ∧ W5.cell? ⟨W0.heap.size + 1, 1, none⟩ = some (.map (some W0.heap.size)) ∧ True ∧ True := by
          have := HX5.out
          refine ⟨?_, ?_, trivial, trivial⟩ <;> simp [World.cell?, this]
        have HSS : Hid (∀ W, Below W5.heap.size W5 W → (fun W : World => W.cell? ⟨wr.heap.size, 0, none⟩ = some (.slice A1 o.globals.length n1) ∧ W.cell? ⟨wr.heap.size, 1, none⟩ = some (.slice A2 o.sections.length n2) ∧ W.cell? ⟨W0.heap.size + 1, 0, none⟩ = some (.slice G1 o0.globals.length gn1) ∧ Hid (Below W5.heap.size W5 W)) W) := Lib.hid fun W h =>
          ⟨(h.cell (p := ⟨wr.heap.size, 0, none⟩) hlO5).trans u0, (h.cell (p := ⟨wr.heap.size, 1, none⟩) hlO5).trans u1, (h.cell (p := ⟨W0.heap.size + 1, 0, none⟩) hlX5).trans x0, Lib.hid h⟩
        have hS0 := HSS.out W5 (Below.refl _ _)
        have hS1 := HSS.out W5.drew (Below.refl W5.heap.size W5).drew
        clear hok hq x2 x3
        go_upto_region 12 with fail
        go_region_held3 (fun W : World => W.cell? ⟨wr.heap.size, 0, none⟩ = some (.slice A1 o.globals.length n1) ∧ W.cell? ⟨wr.heap.size, 1, none⟩ = some (.slice A2 o.sections.length n2) ∧ W.cell? ⟨W0.heap.size + 1, 0, none⟩ = some (.slice G1 o0.globals.length gn1) ∧ Hid (Below W5.heap.size W5 W)) (first | with_reducible exact hS0 | with_reducible exact hS1 | with_reducible exact hS5) (first
          | (go_at_call 79; obtain ⟨_, _, _, he⟩ := ‹_ ∧ _ ∧ _ ∧ Hid (Below W5.heap.size W5 _)›; have hew := Hbw5.out.trans (he.out.mono Hbw5.out.size); refine Alike_calls o.globals o0.globals _ _ _ (H1.out.up hew hew.size) (Hg1.out.up hew hew.size) _ ?_; intro w5 hb5; rw [← Hq.out]; have hB5 := he.out.trans (hb5.mono he.out.size); have hS5 := HSS.out w5 hB5; have Hb5 := Lib.hid hB5; clear hb5 hB5 hew))
        all_goals
          have hg6 := Hg5.out.on Hb5.out
          obtain ⟨hbw6, hQ6, hX6⟩ := HgX.out w5 hg6
          have hmp6 := Hmp5.out.below Hb5.out
          have hO6 := (Hb5.out.block _ hlO5).trans HO5.out
          have Hg6 := Lib.hid hg6
          have Hbw6 := Lib.hid hbw6
          have HQ6 := Lib.hid hQ6
          have Hmp6 := Lib.hid hmp6
          have hlQ6 := blk_lt hQ6
          clear q0 q1 z0 z1 f0 f1 u0 u1 x0 x1 hS0 hS1 hS5
          obtain ⟨q0, q1, z0, z1⟩ := cells_of_block hQ6
          obtain ⟨u0, u1, _, _⟩ := cells_of_block hO6
          have hlO6 : wr.heap.size < w5.heap.size := blk_lt hO6
          clear hg6 hbw6 hQ6 hX6 hmp6 hO6
          cases q
          · have hlf : linkF l = (5, (k : Int)) := by
              have ha : linkAt l k o = (5, (k : Int)) := by
                unfold linkAt
                rw [← HFo.out, if_neg (by simp), Hd0.out, ← Hq.out, if_pos rfl]
              rw [Hlk.out, linkFrom_stop E.out (by rw [ha]; simp), ha]
            have Hfin := Lib.hid (fun W (hb : Below w.heap.size w W) => HF.out W 5 (k : Int) hb hlf (by decide))
            clear hlf
            go_wp2_with fail
            refine Fault_calls 5 (k : Int) _ _ (fun w6 hb6 => ?_)
            have hQ7 := (hb6.block _ hlQ6).trans HQ6.out
            have hfin := Lib.hid (Hfin.out w6 (Hbw6.out.trans (hb6.mono Hbw6.out.size)))
            have HQ7 := Lib.hid hQ7
            clear q0 q1 z0 z1 u0 u1
            obtain ⟨q0, q1, z0, z1⟩ := cells_of_block hQ7
            have hl6 := blk_lt hQ7
            clear hb6 hQ7
            go_wp2
            exact bodyPost_ret (v := .tuple #[.pointer none, .agg #[.int .i64 5, .int .i64 (k : Int)]]) (res_slice_Fault (by rfl) (by rfl) (by rfl) (cells_blk (blkp HQ7.out))) rfl hfin.out
          · clear q0 q1 z0 z1
            go_wp2_with fail
            go_loopg [9, 10, 11, 58] o.sections.length (fun gi s9 s10 s11 s58 wi => ∃ j : Nat, j ≤ o.sections.length ∧ gi = o.sections.length - j ∧ s58 = .int .i64 (j : Int) ∧ ((o.sections.take j).any fun s => hasS (allS (l.take k)) s.name) = false ∧ MapSec wa wi W0.heap.size (allS (l.take k) ++ o.sections.take j).length (allS (l.take k) ++ o.sections.take j) ∧ Grew (fun b => b = W0.heap.size) W2 wi)
            case atStart => exact ⟨0, Nat.zero_le _, rfl, rfl, rfl, by rw [List.take_zero, List.append_nil]; exact Hmp6.out, Hg6.out⟩
            case round =>
              rename World => wi
              obtain ⟨j, hj, rfl, rfl, hany, hmp, hgr⟩ := hrel
              obtain ⟨hbwi, hQi, hXi⟩ := HgX.out wi hgr
              have Hany := Lib.hid hany
              have Hmpi := Lib.hid hmp
              have Hgri := Lib.hid hgr
              have Hbwi := Lib.hid hbwi
              have HQi := Lib.hid hQi
              have HXi := Lib.hid hXi
              have j3 : (0 : Int) ≤ (j : Int) := Int.natCast_nonneg _
              have hlQi := blk_lt hQi
              have hlXi := blk_lt hXi
              clear hany hmp hgr hbwi hQi hXi
              by_cases hjl : j < o.sections.length
              · obtain ⟨b2, off2, s, y1, y2, rfl, hb2, e2, h3, h4, t0, t1, t2⟩ := H20.out.section_at hjl
                replace t0 := (Hw.out.cell (p := ⟨b2, off2 + j * 3, none⟩) hb2).trans t0
                replace t1 := (Hw.out.cell (p := ⟨b2, off2 + j * 3 + 1, none⟩) hb2).trans t1
                replace t2 := (Hw.out.cell (p := ⟨b2, off2 + j * 3 + 2, none⟩) hb2).trans t2
                replace hb2 : b2 < w.heap.size := Nat.lt_of_lt_of_le hb2 Hw.out.size
                obtain ⟨A3, n3, rfl, _, _, h3⟩ := h3.cases_
                obtain ⟨A4, n4, rfl, _, _, h4⟩ := h4.cases_
                have p3 := (Hbwi.out.cell (p := ⟨b2, off2 + j * 3, none⟩) hb2).trans t0
                have p4 := (Hbwi.out.cell (p := ⟨b2, off2 + j * 3 + 1, none⟩) hb2).trans t1
                have p5 := (Hbwi.out.cell (p := ⟨b2, off2 + j * 3 + 2, none⟩) hb2).trans t2
                have j4 : (j : Int) < (o.sections.length : Int) := by omega
                have hsok := Hok.out.secs j s e2
                have hnm := (goodName_len hsok.good).2
                have hss : s.name.size ≤ maxLen := by unfold maxLen; omega
                have hhas : hasS (allS (l.take k) ++ o.sections.take j) s.name = hasS (allS (l.take k)) s.name := by rw [hasS_append, hsok.noS, Bool.or_false]
                have hst := any_step (fun s : Section => hasS (allS (l.take k)) s.name) e2
                have htk : o.sections.take (j + 1) = o.sections.take j ++ [s] := take_snoc e2
                have Hst := Lib.hid hst
                have Htk := Lib.hid htk
                have Hhas := Lib.hid hhas
                have Hss := Lib.hid hss
                have H3 := Lib.hid h3
                have H4 := Lib.hid h4
                have Hmem := Lib.hid (List.mem_of_getElem? e2)
                obtain ⟨W7, hW7⟩ : ∃ W7, W7 = wi.alloc (Obj.cells #[.string s.name, .slice A3 s.code.length n3, .slice A4 s.mends.length n4] 58) := ⟨_, rfl⟩
                have hV7 : W7.heap[wi.heap.size]? = some (.cells #[.string s.name, .slice A3 s.code.length n3, .slice A4 s.mends.length n4] 58 (0, 0)) := by subst hW7; exact heap_alloc_new _ _
                have hb7 : Below wi.heap.size wi W7 := by subst hW7; exact bl0
                have hg7 := Hgri.out.on hb7
                obtain ⟨hbw7, hQ7, hX7⟩ := HgX.out W7 hg7
                have hmp7 := Hmpi.out.below hb7
                obtain ⟨B1, m1, d1, B2, m2, d2, nm', hlook⟩ := hmp7.look_ok hss
                have HW7 := Lib.hid hW7.symm
                have HV7 := Lib.hid hV7
                have Hg7 := Lib.hid hg7
                have Hbw7 := Lib.hid hbw7
                have HQ7 := Lib.hid hQ7
                have HX7 := Lib.hid hX7
                have Hmp7 := Lib.hid hmp7
                have hlQ7 := blk_lt hQ7
                have hlX7 := blk_lt hX7
                have hlV7 := blk_lt hV7
                obtain ⟨y0, y1, y2, _, _, _⟩ := three_cellsL hV7
                have x1 : W7.cell? ⟨W0.heap.size + 1, 1, none⟩ = some (.map (some W0.heap.size)) := by simp [World.cell?, hX7]
                have HSS7 : Hid (∀ W, Below W7.heap.size W7 W → (fun W : World => W.cell? ⟨W0.heap.size + 1, 1, none⟩ = some (.map (some W0.heap.size)) ∧ W.cell? ⟨wi.heap.size, 0, none⟩ = some (.string s.name) ∧ (Instr.lookup 72 (.map (some W0.heap.size)) (.string s.name) true).run Tryz.prog W = .ok (.tuple #[.agg #[.string nm', .slice B1 m1 d1, .slice B2 m2 d2], .bool (hasS (allS (l.take k) ++ o.sections.take j) s.name)]) W ∧ Hid (Below W7.heap.size W7 W)) W) := Lib.hid fun W h =>
                  ⟨(h.cell (p := ⟨W0.heap.size + 1, 1, none⟩) hlX7).trans x1, (h.cell (p := ⟨wi.heap.size, 0, none⟩) hlV7).trans y0, hlook W h, Lib.hid h⟩
                have hS0 := HSS7.out W7 (Below.refl _ _)
                have hS1 := HSS7.out W7.drew (Below.refl W7.heap.size W7).drew
                clear e2 h3 h4 hsok hnm hhas hst htk hss hW7 hV7 hb7 hg7 hbw7 hQ7 hX7 hmp7 hlook t0 t1 t2
                go_upto_region 17 with fail
                rw [HW7.out]
                clear p3 p4 p5
                go_region_held3 (fun W : World => W.cell? ⟨W0.heap.size + 1, 1, none⟩ = some (.map (some W0.heap.size)) ∧ W.cell? ⟨wi.heap.size, 0, none⟩ = some (.string s.name) ∧ (Instr.lookup 72 (.map (some W0.heap.size)) (.string s.name) true).run Tryz.prog W = .ok (.tuple #[.agg #[.string nm', .slice B1 m1 d1, .slice B2 m2 d2], .bool (hasS (allS (l.take k) ++ o.sections.take j) s.name)]) W ∧ Hid (Below W7.heap.size W7 W)) (first | with_reducible exact hS0 | with_reducible exact hS1 | (refine HSS7.out _ ?_; exact bl0)) (fail)
                all_goals
                  obtain ⟨_, _, _, he⟩ := ‹_ ∧ _ ∧ _ ∧ Hid (Below W7.heap.size W7 _)›
                  have hb8 := he.out
                  first
                    | generalize (W7.alloc (Obj.cells #[.string nm', .slice B1 m1 d1, .slice B2 m2 d2] 58)).drew = W8 at hb8 ⊢
                    | generalize (W7.drew.alloc (Obj.cells #[.string nm', .slice B1 m1 d1, .slice B2 m2 d2] 58)) = W8 at hb8 ⊢
                  clear he hS0 hS1 x1 y0 y1 y2
                  have hg8 := Hg7.out.on hb8
                  obtain ⟨hbw8, hQ8, hX8⟩ := HgX.out W8 hg8
                  have hmp8 := Hmp7.out.below hb8
                  have hV8 := (hb8.block _ hlV7).trans HV7.out
                  have Hg8 := Lib.hid hg8
                  have Hbw8 := Lib.hid hbw8
                  have HQ8 := Lib.hid hQ8
                  have Hmp8 := Lib.hid hmp8
                  obtain ⟨q0, q1, z0, z1⟩ := cells_of_block hQ8
                  have hlQ8 := blk_lt hQ8
                  have hlX8 := blk_lt hX8
                  have hlV8 := blk_lt hV8
                  cases hh : hasS (allS (l.take k) ++ o.sections.take j) s.name with
                  | true =>
                    have hlf : linkF l = (7, (k : Int)) := by
                      have ha : linkAt l k o = (7, (k : Int)) := by
                        unfold linkAt
                        rw [← HFo.out, if_neg (by simp), Hd0.out, ← Hq.out, if_neg (by simp), if_pos]
                        rw [List.any_eq_true]
                        exact ⟨s, Hmem.out, by rw [← Hhas.out]; exact hh⟩
                      rw [Hlk.out, linkFrom_stop E.out (by rw [ha]; simp), ha]
                    have Hfin := Lib.hid (fun W (hb : Below w.heap.size w W) => HF.out W 7 (k : Int) hb hlf (by decide))
                    clear hlf hh hb8 hg8 hbw8 hQ8 hX8 hmp8 hV8
                    go_wp2_with fail
                    refine Fault_calls 7 (k : Int) _ _ (fun w9 hb9 => ?_)
                    have hQ9 := (hb9.block _ hlQ8).trans HQ8.out
                    have hfin := Lib.hid (Hfin.out w9 (Hbw8.out.trans (hb9.mono Hbw8.out.size)))
                    have HQ9 := Lib.hid hQ9
                    clear q0 q1 z0 z1
                    obtain ⟨q0, q1, z0, z1⟩ := cells_of_block hQ9
                    have hl9 := blk_lt hQ9
                    clear hb9 hQ9
                    go_wp2
                    exact bodyPost_ret (v := .tuple #[.pointer none, .agg #[.int .i64 7, .int .i64 (k : Int)]]) (res_slice_Fault (by rfl) (by rfl) (by rfl) (cells_blk (blkp HQ9.out))) rfl hfin.out
                  | false =>
                    have hhs := hh
                    rw [Hhas.out] at hhs
                    have hst2 : ((o.sections.take (j + 1)).any fun s => hasS (allS (l.take k)) s.name) = false := by rw [Hst.out, Hany.out, hhs]; rfl
                    have Hst2 := Lib.hid hst2
                    have hslen : (allS (l.take k) ++ o.sections.take j).length < maxLen := by
                      rw [List.length_append, List.length_take]
                      have := Hok.out.few
                      unfold maxLen
                      omega
                    obtain ⟨y0, y1, y2, _, _, _⟩ := three_cellsL hV8
                    have x1 : W8.cell? ⟨W0.heap.size + 1, 1, none⟩ = some (.map (some W0.heap.size)) := by simp [World.cell?, hX8]
                    obtain ⟨w9, hrun, hmp9, hgw9⟩ := (hmp8.below (Below.refl W8.heap.size W8).drew).put hslen Hss.out hh H3.out H4.out
                    have hg9 : Grew (fun b => b = W0.heap.size) W2 w9 := hg8.drew.trans (Grew.of_grown hgw9) fun b hb e => (Option.some.inj e).symm
                    have hX9 := (HgX.out w9 hg9).2.2
                    have hV9 := (hgw9.block wi.heap.size hlV8 (fun e => by have := Option.some.inj e; omega)).trans hV8
                    have e9 : allS (l.take k) ++ o.sections.take (j + 1) = (allS (l.take k) ++ o.sections.take j) ++ [s] := by rw [Htk.out, List.append_assoc]
                    have Hmp9 : Hid (MapSec wa w9 W0.heap.size (allS (l.take k) ++ o.sections.take (j + 1)).length (allS (l.take k) ++ o.sections.take (j + 1))) := Lib.hid (by
                      rw [e9, List.length_append]
                      exact hmp9)
                    clear e9
                    have Hg9 := Lib.hid hg9
                    obtain ⟨v0, v1, v2, _, _, _⟩ := three_cellsL hV9
                    have x9 : w9.cell? ⟨W0.heap.size + 1, 1, none⟩ = some (.map (some W0.heap.size)) := by simp [World.cell?, hX9]
                    have hS0 := And.intro x1 (And.intro y0 (And.intro y1 y2))
                    have hS1 : W8.drew.cell? ⟨W0.heap.size + 1, 1, none⟩ = some (.map (some W0.heap.size)) ∧ W8.drew.cell? ⟨wi.heap.size, 0, none⟩ = some (.string s.name) ∧ W8.drew.cell? ⟨wi.heap.size, 1, none⟩ = some (.slice A3 s.code.length n3) ∧ W8.drew.cell? ⟨wi.heap.size, 2, none⟩ = some (.slice A4 s.mends.length n4) := hS0
                    have hS9 := And.intro x9 (And.intro v0 (And.intro v1 v2))
                    clear hst2 hh hhs hb8 hg8 hbw8 hQ8 hX8 hmp8 hV8 hslen hmp9 hgw9 hg9 hX9 hV9 x1 y0 y1 y2 x9 v0 v1 v2 q0 q1 z0 z1
                    go_upto_region 20 with fail
                    go_region_held3 (fun W : World => W.cell? ⟨W0.heap.size + 1, 1, none⟩ = some (.map (some W0.heap.size)) ∧ W.cell? ⟨wi.heap.size, 0, none⟩ = some (.string s.name) ∧ W.cell? ⟨wi.heap.size, 1, none⟩ = some (.slice A3 s.code.length n3) ∧ W.cell? ⟨wi.heap.size, 2, none⟩ = some (.slice A4 s.mends.length n4)) (first | with_reducible exact hS0 | with_reducible exact hS1 | with_reducible exact hS9) (first
                      | (refine step_mapUpdate rfl (.tmp 78) (.tmp 80) (.tmp 81) 72 rfl (.map (some W0.heap.size)) (.string s.name) (.agg #[.string s.name, .slice A3 s.code.length n3, .slice A4 s.mends.length n4]) (by simp [Act.eval, Act.put]) (by simp [Act.eval, Act.put]) (by simp [Act.eval, Act.put]) hrun ?_))
                    all_goals
                      go_wp2
                      go_roundg (o.sections.length - (j + 1))
                      case measure => omega
                      case rel => exact ⟨j + 1, hjl, rfl, by go_num, Hst2.out, Hmp9.out, Hg9.out⟩
              · obtain rfl : j = o.sections.length := by omega
                have j4 : ¬ (o.sections.length : Int) < (o.sections.length : Int) := by omega
                have hany := Hany.out
                have hmpf := Hmpi.out
                rw [List.take_length] at hany hmpf
                rw [← allS_step E.out] at hmpf
                have hlink : linkF l = linkFrom l (l.length - (k + 1)) (k + 1) := by
                  rw [Hlk.out]
                  refine linkFrom_step E.out ?_
                  unfold linkAt
                  rw [← HFo.out, if_neg (by simp), Hd0.out, ← Hq.out, if_neg (by simp), if_neg (by rw [hany]; simp)]
                have Hlink := Lib.hid hlink
                have Hmpf := Lib.hid hmpf
                clear hany hlink hmpf
                go_wp2
                go_roundg (l.length - (k + 1))
                case measure => omega
                case rel => exact ⟨k + 1, hlt, rfl, by go_num, Hlink.out, (by rw [allS_step E.out, List.length_append]; have := Hok.out.few; omega), Hmpf.out, Hgri.out⟩
    · obtain rfl : k = l.length := by omega
      have j2 : ¬ (l.length : Int) < (l.length : Int) := by omega
      have hend := Hgood.out (by rw [Hlk.out, linkFrom_end]) ((wr.setCell ⟨w.heap.size, 0, none⟩ (.int .i64 0)).setCell ⟨w.heap.size, 1, none⟩ (.int .i64 0)) W0.heap.size G1 gn1 (by omega) (by
        have := blk_lt HXr.out
        simpa [World.setCell] using this) ((Hbw.out.setCell (p := ⟨w.heap.size, 0, none⟩) (Nat.le_refl _) _).setCell (p := ⟨w.heap.size, 1, none⟩) (Nat.le_refl _) _) Hg0.out (blk_other (blk_other HXr.out (by omega) _) (by omega) _) (by
        have h1 := Hmp.out
        rw [List.take_length] at h1
        refine (h1.kept (grown_setCell wr ⟨w.heap.size, 0, none⟩ (.int .i64 0)) ?_).kept (grown_setCell _ ⟨w.heap.size, 1, none⟩ (.int .i64 0)) ?_
        · intro e
          have := Option.some.inj e
          simp at this
          omega
        · intro e
          have := Option.some.inj e
          simp at this
          omega)
      have Hend := Lib.hid hend
      obtain ⟨q0, q1, z0, z1⟩ := cells_of_block HQr.out
      have hlr := blk_lt HQr.out
      clear hend
      go_wp2
      exact bodyPost_ret (v := .tuple #[.pointer (some ⟨W0.heap.size + 1, 0, none⟩), .agg #[.int .i64 0, .int .i64 0]]) (res_slice_Fault (by rfl) (by rfl) (by rfl) (cells_blk (blkp HQr.out))) rfl Hend.out
end Go.Proofs.YtcakodemngchpaaGreatDoor

/- link: a name is met; what is reached from main on. -/
namespace Go.Proofs.YtcakodemngchpaaGreatDoor
open Go.RowKit
set_option linter.unusedSimpArgs false
set_option linter.unusedVariables false

/-- The linker's variable: globals, sections by their names, what is reached, what is undone. -/
structure Lk (w0 w : World) (X : Nat) (gs : List Global) (G : Option Addr) (gc : Nat) (S : List Section) (base : Nat) (vo vu : Value) (st : List ByteArray × List ByteArray) : Prop where
  blk : w.heap[X + 1]? = some (.cells #[.slice G gs.length gc, .map (some X), vo, vu] 74 (0, 0))
  mp : MapSec w0 w X S.length S
  two : Two w base vo vu st
  bel : Below w0.heap.size w0 w
  low : w0.heap.size ≤ X ∧ X + 1 < base ∧ base ≤ w.heap.size
theorem Lk.below {w0 w w' : World} {X : Nat} {gs : List Global} {G : Option Addr} {gc : Nat} {S : List Section} {base : Nat} {vo vu : Value} {st : List ByteArray × List ByteArray} (h : Lk w0 w X gs G gc S base vo vu st) (hb : Below w.heap.size w w') : Lk w0 w' X gs G gc S base vo vu st :=
  ⟨(hb.block _ (blk_lt h.blk)).trans h.blk, h.mp.below hb, h.two.below hb, h.bel.trans (hb.mono h.bel.size), h.low.1, h.low.2.1, Nat.le_trans h.low.2.2 hb.size⟩
theorem four_cells {w : World} {b : Nat} {x y z u : Value} {T : TypeId} (h : w.heap[b]? = some (.cells #[x, y, z, u] T (0, 0))) : w.cell? ⟨b, 0, none⟩ = some x ∧ w.cell? ⟨b, 1, none⟩ = some y ∧ w.cell? ⟨b, 2, none⟩ = some z ∧ w.cell? ⟨b, 3, none⟩ = some u ∧ (∀ j, w.frozen? ⟨b, j, none⟩ = false) := by
  refine ⟨?_, ?_, ?_, ?_, fun j => ?_⟩ <;> simp [World.cell?, World.frozen?, h]
/-- A name more is reached. -/
theorem Lk.push1 {w0 w w3 : World} {X : Nat} {gs : List Global} {G : Option Addr} {gc : Nat} {S : List Section} {base : Nat} {vo vu : Value} {st : List ByteArray × List ByteArray} (h : Lk w0 w X gs G gc S base vo vu st) (o : Obj) (x : ByteArray) {g n cap : Nat}
    (hown : w3.ownsRow base 9 1 (.slice (some ⟨g, 0, none⟩) n cap) n (st.1.flatMap strCells ++ [.string x])) (hn : n = st.1.length + 1) (hg : (w.alloc o).grownBy w3 vo.ownBlock) (hat : vo.ownBlock = some g ∨ g = (w.alloc o).heap.size) :
    w3.heap[X + 1]? = some (.cells #[.slice G gs.length gc, .map (some X), vo, vu] 74 (0, 0)) ∧ Lk w0 (w3.setCell ⟨X + 1, 2, none⟩ (.slice (some ⟨g, 0, none⟩) n cap)) X gs G gc S base (.slice (some ⟨g, 0, none⟩) n cap) vu (st.1 ++ [x], st.2) ∧ Grew (fun b => b = X + 1 ∨ base ≤ b) w (w3.setCell ⟨X + 1, 2, none⟩ (.slice (some ⟨g, 0, none⟩) n cap)) := by
  obtain ⟨l1, l2, l3⟩ := h.low
  have hv : ∀ j, vo.ownBlock = some j → base ≤ j := fun j hj => (h.two.ord.lt j hj).1
  have hX := blk_lt h.blk
  have hb3 : w3.heap[X + 1]? = some (.cells #[.slice G gs.length gc, .map (some X), vo, vu] 74 (0, 0)) := (hg.block _ (by simp; omega) (fun e => by have := hv _ e.symm; omega)).trans (blk_alloc h.blk o)
  have hs3 := hg.size
  simp at hs3
  refine ⟨hb3, ⟨?_, ?_, ?_, ?_, l1, l2, ?_⟩, ?_⟩
  · rw [block_set hb3]
    rfl
  · refine ((h.mp.below ((Below.refl _ _).alloc (Nat.le_refl _) o)).kept hg (fun e => by have := hv _ e.symm; omega)).kept (grown_setCell _ _ _) (fun e => ?_)
    have := Option.some.inj e
    simp at this
  · exact (h.two.push1 o x hown hn hg hat).set ⟨X + 1, 2, none⟩ l2 _
  · exact ((h.bel.alloc (Nat.le_trans l1 (by omega)) o).grown hg (by simp; omega) (fun j hj => by have := hv j hj; omega)).setCell (p := ⟨X + 1, 2, none⟩) (by show _ ≤ X + 1; omega) _
  · simp [World.setCell]
    omega
  · exact (((Grew.refl _ w).alloc o).trans (Grew.of_grown hg) fun j _ e => .inr (hv j e)).setCell _ (.inl (.inl rfl)) _
/-- A name more is undone. -/
theorem Lk.push2 {w0 w w3 : World} {X : Nat} {gs : List Global} {G : Option Addr} {gc : Nat} {S : List Section} {base : Nat} {vo vu : Value} {st : List ByteArray × List ByteArray} (h : Lk w0 w X gs G gc S base vo vu st) (o : Obj) (x : ByteArray) {g n cap : Nat}
    (hown : w3.ownsRow base 9 1 (.slice (some ⟨g, 0, none⟩) n cap) n (st.2.flatMap strCells ++ [.string x])) (hn : n = st.2.length + 1) (hg : (w.alloc o).grownBy w3 vu.ownBlock) (hat : vu.ownBlock = some g ∨ g = (w.alloc o).heap.size) :
    w3.heap[X + 1]? = some (.cells #[.slice G gs.length gc, .map (some X), vo, vu] 74 (0, 0)) ∧ Lk w0 (w3.setCell ⟨X + 1, 3, none⟩ (.slice (some ⟨g, 0, none⟩) n cap)) X gs G gc S base vo (.slice (some ⟨g, 0, none⟩) n cap) (st.1, st.2 ++ [x]) ∧ Grew (fun b => b = X + 1 ∨ base ≤ b) w (w3.setCell ⟨X + 1, 3, none⟩ (.slice (some ⟨g, 0, none⟩) n cap)) := by
  obtain ⟨l1, l2, l3⟩ := h.low
  have hv : ∀ j, vu.ownBlock = some j → base ≤ j := fun j hj => (h.two.und.lt j hj).1
  have hX := blk_lt h.blk
  have hb3 : w3.heap[X + 1]? = some (.cells #[.slice G gs.length gc, .map (some X), vo, vu] 74 (0, 0)) := (hg.block _ (by simp; omega) (fun e => by have := hv _ e.symm; omega)).trans (blk_alloc h.blk o)
  have hs3 := hg.size
  simp at hs3
  refine ⟨hb3, ⟨?_, ?_, ?_, ?_, l1, l2, ?_⟩, ?_⟩
  · rw [block_set hb3]
    rfl
  · refine ((h.mp.below ((Below.refl _ _).alloc (Nat.le_refl _) o)).kept hg (fun e => by have := hv _ e.symm; omega)).kept (grown_setCell _ _ _) (fun e => ?_)
    have := Option.some.inj e
    simp at this
  · exact (h.two.push2 o x hown hn hg hat).set ⟨X + 1, 3, none⟩ l2 _
  · exact ((h.bel.alloc (Nat.le_trans l1 (by omega)) o).grown hg (by simp; omega) (fun j hj => by have := hv j hj; omega)).setCell (p := ⟨X + 1, 3, none⟩) (by show _ ≤ X + 1; omega) _
  · simp [World.setCell]
    omega
  · exact (((Grew.refl _ w).alloc o).trans (Grew.of_grown hg) fun j _ e => .inr (hv j e)).setCell _ (.inl (.inl rfl)) _

set_option maxRecDepth 100000 in
set_option maxHeartbeats 4000000 in
theorem meet_calls (w0 w : World) (X : Nat) (gs : List Global) (G : Option Addr) (gc : Nat) (S : List Section) (base : Nat) (vo vu : Value) (st : List ByteArray × List ByteArray) (h : Lk w0 w X gs G gc S base vo vu st) (nm : ByteArray) (hs : nm.size ≤ maxLen) (hl1 : st.1.length ≤ 480) (hl2 : st.2.length ≤ 3000000) (R : Ending → World → Prop)
    (hR : ∀ w' vo' vu', Lk w0 w' X gs G gc S base vo' vu' (meetL S st nm) → Grew (fun b => b = X + 1 ∨ base ≤ b) w w' → R (.returned (.tuple #[])) w') :
    Calls Tryz.prog 45 #[.pointer (some ⟨X + 1, 0, none⟩), .string nm] w R := by
  obtain ⟨iS, hiS, zS0, zS1, zS2⟩ := info_parts info_string
  obtain ⟨A8, c8, hs8⟩ := own_slice h.two.ord
  obtain ⟨A9, c9, hs9⟩ := own_slice h.two.und
  obtain ⟨yo, yu⟩ := st
  simp only [] at hs8 hs9 hl1 hl2
  subst hs8 hs9
  have HR := Lib.hid hR
  have Hh := Lib.hid h
  obtain ⟨x0, x1, x2, x3, xz⟩ := four_cells h.blk
  have hlX := blk_lt h.blk
  obtain ⟨B1, m1, d1, B2, m2, d2, nm', hlook⟩ := h.mp.look_ok hs
  have hlk0 := hlook w (Below.refl _ _)
  have hlow := h.low
  obtain ⟨W1, hW1⟩ : ∃ W1, W1 = w.alloc (Obj.cells #[.string nm', .slice B1 m1 d1, .slice B2 m2 d2] 58) := ⟨_, rfl⟩
  have hb1 : Below w.heap.size w W1 := by subst hW1; exact bl0
  have h1 := h.below hb1
  have HW1 := Lib.hid hW1.symm
  have H1 := Lib.hid h1
  have hgr1 : Grew (fun b => b = X + 1 ∨ base ≤ b) w W1 := (Grew.refl _ _).on hb1
  have Hgr1 := Lib.hid hgr1
  clear hR h hlook hW1 hb1 h1 hgr1
  go_enter Tryz.func45, Tryz.ntmps45
  go_upto_region 2 with fail
  rw [HW1.out]
  clear hlk0 x0 x1 x2 x3 xz
  obtain ⟨x0, x1, x2, x3, xz⟩ := four_cells H1.out.blk
  have hlX1 := blk_lt H1.out.blk
  cases hh : hasS S nm with
  | true =>
    have hmeet : meetL S (yo, yu) nm = if inB yo nm = true then (yo, yu) else (yo ++ [nm], yu) := by unfold meetL; rw [if_pos hh]
    have Hmeet := Lib.hid hmeet
    clear hmeet hh
    go_wp2_with fail
    refine ContainsStr_calls yo _ nm _ (SLstr_own H1.out.two.ord (Nat.le_refl _)) _ ?_
    cases hin : inB yo nm with
    | true =>
      have hm2 := Hmeet.out
      rw [if_pos hin] at hm2
      have hfin := Lib.hid (HR.out W1 _ _ (by rw [hm2]; exact H1.out) Hgr1.out)
      clear hm2 hin
      go_wp2
      go_end0
      exact hfin.out
    | false =>
      have hm2 := Hmeet.out
      rw [if_neg (by rw [hin]; simp)] at hm2
      have Hm2 := Lib.hid hm2
      have hW : Hid ((W1.alloc (Obj.cells #[.string nm] 9)).ownsRow base 9 1 (.slice A8 yo.length c8) yo.length (yo.flatMap strCells)) := Lib.hid (H1.out.two.ord.alloc _)
      have hbase := H1.out.low.2.2
      clear hm2 hin
      go_wp2_with (at_builtin; refine wpList_append_lies _ rfl _ _ 34 rfl base 9 iS _ 1 16 Tryz.underlying34 hiS zS0 zS1 zS2 rfl (by decide) (.slice A8 yo.length c8) yo.length (yo.flatMap strCells) rfl hW.out ⟨W1.heap.size, 0, none⟩ 1 1 [.string nm] rfl rfl ?_ ?_ (by decide) ?_ ?_ ?_ _ rfl ?_)
      any_goals (first | exact World.news_of_block (cs := #[.string nm]) (t := 9) (fr := (0, 0)) (heap_alloc_new _ _) | (simp [Value.oneCell']; done) | (unfold maxLen; omega) | omega | (simp; done) | (simp; omega))
      intro gb cap2 w7 hown7 hgrow7 hat7 hlt7
      obtain ⟨hX7, h7, hgr7⟩ := H1.out.push1 (Obj.cells #[.string nm] 9) nm hown7 rfl hgrow7 (by simpa using hat7)
      have hfin := Lib.hid (HR.out _ _ _ (by rw [Hm2.out]; exact h7) (Hgr1.out.trans hgr7 fun j _ e => e))
      clear x0 x1 x2 x3 xz
      obtain ⟨x0, x1, x2, x3, xz⟩ := four_cells hX7
      have hlX7 := blk_lt hX7
      clear hown7 hgrow7 hat7 h7 hgr7 hX7
      go_wp2
      go_end0
      exact hfin.out
  | false =>
    have hmeet : meetL S (yo, yu) nm = if inB yu nm = true then (yo, yu) else (yo, yu ++ [nm]) := by unfold meetL; rw [if_neg (by rw [hh]; simp)]
    have Hmeet := Lib.hid hmeet
    clear hmeet hh
    go_wp2_with fail
    refine ContainsStr_calls yu _ nm _ (SLstr_own H1.out.two.und (Nat.le_refl _)) _ ?_
    cases hin : inB yu nm with
    | true =>
      have hm2 := Hmeet.out
      rw [if_pos hin] at hm2
      have hfin := Lib.hid (HR.out W1 _ _ (by rw [hm2]; exact H1.out) Hgr1.out)
      clear hm2 hin
      go_wp2
      go_end0
      exact hfin.out
    | false =>
      have hm2 := Hmeet.out
      rw [if_neg (by rw [hin]; simp)] at hm2
      have Hm2 := Lib.hid hm2
      have hW : Hid ((W1.alloc (Obj.cells #[.string nm] 9)).ownsRow base 9 1 (.slice A9 yu.length c9) yu.length (yu.flatMap strCells)) := Lib.hid (H1.out.two.und.alloc _)
      have hbase := H1.out.low.2.2
      clear hm2 hin
      go_wp2_with (at_builtin; refine wpList_append_lies _ rfl _ _ 34 rfl base 9 iS _ 1 16 Tryz.underlying34 hiS zS0 zS1 zS2 rfl (by decide) (.slice A9 yu.length c9) yu.length (yu.flatMap strCells) rfl hW.out ⟨W1.heap.size, 0, none⟩ 1 1 [.string nm] rfl rfl ?_ ?_ (by decide) ?_ ?_ ?_ _ rfl ?_)
      any_goals (first | exact World.news_of_block (cs := #[.string nm]) (t := 9) (fr := (0, 0)) (heap_alloc_new _ _) | (simp [Value.oneCell']; done) | (unfold maxLen; omega) | omega | (simp; done) | (simp; omega))
      intro gb cap2 w7 hown7 hgrow7 hat7 hlt7
      obtain ⟨hX7, h7, hgr7⟩ := H1.out.push2 (Obj.cells #[.string nm] 9) nm hown7 rfl hgrow7 (by simpa using hat7)
      have hfin := Lib.hid (HR.out _ _ _ (by rw [Hm2.out]; exact h7) (Hgr1.out.trans hgr7 fun j _ e => e))
      clear x0 x1 x2 x3 xz
      obtain ⟨x0, x1, x2, x3, xz⟩ := four_cells hX7
      have hlX7 := blk_lt hX7
      clear hown7 hgrow7 hat7 h7 hgr7 hX7
      go_wp2
      go_end0
      exact hfin.out
end Go.Proofs.YtcakodemngchpaaGreatDoor

/- link.reach: functions that main reaches; link.Reach, link.Undone. -/
namespace Go.Proofs.YtcakodemngchpaaGreatDoor
open Go.RowKit
set_option linter.unusedSimpArgs false
set_option linter.unusedVariables false

theorem metF_cases (l : List Object) : (metF l).1 = 0 → (linkF l).1 = 0 ∧ hasS (allS l) mainB = true ∧ metF l = (0, 0) ∧ metO l = reached (allS l) := fun h => by
  have h' := h
  unfold metF at h
  by_cases h1 : (linkF l).1 ≠ 0
  · rw [if_pos h1] at h
    exact absurd h h1
  rw [if_neg h1] at h
  by_cases h2 : hasS (allS l) mainB = false
  · rw [if_pos h2] at h
    simp at h
  rw [if_neg h2] at h
  have hF : metF l = (0, 0) := by
    unfold metF
    rw [if_neg h1, if_neg h2]
  refine ⟨by simpa using h1, by simpa using h2, hF, ?_⟩
  unfold metO
  rw [hF, if_neg (by simp)]

set_option maxRecDepth 100000 in
set_option maxHeartbeats 4000000 in
theorem reach_calls (l : List Object) (v : Value) (w : World) (h : rpObject.SL w w.heap.size l v) (hS : Shapes w) (R : Ending → World → Prop)
    (hbad : (metF l).1 ≠ 0 → ∀ w', Below w.heap.size w w' → R (.returned (.tuple #[.pointer none, (.agg #[.int .i64 (metF l).1, .int .i64 (metF l).2])])) w')
    (hgood : (metF l).1 = 0 → ∀ w' X G gc base vo vu, Lk w w' X (l.getD 0 ⟨[], []⟩).globals G gc (allS l) base vo vu (reached (allS l)) → rpGlobal.SL w w.heap.size (l.getD 0 ⟨[], []⟩).globals (.slice G (l.getD 0 ⟨[], []⟩).globals.length gc) →
      R (.returned (.tuple #[.pointer (some ⟨X + 1, 0, none⟩), .agg #[.int .i64 0, .int .i64 0]])) w') :
    Calls Tryz.prog 21 #[v] w R := by
  have h0 := hS.1
  obtain ⟨A, c, rfl, hm, hcap, h⟩ := h.cases_
  have Hbad := Lib.hid hbad
  have Hgood := Lib.hid hgood
  have H := Lib.hid h
  have HSh := Lib.hid hS
  obtain ⟨W0, hW0⟩ : ∃ W0, W0 = w.alloc (Obj.cells #[.int .i64 0, .int .i64 0] 27) := ⟨_, rfl⟩
  have hb0 : Below w.heap.size w W0 := by subst hW0; exact bl0
  have hz0 : W0.heap.size = w.heap.size + 1 := by subst hW0; simp
  have hQ : W0.heap[w.heap.size]? = some (.cells #[.int .i64 0, .int .i64 0] 27 (0, 0)) := by subst hW0; exact heap_alloc_new _ _
  have HW := Lib.hid hW0.symm
  have HQ := Lib.hid hQ
  have Hb0 := Lib.hid hb0
  have hl0 : w.heap.size < W0.heap.size := by omega
  have HB : Hid (∀ (W : World) (c a : Int), Below w.heap.size w W → metF l = (c, a) → c ≠ 0 → R (.returned (.tuple #[.pointer none, .agg #[.int .i64 c, .int .i64 a]])) ((W.setCell ⟨w.heap.size, 0, none⟩ (.int .i64 c)).setCell ⟨w.heap.size, 1, none⟩ (.int .i64 a))) := Lib.hid fun W c a hb e hc => by
    have := Hbad.out (by rw [e]; exact hc) ((W.setCell ⟨w.heap.size, 0, none⟩ (.int .i64 c)).setCell ⟨w.heap.size, 1, none⟩ (.int .i64 a)) ((hb.setCell (p := ⟨w.heap.size, 0, none⟩) (Nat.le_refl _) _).setCell (p := ⟨w.heap.size, 1, none⟩) (Nat.le_refl _) _)
    rw [e] at this
    exact this
  clear hbad hgood h hS hW0 hb0 hQ hz0
  go_enter Tryz.func21, Tryz.ntmps21
  go_upto_region 1 with fail
  rw [HW.out]
  go_wp2_with fail
  refine gather_calls l _ w _ H.out Hb0.out (HSh.out.up Hb0.out h0) _ (fun hc w1 hb1 => ?_) (fun hc w1 X G gc hX1 hX2 hb1 hg hblk hmp => ?_)
  · obtain ⟨F, hF⟩ : ∃ F, F = linkF l := ⟨_, rfl⟩
    rw [← hF] at hc ⊢
    obtain ⟨fc, fa⟩ := F
    simp only [] at hc ⊢
    have hmF : metF l = (fc, fa) := by unfold metF; rw [← hF, if_pos hc]
    have hq : ∀ w, (binOp .neq 27 (.agg #[.int .i64 fc, .int .i64 fa]) (.agg #[.int .i64 0, .int .i64 0])).run Tryz.prog w = .ok (.bool true) w := fun w => by
      rw [neq_Fault]
      simp [hc]
    have hfin : Hid (∀ W, Below w.heap.size w W → R (.returned (.tuple #[.pointer none, .agg #[.int .i64 fc, .int .i64 fa]])) W) := Lib.hid fun W hb => by
      have := Hbad.out (by rw [hmF]; exact hc) W hb
      rw [hmF] at this
      exact this
    have hQ1 := (hb1.block _ hl0).trans HQ.out
    have HQ1 := Lib.hid hQ1
    have Hb1 := Lib.hid (Hb0.out.trans (hb1.mono Hb0.out.size))
    obtain ⟨q0, q1, z0, z1⟩ := cells_of_block hQ1
    have hl1 := blk_lt hQ1
    clear hc hF hmF hb1 hQ1
    go_wp2
    go_region
    all_goals
      go_wp2
      exact bodyPost_ret (v := .tuple #[.pointer none, .agg #[.int .i64 fc, .int .i64 fa]]) (res_slice_Fault (by rfl) (by rfl) (by rfl) (cells_blk (blkp HQ1.out))) rfl (hfin.out _ (by
        have hb := Hb1.out
        exact bl0))
  · have hq : ∀ w, (binOp .neq 27 (.agg #[.int .i64 0, .int .i64 0]) (.agg #[.int .i64 0, .int .i64 0])).run Tryz.prog w = .ok (.bool false) w := fun w => neq_Fault 0 0 0 0 w
    obtain ⟨W1, hW1⟩ : ∃ W1, W1 = w1.alloc (Obj.cells #[.int .i64 0, .int .i64 0] 27) := ⟨_, rfl⟩
    have hbW1 : Below w1.heap.size w1 W1 := by subst hW1; exact bl0
    have hV1 : W1.heap[w1.heap.size]? = some (.cells #[.int .i64 0, .int .i64 0] 27 (0, 0)) := by subst hW1; exact heap_alloc_new _ _
    have hbb := hb1.trans (hbW1.mono hb1.size)
    have hQ1 := (hbb.block _ hl0).trans HQ.out
    have hX := (hbW1.block _ (blk_lt hblk)).trans hblk
    have hmp1 := hmp.below hbW1
    obtain ⟨B1, m1, d1, B2, m2, d2, nm', hlook⟩ := hmp1.look_ok (nm := mainB) (by decide)
    have hlk0 : (Instr.lookup 72 (.map (some X)) (.string ⟨#[109, 97, 105, 110]⟩) true).run Tryz.prog W1 = .ok (.tuple #[.agg #[.string nm', .slice B1 m1 d1, .slice B2 m2 d2], .bool (hasS (allS l) mainB)]) W1 := hlook W1 (Below.refl _ _)
    have HW1 := Lib.hid hW1.symm
    have HQ1 := Lib.hid hQ1
    have HX := Lib.hid hX
    have Hmp1 := Lib.hid hmp1
    have Hc := Lib.hid hc
    have Hg := Lib.hid hg
    have Hbb := Lib.hid (Hb0.out.trans (hbb.mono Hb0.out.size))
    have HzX := Lib.hid hX1
    obtain ⟨x0, x1, x2, x3, xz⟩ := four_cells hX
    obtain ⟨v0, v1, _, _⟩ := cells_of_block hV1
    have hlX := blk_lt hX
    have hlV := blk_lt hV1
    have hwX : w.heap.size < X := by omega
    obtain ⟨W2, hW2⟩ : ∃ W2, W2 = W1.alloc (Obj.cells #[.string nm', .slice B1 m1 d1, .slice B2 m2 d2] 58) := ⟨_, rfl⟩
    have hbW2 : Below W1.heap.size W1 W2 := by subst hW2; exact bl0
    have HW2 := Lib.hid hW2.symm
    have HbW2 := Lib.hid hbW2
    have hQ2 := (hbW2.block _ (blk_lt hQ1)).trans hQ1
    have hX2' := (hbW2.block _ hlX).trans hX
    have HQ2 := Lib.hid hQ2
    have HX2 := Lib.hid hX2'
    have Hmp2 := Lib.hid (hmp1.below hbW2)
    have Hb2 := Lib.hid (Hbb.out.trans (hbW2.mono Hbb.out.size))
    have hlQ2 := blk_lt hQ2
    have hlX2 := blk_lt hX2'
    clear hc hX1 hX2 hb1 hg hblk hmp hW1 hbW1 hV1 hbb hQ1 hX hmp1 hlook hW2 hbW2
    go_upto_region 2 with fail
    rw [HW1.out]
    go_upto_region 5 with fail
    rw [HW2.out]
    clear x0 x1 x2 x3 xz v0 v1 hlk0
    obtain ⟨q0, q1, z0, z1⟩ := cells_of_block hQ2
    obtain ⟨x0, x1, x2, x3, xz⟩ := four_cells hX2'
    clear hQ2 hX2'
    cases hmain : hasS (allS l) mainB with
    | false =>
      have hmF : metF l = (6, -1) := by unfold metF; rw [if_neg (by rw [Hc.out]; simp), if_pos hmain]
      have hfin := Lib.hid (fun W (hb : Below w.heap.size w W) => HB.out W 6 (-1) hb hmF (by decide))
      clear hmF hmain
      go_wp2_with fail
      refine Fault_calls 6 (-1) _ _ (fun w3 hb3 => ?_)
      have hQ3 := (hb3.block _ hlQ2).trans HQ2.out
      have HQ3 := Lib.hid hQ3
      have hfin3 := Lib.hid (hfin.out w3 (Hb2.out.trans (hb3.mono Hb2.out.size)))
      clear q0 q1 z0 z1 x0 x1 x2 x3 xz
      obtain ⟨q0, q1, z0, z1⟩ := cells_of_block hQ3
      have hl3 := blk_lt hQ3
      clear hb3 hQ3
      go_wp2
      exact bodyPost_ret (v := .tuple #[.pointer none, .agg #[.int .i64 6, .int .i64 (-1)]]) (res_slice_Fault (by rfl) (by rfl) (by rfl) (cells_blk (blkp HQ3.out))) rfl hfin3.out
    | true =>
      have hmF : metF l = (0, 0) := by unfold metF; rw [if_neg (by rw [Hc.out]; simp), if_neg (by rw [hmain]; simp)]
      have hfine := fine_of Hc.out
      have HmF := Lib.hid hmF
      have Hmain := Lib.hid hmain
      have Hfine := Lib.hid hfine
      obtain ⟨S, hS⟩ : ∃ S, S = allS l := ⟨_, rfl⟩
      rw [← hS] at Hmain Hfine Hmp2
      have HSl := Lib.hid hS
      clear hmF hmain hfine hS
      obtain ⟨gs, hgs⟩ : ∃ gs, gs = (l.getD 0 ⟨[], []⟩).globals := ⟨_, rfl⟩
      rw [← hgs] at Hgood Hg HX2 x0
      obtain ⟨W3, hW3⟩ : ∃ W3, W3 = (W2.setCell ⟨X + 1, 2, none⟩ (.slice (some ⟨W2.heap.size, 0, none⟩) 1 1)).alloc (Obj.cells #[.string mainB] 9) := ⟨_, rfl⟩
      have hsz : (W2.setCell ⟨X + 1, 2, none⟩ (.slice (some ⟨W2.heap.size, 0, none⟩) 1 1)).heap.size = W2.heap.size := by simp [World.setCell]
      have hlk3 : Lk w W3 X gs G gc S W2.heap.size (.slice (some ⟨W2.heap.size, 0, none⟩) 1 1) (.slice none 0 0) ([mainB], []) := by
        subst hW3
        refine ⟨blk_alloc ?_ _, ?_, ?_, ?_, ⟨by omega, by omega, by simp [World.setCell]⟩⟩
        · rw [block_set HX2.out]
          rfl
        · exact (Hmp2.out.kept (grown_setCell _ _ _) (fun e => by have := Option.some.inj e; simp at this)).below ((Below.refl _ _).alloc (Nat.le_refl _) _)
        · have := Two.begin (W2.setCell ⟨X + 1, 2, none⟩ (.slice (some ⟨W2.heap.size, 0, none⟩) 1 1)) (base := W2.heap.size) (by rw [hsz]; exact Nat.le_refl _) mainB
          rw [hsz] at this
          exact this
        · exact (Hb2.out.setCell (p := ⟨X + 1, 2, none⟩) (by show w.heap.size ≤ X + 1; omega) _).alloc (by rw [hsz]; exact Hb2.out.size) _
      have hQ3 : W3.heap[w.heap.size]? = some (.cells #[.int .i64 0, .int .i64 0] 27 (0, 0)) := by
        subst hW3
        exact blk_alloc (blk_other HQ2.out (by omega) _) _
      have HW3 := Lib.hid hW3.symm
      have Hlk3 := Lib.hid hlk3
      have HQ3 := Lib.hid hQ3
      clear hgs hW3 hlk3 hQ3 hsz
      go_upto_region 8 with fail
      rw [show (W2.setCell ⟨X + 1, 2, none⟩ (.slice (some ⟨W2.heap.size, 0, none⟩) 1 1)).alloc (Obj.cells #[.string ⟨#[109, 97, 105, 110]⟩] 9) = W3 from HW3.out]
      clear q0 q1 z0 z1 x0 x1 x2 x3 xz
      go_wp2_with fail
      go_loopg [8, 10, 58] S.length (fun g s8 s10 s58 wr => ∃ (i : Nat) (vo vu : Value) (st : List ByteArray × List ByteArray), g = S.length - i ∧ s8 = .int .i64 (i : Int) ∧ Rnd S i st ∧ Lk w wr X gs G gc S W2.heap.size vo vu st ∧ wr.heap[w.heap.size]? = some (.cells #[.int .i64 0, .int .i64 0] 27 (0, 0)))
      case atStart => exact ⟨0, _, _, _, rfl, rfl, Rnd.begin Hmain.out, Hlk3.out, HQ3.out⟩
      case round =>
        obtain ⟨i, vo, vu, ⟨xo, xu⟩, rfl, rfl, hrnd, hlk, hQr⟩ := hrel
        obtain ⟨A6, c6, hs6⟩ := own_slice hlk.two.ord
        obtain ⟨A7, c7, hs7⟩ := own_slice hlk.two.und
        simp only [] at hs6 hs7
        subst hs6 hs7
        have Hrnd := Lib.hid hrnd
        have Hlk := Lib.hid hlk
        have HQr := Lib.hid hQr
        obtain ⟨x0, x1, x2, x3, xz⟩ := four_cells hlk.blk
        have hlXr := blk_lt hlk.blk
        have j1 : (0 : Int) ≤ (i : Int) := Int.natCast_nonneg _
        by_cases hlt : i < xo.length
        · have hsl := SLstr_own hlk.two.ord (Nat.le_refl _)
          obtain ⟨b6, o6, nm, rfl, hb6, e6, p6⟩ := hsl.str_at hlt
          have hthere := hrnd.inv.there nm (List.mem_of_getElem? e6)
          obtain ⟨s, hsec, hsm, hsn⟩ := secFind_has hthere
          have j2 : (i : Int) < (xo.length : Int) := by omega
          have hle := hrnd.inv.len
          simp only [] at hle
          have hs480 := Hfine.out.few
          have hnms := (Hfine.out.mends s hsm).1
          have hml := (Hfine.out.mends s hsm).2.1
          rw [hsn] at hnms
          obtain ⟨B3, m3, B4, m4, hlook, _, hm4⟩ := hlk.mp.look (nm := nm) (by unfold maxLen; omega) hsec
          have hl0' := hlook wr (Below.refl _ _)
          have hl1' := hlook wr.drew (Below.refl wr.heap.size wr).drew
          have E6 := Lib.hid e6
          have Hsec := Lib.hid hsec
          have Hm4 := Lib.hid hm4
          have Hmid := Lib.hid (fun k => Hrnd.out.mid Hfine.out hsm k)
          have hS0 := And.intro x1 (And.intro x2 (And.intro p6 hl0'))
          have hS1 : wr.drew.cell? ⟨X + 1, 1, none⟩ = some (.map (some X)) ∧ wr.drew.cell? ⟨X + 1, 2, none⟩ = some (.slice (some ⟨b6, o6, none⟩) xo.length c6) ∧ wr.drew.cell? ⟨b6, o6 + i, none⟩ = some (.string nm) ∧ (Instr.lookup 72 (.map (some X)) (.string nm) false).run Tryz.prog wr.drew = .ok (.agg #[.string s.name, .slice B3 s.code.length m3, .slice B4 s.mends.length m4]) wr.drew := ⟨x1, x2, p6, hl1'⟩
          have hfd : ∀ w : World, (Instr.field 58 (.agg #[.string s.name, .slice B3 s.code.length m3, .slice B4 s.mends.length m4]) 2).run Tryz.prog w = .ok (.slice B4 s.mends.length m4) w := fun _ => by kernel_rfl
          clear hrnd hlk hQr hsl e6 hthere hsec hsn hlook hl0' hl1' hm4
          go_upto_region 11 with fail
          go_region_held3 (fun W : World => W.cell? ⟨X + 1, 1, none⟩ = some (.map (some X)) ∧ W.cell? ⟨X + 1, 2, none⟩ = some (.slice (some ⟨b6, o6, none⟩) xo.length c6) ∧ W.cell? ⟨b6, o6 + i, none⟩ = some (.string nm) ∧ (Instr.lookup 72 (.map (some X)) (.string nm) false).run Tryz.prog W = .ok (.agg #[.string s.name, .slice B3 s.code.length m3, .slice B4 s.mends.length m4]) W) (first | with_reducible exact hS0 | with_reducible exact hS1) (fail)
          all_goals
            go_wp2_with fail
            go_loopg [10, 58] s.mends.length (fun gi s10 s58 wi => ∃ (j : Nat) (vo vu : Value), j ≤ s.mends.length ∧ gi = s.mends.length - j ∧ s58 = .int .i64 (j : Int) ∧ Lk w wi X gs G gc S W2.heap.size vo vu (meetsL S (xo, xu) (s.mends.take j)) ∧ wi.heap[w.heap.size]? = some (.cells #[.int .i64 0, .int .i64 0] 27 (0, 0)))
            case atStart => exact ⟨0, _, _, Nat.zero_le _, rfl, rfl, Hlk.out.below (Below.refl wr.heap.size wr).drew, HQr.out⟩
            case round =>
              rename World => wi
              obtain ⟨j, vo, vu, hj, rfl, rfl, hlk, hQi⟩ := hrel
              have hmid := Hmid.out j
              have Hlki := Lib.hid hlk
              have HQi := Lib.hid hQi
              have Hbi := Lib.hid hlk.bel
              have j3 : (0 : Int) ≤ (j : Int) := Int.natCast_nonneg _
              by_cases hjl : j < s.mends.length
              · obtain ⟨b7, o7, m, hA7, hb7, e7, p7, p8⟩ := Hm4.out.mend_at hjl
                cases hA7
                have r7 := (Hbi.out.cell (p := ⟨b7, o7 + j * 2, none⟩) hb7).trans p7
                have r8 := (Hbi.out.cell (p := ⟨b7, o7 + j * 2 + 1, none⟩) hb7).trans p8
                have hmem := (Hfine.out.mends s hsm).2.2 m (List.mem_of_getElem? e7)
                have hst := meetsL_step (S := S) (st := (xo, xu)) e7
                have Hst := Lib.hid hst
                have j4 : (j : Int) < (s.mends.length : Int) := by omega
                obtain ⟨W6, hW6⟩ : ∃ W6, W6 = wi.alloc (Obj.cells #[.int .i64 m.at_, .string m.name] 84) := ⟨_, rfl⟩
                have hb6' : Below wi.heap.size wi W6 := by subst hW6; exact bl0
                have hV6 : W6.heap[wi.heap.size]? = some (.cells #[.int .i64 m.at_, .string m.name] 84 (0, 0)) := by subst hW6; exact heap_alloc_new _ _
                have Hlk6 := Lib.hid (hlk.below hb6')
                have HQ6 := Lib.hid ((hb6'.block _ (blk_lt hQi)).trans hQi)
                have HW6 := Lib.hid hW6.symm
                obtain ⟨v0, v1, _, _⟩ := cells_of_block hV6
                have hlV6 := blk_lt hV6
                have hX1 : w.heap.size < X + 1 := by have := hlk.low.1; omega
                have hX2 : w.heap.size < W2.heap.size := by have := hlk.low.2.1; omega
                clear hlk hQi p7 p8 e7 hst hW6 hb6' hV6
                go_upto_region 14 with fail
                rw [HW6.out]
                clear r7 r8
                go_wp2_with fail
                refine meet_calls w _ X gs G gc S W2.heap.size vo vu _ Hlk6.out m.name (by unfold maxLen; omega) hmid.1 hmid.2 _ (fun w7 vo' vu' hlk7 hgr7 => ?_)
                have hQ7 := (hgr7.block _ (blk_lt HQ6.out) (by omega)).trans HQ6.out
                have Hlk7 := Lib.hid hlk7
                have HQ7 := Lib.hid hQ7
                clear hlk7 hgr7 hQ7 v0 v1
                go_wp2
                go_roundg (s.mends.length - (j + 1))
                case measure => omega
                case rel => exact ⟨j + 1, vo', vu', hjl, rfl, by go_num, by rw [Hst.out]; exact Hlk7.out, HQ7.out⟩
              · obtain rfl : j = s.mends.length := by omega
                rw [List.take_length] at Hlki
                have hnext := Hrnd.out.next Hfine.out E6.out Hsec.out
                have Hnext := Lib.hid hnext
                have j4 : ¬ (s.mends.length : Int) < (s.mends.length : Int) := by omega
                clear hlk hnext hQi
                go_wp2
                go_roundg (S.length - (i + 1))
                case measure => omega
                case rel => exact ⟨i + 1, vo, vu, _, rfl, by go_num, Hnext.out, Hlki.out, HQi.out⟩
        · have hst := hrnd.stop hlt
          have j2 : ¬ (i : Int) < (xo.length : Int) := by omega
          have hX1 : w.heap.size < X + 1 := by have := hlk.low.1; omega
          have hX2 : w.heap.size < W2.heap.size := by have := hlk.low.2.1; omega
          have hend := Hgood.out (by rw [HmF.out]) ((wr.setCell ⟨w.heap.size, 0, none⟩ (.int .i64 0)).setCell ⟨w.heap.size, 1, none⟩ (.int .i64 0)) X G gc W2.heap.size (.slice A6 xo.length c6) (.slice A7 xu.length c7) (by
            rw [← HSl.out, ← hst]
            refine ⟨blk_other (blk_other hlk.blk (by omega) _) (by omega) _, (hlk.mp.kept (grown_setCell _ _ _) (fun e => ?_)).kept (grown_setCell _ _ _) (fun e => ?_), (hlk.two.set ⟨w.heap.size, 0, none⟩ hX2 _).set ⟨w.heap.size, 1, none⟩ hX2 _, (hlk.bel.setCell (p := ⟨w.heap.size, 0, none⟩) (Nat.le_refl _) _).setCell (p := ⟨w.heap.size, 1, none⟩) (Nat.le_refl _) _, hlk.low.1, hlk.low.2.1, by simp [World.setCell]; exact hlk.low.2.2⟩
            · have := Option.some.inj e
              simp at this
              omega
            · have := Option.some.inj e
              simp at this
              omega) Hg.out
          have Hend := Lib.hid hend
          obtain ⟨q0, q1, z0, z1⟩ := cells_of_block hQr
          have hlr := blk_lt hQr
          clear hend hst hrnd hlk hQr
          go_wp2
          exact bodyPost_ret (v := .tuple #[.pointer (some ⟨X + 1, 0, none⟩), .agg #[.int .i64 0, .int .i64 0]]) (res_slice_Fault (by rfl) (by rfl) (by rfl) (cells_blk (blkp HQr.out))) rfl Hend.out
end Go.Proofs.YtcakodemngchpaaGreatDoor
