/- PeepMeans' walk. -/
import Derived.Test.YtemakpjickbmnaaDoorBase
import Derived.Test.YtemakpjickbmnaaDoorRows
import Derived.IntWalk
import Derived.Outline
import Derived.Test.YtemakpjickbmnaaDoorKm3
import Derived.Test.YtemakpjickbmnaaDoorPeepW
import Derived.Test.YtemakpjickbmnaaDoorPkF
import Derived.Test.YtemakpjickbmnaaDoorRefA
namespace Go.Proofs.YtemakpjickbmnaaDoor
open Go.RowKit
set_option linter.unusedSimpArgs false
set_option linter.unusedVariables false

set_option maxRecDepth 100000 in
set_option maxHeartbeats 4000000 in
theorem PeepMeans_calls (raw inp : List Int) (v vi : Value) (fuel : Int) (w : World) (h : rpInt.SL w w.heap.size raw v) (hi : ∀ x ∈ raw, I64 x) (hin : rpInt.SL w w.heap.size inp vi) (hii : ∀ x ∈ inp, I64 x) (hfu : I64 fuel) (hS : Shapes w) (R : Ending → World → Prop) (hR : ∀ w', Below w.heap.size w w' → R (.returned (.bool true)) w') :
    Calls Tryd.prog 5 #[v, vi, .int .i64 fuel] w R := by
  have h0 := hS.1
  have HS := Lib.hid hS
  have HR := Lib.hid hR
  have hn0 := Int.emod_nonneg fuel (show (600 : Int) ≠ 0 by decide)
  have hn1 := Int.emod_lt_of_pos fuel (show (0 : Int) < 600 by decide)
  obtain ⟨n, hn⟩ : ∃ n : Nat, fuel % 600 = (n : Int) := ⟨(fuel % 600).toNat, by omega⟩
  have hn6 : n ≤ 600 := by omega
  have Hn := Lib.hid hn
  have hlone := code_lone hi 30 (by omega)
  have hi8 : ∀ x ∈ inp.take 8, N64 x := fun x hx => by have := hii x (List.mem_of_mem_take hx); unfold I64 at this; exact ⟨this.1, by omega⟩
  have Hfu := Lib.hid hfu
  obtain ⟨Av, cv, rfl, _, _, hsr⟩ := h.cases_
  obtain ⟨Ai, ci, rfl, _, _, hsi⟩ := hin.cases_
  have Hsr := Lib.hid hsr
  have Hsi := Lib.hid hsi
  have Hi := Lib.hid hi
  clear hR hS hn0 hn1 hn hii hfu h hin hsr hsi hi
  go_enter Tryd.func5, Tryd.ntmps5
  go_wp2_with fail
  refine CodeOf_calls raw _ 30 0 _ Hsr.out Hi.out (by omega) (by omega) _ (fun w1 v1 hb1 ho1 => ?_)
  obtain ⟨hlone2, _⟩ := peep_means (msr (codeOf raw 30 0)) hlone (Nat.le_refl _)
  have hruns := peep_runs hlone hi8 n
  generalize codeOf raw 30 0 = L at *
  have Hl1 := Lib.hid hlone
  have Hl2 := Lib.hid hlone2
  have Hruns := Lib.hid hruns
  have hsl1 := SLMac_own (B := w1.heap.size) ho1 (Nat.le_refl _)
  obtain ⟨A1, c1, rfl⟩ := own_slice ho1
  have Hs1 := Lib.hid hsl1
  have Hb1 := Lib.hid hb1
  obtain ⟨N1, hN1⟩ : ∃ N, L.length = N := ⟨_, rfl⟩
  rw [hN1] at Hs1 ⊢
  clear hb1 ho1 hsl1 hlone hlone2 hruns hN1
  go_wp2_with fail
  refine Picked_calls fuel 600 (by decide) (by decide) Hfu.out _ _ ?_
  rw [Hn.out]
  go_wp2_with fail
  refine PeepDo_calls _ L _ Hs1.out (HS.out.up Hb1.out h0) _ (fun _ w2 v2 hb2 ho2 => ?_) (fun e => absurd (by rw [macsOk_iff.2 Hl1.out.ok]) e)
  have hsl2 := SLMac_own (B := w2.heap.size) ho2 (Nat.le_refl _)
  obtain ⟨A2, c2, rfl⟩ := own_slice ho2
  have Hs2 := Lib.hid hsl2
  have Hb2 := Lib.hid (Hb1.out.trans (hb2.mono Hb1.out.size))
  have Hs1' := Lib.hid (Hs1.out.up hb2 hb2.size)
  obtain ⟨N2, hN2⟩ : ∃ N, (peepL L).length = N := ⟨_, rfl⟩
  rw [hN2] at Hs2 ⊢
  clear hb2 ho2 hsl2 hN2 Hs1
  have hbA : Below w2.heap.size w2 (w2.alloc (Obj.cells #[.int .i64 0, .int .i64 0] 25)) := bl0
  have HbA := Lib.hid hbA
  clear hbA
  go_wp2_with fail
  refine RefMacCheck_calls _ (peepL L) _ (Hs2.out.up HbA.out HbA.out.size) _ (fun w3 hb3 => ?_)
  rw [macsOk_iff.2 Hl2.out.ok]
  have Hb23 := Lib.hid (HbA.out.trans (hb3.mono HbA.out.size))
  have Hb3 := Lib.hid (Hb2.out.trans (Hb23.out.mono Hb2.out.size))
  have Hs13 := Lib.hid (Hs1'.out.up Hb23.out Hb23.out.size)
  have Hs23 := Lib.hid (Hs2.out.up Hb23.out Hb23.out.size)
  have hfd : ∀ w, (Instr.field 25 (.agg #[.int .i64 0, .int .i64 0]) 0).run Tryd.prog w = .ok (.int .i64 0) w := fun _ => by kernel_rfl
  clear hb3 Hs1' Hs2 HbA
  go_wp2_with fail
  refine Alone_calls L _ _ Hs13.out (fun m hm => (true_of (Hl1.out.ok.fine m hm) (Hl1.out.nums m hm)).toGoodMac) (by have := Hl1.out.ok.few; omega) _ (fun w4 g4 r4 hb4 hg4 hr4 => ?_)
  have Hb4 := Lib.hid (Hb3.out.trans (hb4.mono Hb3.out.size))
  have Hs24 := Lib.hid (Hs23.out.up hb4 hb4.size)
  have Hg4 := Lib.hid hg4
  have Hr4 := Lib.hid hr4
  clear hb4 hg4 hr4 Hs13 Hs23
  go_wp2_with fail
  refine Input_calls inp _ _ (Hsi.out.up Hb4.out Hb4.out.size) _ (fun w5 i5 hb5 hi5 => ?_)
  have Hb5 := Lib.hid (Hb4.out.trans (hb5.mono Hb4.out.size))
  have Hs25 := Lib.hid (Hs24.out.up hb5 hb5.size)
  have Hg5 := Lib.hid (Hg4.out.up hb5 hb5.size)
  have Hr5 := Lib.hid (Hr4.out.up hb5 hb5.size)
  have Hi5 := Lib.hid hi5
  clear hb5 hi5 Hs24 Hg4 Hr4
  go_wp2_with fail
  refine Run_calls (aloneI L) _ _ _ (inp.take 8) n _ Hg5.out Hr5.out (alone_img Hl1.out) (HS.out.up Hb5.out h0) Hi5.out (by omega) (by rw [List.length_take]; omega) _ (fun w6 vo1 hb6 hvo1 => ?_)
  obtain ⟨O1, hO1⟩ : ∃ O, O = runO (aloneI L) (inp.take 8) n := ⟨_, rfl⟩
  rw [← hO1] at hvo1 Hruns ⊢
  obtain ⟨st1, val1, out1, steps1⟩ := O1
  have Hb6 := Lib.hid (Hb5.out.trans (hb6.mono Hb5.out.size))
  have Hs26 := Lib.hid (Hs25.out.up hb6 hb6.size)
  obtain ⟨Ao1, co1, rfl, _, _, hx1⟩ := hvo1.cases_
  have Hx1 := Lib.hid hx1
  simp only at Hx1 Hruns ⊢
  obtain ⟨M1, hM1⟩ : ∃ N, out1.length = N := ⟨_, rfl⟩
  rw [hM1] at Hx1 ⊢
  clear hb6 hvo1 hx1 hM1 hO1 Hs25 Hg5 Hr5 Hi5
  obtain ⟨W7, hW7⟩ : ∃ W7, W7 = (w6.alloc (Obj.cells #[.int .i64 st1, .int .i64 val1, .slice Ao1 M1 co1, .int .i64 (steps1 : Int)] 44)).alloc (Obj.cells #[.int .i64 0, .int .i64 0] 25) := ⟨_, rfl⟩
  have hbW7 : Below w6.heap.size w6 W7 := by subst hW7; exact bl0
  have hO7 : W7.heap[w6.heap.size]? = some (.cells #[.int .i64 st1, .int .i64 val1, .slice Ao1 M1 co1, .int .i64 (steps1 : Int)] 44 (0, 0)) := by subst hW7; exact blk_alloc (heap_alloc_new _ _) _
  have hF7 : W7.heap[w6.heap.size + 1]? = some (.cells #[.int .i64 0, .int .i64 0] 25 (0, 0)) := by
    subst hW7
    have := heap_alloc_new (w6.alloc (Obj.cells #[.int .i64 st1, .int .i64 val1, .slice Ao1 M1 co1, .int .i64 (steps1 : Int)] 44)) (Obj.cells #[.int .i64 0, .int .i64 0] 25)
    simpa using this
  have HO7 := Lib.hid hO7
  have HF7 := Lib.hid hF7
  have HW7 := Lib.hid hW7.symm
  have Hb7 := Lib.hid (Hb6.out.trans (hbW7.mono Hb6.out.size))
  have Hs27 := Lib.hid (Hs26.out.up hbW7 hbW7.size)
  have Hx7 := Lib.hid (Hx1.out.up hbW7 hbW7.size)
  clear hW7 hbW7 hO7 hF7 Hs26 Hx1
  go_upto_region 7 with fail
  rw [HW7.out]
  go_wp2_with fail
  refine Alone_calls (peepL L) _ _ Hs27.out (fun m hm => (true_of (Hl2.out.ok.fine m hm) (Hl2.out.nums m hm)).toGoodMac) (by have := Hl2.out.ok.few; omega) _ (fun w8 g8 r8 hb8 hg8 hr8 => ?_)
  have Hb8 := Lib.hid (Hb7.out.trans (hb8.mono Hb7.out.size))
  have Hb78 := Lib.hid hb8
  have Hg8 := Lib.hid hg8
  have Hr8 := Lib.hid hr8
  clear hb8 hg8 hr8 Hs27
  go_wp2_with fail
  refine Input_calls inp _ _ (Hsi.out.up Hb8.out Hb8.out.size) _ (fun w9 i9 hb9 hi9 => ?_)
  have Hb9 := Lib.hid (Hb8.out.trans (hb9.mono Hb8.out.size))
  have Hb79 := Lib.hid (Hb78.out.trans (hb9.mono Hb78.out.size))
  have Hg9 := Lib.hid (Hg8.out.up hb9 hb9.size)
  have Hr9 := Lib.hid (Hr8.out.up hb9 hb9.size)
  have Hi9 := Lib.hid hi9
  clear hb9 hi9 Hg8 Hr8 Hb78
  go_wp2_with fail
  refine Run_calls (aloneI (peepL L)) _ _ _ (inp.take 8) n _ Hg9.out Hr9.out (alone_img Hl2.out) (HS.out.up Hb9.out h0) Hi9.out (by omega) (by rw [List.length_take]; omega) _ (fun wa vo2 hba hvo2 => ?_)
  obtain ⟨O2, hO2⟩ : ∃ O, O = runO (aloneI (peepL L)) (inp.take 8) n := ⟨_, rfl⟩
  rw [← hO2] at hvo2 Hruns ⊢
  obtain ⟨st2, val2, out2, steps2⟩ := O2
  have Hba := Lib.hid (Hb9.out.trans (hba.mono Hb9.out.size))
  have Hb7a := Lib.hid (Hb79.out.trans (hba.mono Hb79.out.size))
  obtain ⟨Ao2, co2, rfl, _, _, hx2⟩ := hvo2.cases_
  have Hx2 := Lib.hid hx2
  simp only at Hx2 Hruns ⊢
  obtain ⟨M2, hM2⟩ : ∃ N, out2.length = N := ⟨_, rfl⟩
  rw [hM2] at Hx2 ⊢
  clear hba hvo2 hx2 hM2 hO2 Hg9 Hr9 Hi9 Hb79
  obtain ⟨Wb, hWb⟩ : ∃ Wb, Wb = (wa.alloc (Obj.cells #[.int .i64 st2, .int .i64 val2, .slice Ao2 M2 co2, .int .i64 (steps2 : Int)] 44)).alloc (Obj.cells #[.int .i64 0, .int .i64 0] 25) := ⟨_, rfl⟩
  have hbWb : Below wa.heap.size wa Wb := by subst hWb; exact bl0
  have hOb : Wb.heap[wa.heap.size]? = some (.cells #[.int .i64 st2, .int .i64 val2, .slice Ao2 M2 co2, .int .i64 (steps2 : Int)] 44 (0, 0)) := by subst hWb; exact blk_alloc (heap_alloc_new _ _) _
  have hFb : Wb.heap[wa.heap.size + 1]? = some (.cells #[.int .i64 0, .int .i64 0] 25 (0, 0)) := by
    subst hWb
    have := heap_alloc_new (wa.alloc (Obj.cells #[.int .i64 st2, .int .i64 val2, .slice Ao2 M2 co2, .int .i64 (steps2 : Int)] 44)) (Obj.cells #[.int .i64 0, .int .i64 0] 25)
    simpa using this
  have hb7b := Hb7a.out.trans (hbWb.mono Hb7a.out.size)
  have hO7b := (hb7b.block _ (blk_lt HO7.out)).trans HO7.out
  have hF7b := (hb7b.block _ (blk_lt HF7.out)).trans HF7.out
  have Hx7b := Lib.hid (Hx7.out.up hb7b hb7b.size)
  have Hx2b := Lib.hid (Hx2.out.up hbWb hbWb.size)
  have Hbb := Lib.hid (Hba.out.trans (hbWb.mono Hba.out.size))
  have HOb := Lib.hid hOb
  have HO7b := Lib.hid hO7b
  obtain ⟨p0, p1⟩ := cells_blk hF7b
  obtain ⟨q0, q1⟩ := cells_blk hFb
  have l1 := blk_lt hF7b
  have l2 := blk_lt hFb
  have HWb := Lib.hid hWb.symm
  clear hWb hbWb hOb hFb hb7b hO7b hF7b Hx7 Hx2 HO7 HF7 HW7 Hb7a
  go_upto_region 8 with fail
  rw [HWb.out]
  go_wp2_with fail
  refine KSure_calls _ (HS.out.up Hbb.out h0) _ (fun wz hbz => ?_)
  have HBz := Lib.hid (Hbb.out.trans (hbz.mono Hbb.out.size))
  have Hxz1 := Lib.hid (Hx7b.out.up hbz hbz.size)
  have Hxz2 := Lib.hid (Hx2b.out.up hbz hbz.size)
  have hO1z := (hbz.block _ (blk_lt HO7b.out)).trans HO7b.out
  have hO2z := (hbz.block _ (blk_lt HOb.out)).trans HOb.out
  obtain ⟨a0, a1, a2, a3, _⟩ := four_blk hO1z
  obtain ⟨b0, b1, b2, b3, _⟩ := four_blk hO2z
  have m1 := blk_lt hO1z
  have m2 := blk_lt hO2z
  clear hbz hO1z hO2z p0 p1 q0 q1 l1 l2 Hx7b Hx2b HOb HO7b
  by_cases hst : st1 = 1
  · have j1 : (st1 == 1) = true := by simpa using hst
    clear hst
    go_wp2
    exact HR.out _ HBz.out
  · have j1 : (st1 == 1) = false := by simpa using hst
    obtain ⟨e1, e2, e3, e4⟩ := Hruns.out hst
    subst e1 e2 e3
    have e5 : (steps2 : Int) ≤ (steps1 : Int) := by omega
    clear hst Hruns e4
    go_wp2_with fail
    refine Comes_calls st2 val2 _ _ out2 _ _ _ Hxz1.out Hxz2.out _ (fun wy hby => ?_)
    have HBy := Lib.hid (HBz.out.trans (hby.mono HBz.out.size))
    have b3' := (hby.cell (p := ⟨wa.heap.size, 3, none⟩) m2).trans b3
    have a3' := (hby.cell (p := ⟨w6.heap.size, 3, none⟩) m1).trans a3
    have m1' := Nat.lt_of_lt_of_le m1 hby.size
    have m2' := Nat.lt_of_lt_of_le m2 hby.size
    clear hby a0 a1 a2 a3 b0 b1 b2 b3 m1 m2
    go_wp2
    exact HR.out _ HBy.out
end Go.Proofs.YtemakpjickbmnaaDoor
