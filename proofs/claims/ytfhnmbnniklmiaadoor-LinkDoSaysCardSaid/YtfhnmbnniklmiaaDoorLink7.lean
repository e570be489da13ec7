/- link.reach: functions that main reaches; link.Reach, link.Undone. -/
import Derived.Test.YtfhnmbnniklmiaaDoorBase
import Derived.Test.YtfhnmbnniklmiaaDoorRows
import Derived.IntWalk
import Derived.Deep.LoopGhost
import Derived.Deep.CutBlock
import Derived.Deep.DeepCutAuto
import Derived.Deep.RegionHeld3
import Derived.Outline
import Derived.Test.YtfhnmbnniklmiaaDoorLink6
namespace Go.Proofs.YtfhnmbnniklmiaaDoor
open Go.RowKit
set_option linter.unusedSimpArgs false
set_option linter.unusedVariables false

theorem metF_cases (l : List Object) : (metF l).1 = 0 → (linkF l).1 = 0 ∧ hasS (allS l) mainB = true ∧ metF l = (0, 0) ∧ metO l = reached (allS l) := fun h => by
  have h' := h
  unfold metF at h
  by_cases h1 : (linkF l).1 ≠ 0
  · rw [if_pos h1] at h
    exact absurd h h1
  rw [if_neg h1] at h
  by_cases h2 : hasS (allS l) mainB = false
  · rw [if_pos h2] at h
    simp at h
  rw [if_neg h2] at h
  have hF : metF l = (0, 0) := by
    unfold metF
    rw [if_neg h1, if_neg h2]
  refine ⟨by simpa using h1, by simpa using h2, hF, ?_⟩
  unfold metO
  rw [hF, if_neg (by simp)]

set_option maxRecDepth 100000 in
set_option maxHeartbeats 4000000 in
theorem reach_calls (l : List Object) (v : Value) (w : World) (h : rpObject.SL w w.heap.size l v) (hS : Shapes w) (R : Ending → World → Prop)
    (hbad : (metF l).1 ≠ 0 → ∀ w', Below w.heap.size w w' → R (.returned (.tuple #[.pointer none, (.agg #[.int .i64 (metF l).1, .int .i64 (metF l).2])])) w')
    (hgood : (metF l).1 = 0 → ∀ w' X G gc base vo vu, Lk w w' X (l.getD 0 ⟨[], []⟩).globals G gc (allS l) base vo vu (reached (allS l)) → rpGlobal.SL w w.heap.size (l.getD 0 ⟨[], []⟩).globals (.slice G (l.getD 0 ⟨[], []⟩).globals.length gc) →
      R (.returned (.tuple #[.pointer (some ⟨X + 1, 0, none⟩), .agg #[.int .i64 0, .int .i64 0]])) w') :
    Calls Tryd.prog 35 #[v] w R := by
  have h0 := hS.1
  obtain ⟨A, c, rfl, hm, hcap, h⟩ := h.cases_
  have Hbad := Lib.hid hbad
  have Hgood := Lib.hid hgood
  have H := Lib.hid h
  have HSh := Lib.hid hS
  obtain ⟨W0, hW0⟩ : ∃ W0, W0 = w.alloc (Obj.cells #[.int .i64 0, .int .i64 0] 25) := ⟨_, rfl⟩
  have hb0 : Below w.heap.size w W0 := by subst hW0; exact (by repeat (first | exact Below.refl _ _ | assumption | refine below_drewN ?_ _ | refine Below.drew ?_ | refine Below.setCell ?_ (by first | omega | (simp; done) | (simp; omega)) _ | refine Below.alloc ?_ (by first | omega | (simp; done) | (simp; omega)) _ | refine below_step (by assumption) ?_ (by first | omega | (simp; done) | (simp; omega))))
  have hz0 : W0.heap.size = w.heap.size + 1 := by subst hW0; simp
  have hQ : W0.heap[w.heap.size]? = some (.cells #[.int .i64 0, .int .i64 0] 25 (0, 0)) := by subst hW0; exact heap_alloc_new _ _
  have HW := Lib.hid hW0.symm
  have HQ := Lib.hid hQ
  have Hb0 := Lib.hid hb0
  have hl0 : w.heap.size < W0.heap.size := by omega
  have HB : Hid (∀ (W : World) (c a : Int), Below w.heap.size w W → metF l = (c, a) → c ≠ 0 → R (.returned (.tuple #[.pointer none, .agg #[.int .i64 c, .int .i64 a]])) ((W.setCell ⟨w.heap.size, 0, none⟩ (.int .i64 c)).setCell ⟨w.heap.size, 1, none⟩ (.int .i64 a))) := Lib.hid fun W c a hb e hc => by
    have := Hbad.out (by rw [e]; exact hc) ((W.setCell ⟨w.heap.size, 0, none⟩ (.int .i64 c)).setCell ⟨w.heap.size, 1, none⟩ (.int .i64 a)) ((hb.setCell (p := ⟨w.heap.size, 0, none⟩) (Nat.le_refl _) _).setCell (p := ⟨w.heap.size, 1, none⟩) (Nat.le_refl _) _)
    rw [e] at this
    exact this
  clear hbad hgood h hS hW0 hb0 hQ hz0
  go_enter Tryd.func35, Tryd.ntmps35
  go_upto_region 1 with fail
  rw [HW.out]
  go_wp2_with fail
  refine gather_calls l _ w _ H.out Hb0.out (HSh.out.up Hb0.out h0) _ (fun hc w1 hb1 => ?_) (fun hc w1 X G gc hX1 hX2 hb1 hg hblk hmp => ?_)
  · obtain ⟨F, hF⟩ : ∃ F, F = linkF l := ⟨_, rfl⟩
    rw [← hF] at hc ⊢
    obtain ⟨fc, fa⟩ := F
    simp only [] at hc ⊢
    have hmF : metF l = (fc, fa) := by unfold metF; rw [← hF, if_pos hc]
    have hq : ∀ w, (binOp .neq 25 (.agg #[.int .i64 fc, .int .i64 fa]) (.agg #[.int .i64 0, .int .i64 0])).run Tryd.prog w = .ok (.bool true) w := fun w => by
      rw [neq_Fault]
      simp [hc]
    have hfin : Hid (∀ W, Below w.heap.size w W → R (.returned (.tuple #[.pointer none, .agg #[.int .i64 fc, .int .i64 fa]])) W) := Lib.hid fun W hb => by
      have := Hbad.out (by rw [hmF]; exact hc) W hb
      rw [hmF] at this
      exact this
    have hQ1 := (hb1.block _ hl0).trans HQ.out
    have HQ1 := Lib.hid hQ1
    have Hb1 := Lib.hid (Hb0.out.trans (hb1.mono Hb0.out.size))
    obtain ⟨q0, q1, z0, z1⟩ := cells_of_block hQ1
    have hl1 := blk_lt hQ1
    clear hc hF hmF hb1 hQ1
    go_wp2
    go_region
    all_goals
      go_wp2
      exact bodyPost_ret (v := .tuple #[.pointer none, .agg #[.int .i64 fc, .int .i64 fa]]) (res_slice_Fault (by rfl) (by rfl) (by rfl) (cells_blk (by repeat (first | with_reducible exact HQ1.out | with_reducible refine blk_drew ?_ | with_reducible refine blk_drewN ?_ _ | with_reducible refine blk_alloc ?_ _ | with_reducible apply blk_set1 | with_reducible apply blk_set0 | with_reducible refine blk_other ?_ (by first | (simp; done) | omega | (simp; omega)) _)))) rfl (hfin.out _ (by
        have hb := Hb1.out
        exact (by repeat (first | exact Below.refl _ _ | assumption | refine below_drewN ?_ _ | refine Below.drew ?_ | refine Below.setCell ?_ (by first | omega | (simp; done) | (simp; omega)) _ | refine Below.alloc ?_ (by first | omega | (simp; done) | (simp; omega)) _ | refine below_step (by assumption) ?_ (by first | omega | (simp; done) | (simp; omega))))))
  · have hq : ∀ w, (binOp .neq 25 (.agg #[.int .i64 0, .int .i64 0]) (.agg #[.int .i64 0, .int .i64 0])).run Tryd.prog w = .ok (.bool false) w := fun w => neq_Fault 0 0 0 0 w
    obtain ⟨W1, hW1⟩ : ∃ W1, W1 = w1.alloc (Obj.cells #[.int .i64 0, .int .i64 0] 25) := ⟨_, rfl⟩
    have hbW1 : Below w1.heap.size w1 W1 := by subst hW1; exact (by repeat (first | exact Below.refl _ _ | assumption | refine below_drewN ?_ _ | refine Below.drew ?_ | refine Below.setCell ?_ (by first | omega | (simp; done) | (simp; omega)) _ | refine Below.alloc ?_ (by first | omega | (simp; done) | (simp; omega)) _ | refine below_step (by assumption) ?_ (by first | omega | (simp; done) | (simp; omega))))
    have hV1 : W1.heap[w1.heap.size]? = some (.cells #[.int .i64 0, .int .i64 0] 25 (0, 0)) := by subst hW1; exact heap_alloc_new _ _
    have hbb := hb1.trans (hbW1.mono hb1.size)
    have hQ1 := (hbb.block _ hl0).trans HQ.out
    have hX := (hbW1.block _ (blk_lt hblk)).trans hblk
    have hmp1 := hmp.below hbW1
    obtain ⟨B1, m1, d1, B2, m2, d2, nm', hlook⟩ := hmp1.look_ok (nm := mainB) (by decide)
    have hlk0 : (Instr.lookup 74 (.map (some X)) (.string ⟨#[109, 97, 105, 110]⟩) true).run Tryd.prog W1 = .ok (.tuple #[.agg #[.string nm', .slice B1 m1 d1, .slice B2 m2 d2], .bool (hasS (allS l) mainB)]) W1 := hlook W1 (Below.refl _ _)
    have HW1 := Lib.hid hW1.symm
    have HQ1 := Lib.hid hQ1
    have HX := Lib.hid hX
    have Hmp1 := Lib.hid hmp1
    have Hc := Lib.hid hc
    have Hg := Lib.hid hg
    have Hbb := Lib.hid (Hb0.out.trans (hbb.mono Hb0.out.size))
    have HzX := Lib.hid hX1
    obtain ⟨x0, x1, x2, x3, xz⟩ := four_cells hX
    obtain ⟨v0, v1, _, _⟩ := cells_of_block hV1
    have hlX := blk_lt hX
    have hlV := blk_lt hV1
    have hwX : w.heap.size < X := by omega
    obtain ⟨W2, hW2⟩ : ∃ W2, W2 = W1.alloc (Obj.cells #[.string nm', .slice B1 m1 d1, .slice B2 m2 d2] 64) := ⟨_, rfl⟩
    have hbW2 : Below W1.heap.size W1 W2 := by subst hW2; exact (by repeat (first | exact Below.refl _ _ | assumption | refine below_drewN ?_ _ | refine Below.drew ?_ | refine Below.setCell ?_ (by first | omega | (simp; done) | (simp; omega)) _ | refine Below.alloc ?_ (by first | omega | (simp; done) | (simp; omega)) _ | refine below_step (by assumption) ?_ (by first | omega | (simp; done) | (simp; omega))))
    have HW2 := Lib.hid hW2.symm
    have HbW2 := Lib.hid hbW2
    have hQ2 := (hbW2.block _ (blk_lt hQ1)).trans hQ1
    have hX2' := (hbW2.block _ hlX).trans hX
    have HQ2 := Lib.hid hQ2
    have HX2 := Lib.hid hX2'
    have Hmp2 := Lib.hid (hmp1.below hbW2)
    have Hb2 := Lib.hid (Hbb.out.trans (hbW2.mono Hbb.out.size))
    have hlQ2 := blk_lt hQ2
    have hlX2 := blk_lt hX2'
    clear hc hX1 hX2 hb1 hg hblk hmp hW1 hbW1 hV1 hbb hQ1 hX hmp1 hlook hW2 hbW2
    go_upto_region 2 with fail
    rw [HW1.out]
    go_upto_region 5 with fail
    rw [HW2.out]
    clear x0 x1 x2 x3 xz v0 v1 hlk0
    obtain ⟨q0, q1, z0, z1⟩ := cells_of_block hQ2
    obtain ⟨x0, x1, x2, x3, xz⟩ := four_cells hX2'
    clear hQ2 hX2'
    cases hmain : hasS (allS l) mainB with
    | false =>
      have hmF : metF l = (6, -1) := by unfold metF; rw [if_neg (by rw [Hc.out]; simp), if_pos hmain]
      have hfin := Lib.hid (fun W (hb : Below w.heap.size w W) => HB.out W 6 (-1) hb hmF (by decide))
      clear hmF hmain
      go_wp2_with fail
      refine Fault_calls 6 (-1) _ _ (fun w3 hb3 => ?_)
      have hQ3 := (hb3.block _ hlQ2).trans HQ2.out
      have HQ3 := Lib.hid hQ3
      have hfin3 := Lib.hid (hfin.out w3 (Hb2.out.trans (hb3.mono Hb2.out.size)))
      clear q0 q1 z0 z1 x0 x1 x2 x3 xz
      obtain ⟨q0, q1, z0, z1⟩ := cells_of_block hQ3
      have hl3 := blk_lt hQ3
      clear hb3 hQ3
      go_wp2
      exact bodyPost_ret (v := .tuple #[.pointer none, .agg #[.int .i64 6, .int .i64 (-1)]]) (res_slice_Fault (by rfl) (by rfl) (by rfl) (cells_blk (by repeat (first | with_reducible exact HQ3.out | with_reducible refine blk_drew ?_ | with_reducible refine blk_drewN ?_ _ | with_reducible refine blk_alloc ?_ _ | with_reducible apply blk_set1 | with_reducible apply blk_set0 | with_reducible refine blk_other ?_ (by first | (simp; done) | omega | (simp; omega)) _)))) rfl hfin3.out
    | true =>
      have hmF : metF l = (0, 0) := by unfold metF; rw [if_neg (by rw [Hc.out]; simp), if_neg (by rw [hmain]; simp)]
      have hfine := fine_of Hc.out
      have HmF := Lib.hid hmF
      have Hmain := Lib.hid hmain
      have Hfine := Lib.hid hfine
      obtain ⟨S, hS⟩ : ∃ S, S = allS l := ⟨_, rfl⟩
      rw [← hS] at Hmain Hfine Hmp2
      have HSl := Lib.hid hS
      clear hmF hmain hfine hS
      obtain ⟨gs, hgs⟩ : ∃ gs, gs = (l.getD 0 ⟨[], []⟩).globals := ⟨_, rfl⟩
      rw [← hgs] at Hgood Hg HX2 x0
      obtain ⟨W3, hW3⟩ : ∃ W3, W3 = (W2.setCell ⟨X + 1, 2, none⟩ (.slice (some ⟨W2.heap.size, 0, none⟩) 1 1)).alloc (Obj.cells #[.string mainB] 9) := ⟨_, rfl⟩
      have hsz : (W2.setCell ⟨X + 1, 2, none⟩ (.slice (some ⟨W2.heap.size, 0, none⟩) 1 1)).heap.size = W2.heap.size := by simp [World.setCell]
      have hlk3 : Lk w W3 X gs G gc S W2.heap.size (.slice (some ⟨W2.heap.size, 0, none⟩) 1 1) (.slice none 0 0) ([mainB], []) := by
        subst hW3
        refine ⟨blk_alloc ?_ _, ?_, ?_, ?_, ⟨by omega, by omega, by simp [World.setCell]⟩⟩
        · rw [block_set HX2.out]
          rfl
        · exact (Hmp2.out.kept (grown_setCell _ _ _) (fun e => by have := Option.some.inj e; simp at this)).below ((Below.refl _ _).alloc (Nat.le_refl _) _)
        · have := Two.begin (W2.setCell ⟨X + 1, 2, none⟩ (.slice (some ⟨W2.heap.size, 0, none⟩) 1 1)) (base := W2.heap.size) (by rw [hsz]; exact Nat.le_refl _) mainB
          rw [hsz] at this
          exact this
        · exact (Hb2.out.setCell (p := ⟨X + 1, 2, none⟩) (by show w.heap.size ≤ X + 1; omega) _).alloc (by rw [hsz]; exact Hb2.out.size) _
      have hQ3 : W3.heap[w.heap.size]? = some (.cells #[.int .i64 0, .int .i64 0] 25 (0, 0)) := by
        subst hW3
        exact blk_alloc (blk_other HQ2.out (by omega) _) _
      have HW3 := Lib.hid hW3.symm
      have Hlk3 := Lib.hid hlk3
      have HQ3 := Lib.hid hQ3
      clear hgs hW3 hlk3 hQ3 hsz
      go_upto_region 8 with fail
      rw [show (W2.setCell ⟨X + 1, 2, none⟩ (.slice (some ⟨W2.heap.size, 0, none⟩) 1 1)).alloc (Obj.cells #[.string ⟨#[109, 97, 105, 110]⟩] 9) = W3 from HW3.out]
      clear q0 q1 z0 z1 x0 x1 x2 x3 xz
      go_wp2_with fail
      go_loopg [8, 10, 58] S.length (fun g s8 s10 s58 wr => ∃ (i : Nat) (vo vu : Value) (st : List ByteArray × List ByteArray), g = S.length - i ∧ s8 = .int .i64 (i : Int) ∧ Rnd S i st ∧ Lk w wr X gs G gc S W2.heap.size vo vu st ∧ wr.heap[w.heap.size]? = some (.cells #[.int .i64 0, .int .i64 0] 25 (0, 0)))
      case atStart => exact ⟨0, _, _, _, rfl, rfl, Rnd.begin Hmain.out, Hlk3.out, HQ3.out⟩
      case round =>
        obtain ⟨i, vo, vu, ⟨xo, xu⟩, rfl, rfl, hrnd, hlk, hQr⟩ := hrel
        obtain ⟨A6, c6, hs6⟩ := own_slice hlk.two.ord
        obtain ⟨A7, c7, hs7⟩ := own_slice hlk.two.und
        simp only [] at hs6 hs7
        subst hs6 hs7
        have Hrnd := Lib.hid hrnd
        have Hlk := Lib.hid hlk
        have HQr := Lib.hid hQr
        obtain ⟨x0, x1, x2, x3, xz⟩ := four_cells hlk.blk
        have hlXr := blk_lt hlk.blk
        have j1 : (0 : Int) ≤ (i : Int) := Int.natCast_nonneg _
        by_cases hlt : i < xo.length
        · have hsl := SLstr_own hlk.two.ord (Nat.le_refl _)
          obtain ⟨b6, o6, nm, rfl, hb6, e6, p6⟩ := hsl.str_at hlt
          have hthere := hrnd.inv.there nm (List.mem_of_getElem? e6)
          obtain ⟨s, hsec, hsm, hsn⟩ := secFind_has hthere
          have j2 : (i : Int) < (xo.length : Int) := by omega
          have hle := hrnd.inv.len
          simp only [] at hle
          have hs480 := Hfine.out.few
          have hnms := (Hfine.out.mends s hsm).1
          have hml := (Hfine.out.mends s hsm).2.1
          rw [hsn] at hnms
          obtain ⟨B3, m3, B4, m4, hlook, _, hm4⟩ := hlk.mp.look (nm := nm) (by unfold maxLen; omega) hsec
          have hl0' := hlook wr (Below.refl _ _)
          have hl1' := hlook wr.drew (Below.refl wr.heap.size wr).drew
          have E6 := Lib.hid e6
          have Hsec := Lib.hid hsec
          have Hm4 := Lib.hid hm4
          have Hmid := Lib.hid (fun k => Hrnd.out.mid Hfine.out hsm k)
          have hS0 := And.intro x1 (And.intro x2 (And.intro p6 hl0'))
          have hS1 : wr.drew.cell? ⟨X + 1, 1, none⟩ = some (.map (some X)) ∧ wr.drew.cell? ⟨X + 1, 2, none⟩ = some (.slice (some ⟨b6, o6, none⟩) xo.length c6) ∧ wr.drew.cell? ⟨b6, o6 + i, none⟩ = some (.string nm) ∧ (Instr.lookup 74 (.map (some X)) (.string nm) false).run Tryd.prog wr.drew = .ok (.agg #[.string s.name, .slice B3 s.code.length m3, .slice B4 s.mends.length m4]) wr.drew := ⟨x1, x2, p6, hl1'⟩
          have hfd : ∀ w : World, (Instr.field 64 (.agg #[.string s.name, .slice B3 s.code.length m3, .slice B4 s.mends.length m4]) 2).run Tryd.prog w = .ok (.slice B4 s.mends.length m4) w := fun _ => by kernel_rfl
          clear hrnd hlk hQr hsl e6 hthere hsec hsn hlook hl0' hl1' hm4
          go_upto_region 11 with fail
          go_region_held3 (fun W : World => W.cell? ⟨X + 1, 1, none⟩ = some (.map (some X)) ∧ W.cell? ⟨X + 1, 2, none⟩ = some (.slice (some ⟨b6, o6, none⟩) xo.length c6) ∧ W.cell? ⟨b6, o6 + i, none⟩ = some (.string nm) ∧ (Instr.lookup 74 (.map (some X)) (.string nm) false).run Tryd.prog W = .ok (.agg #[.string s.name, .slice B3 s.code.length m3, .slice B4 s.mends.length m4]) W) (first | with_reducible exact hS0 | with_reducible exact hS1) (fail)
          all_goals
            go_wp2_with fail
            go_loopg [10, 58] s.mends.length (fun gi s10 s58 wi => ∃ (j : Nat) (vo vu : Value), j ≤ s.mends.length ∧ gi = s.mends.length - j ∧ s58 = .int .i64 (j : Int) ∧ Lk w wi X gs G gc S W2.heap.size vo vu (meetsL S (xo, xu) (s.mends.take j)) ∧ wi.heap[w.heap.size]? = some (.cells #[.int .i64 0, .int .i64 0] 25 (0, 0)))
            case atStart => exact ⟨0, _, _, Nat.zero_le _, rfl, rfl, Hlk.out.below (Below.refl wr.heap.size wr).drew, HQr.out⟩
            case round =>
              rename World => wi
              obtain ⟨j, vo, vu, hj, rfl, rfl, hlk, hQi⟩ := hrel
              have hmid := Hmid.out j
              have Hlki := Lib.hid hlk
              have HQi := Lib.hid hQi
              have Hbi := Lib.hid hlk.bel
              have j3 : (0 : Int) ≤ (j : Int) := Int.natCast_nonneg _
              by_cases hjl : j < s.mends.length
              · obtain ⟨b7, o7, m, hA7, hb7, e7, p7, p8⟩ := Hm4.out.mend_at hjl
                cases hA7
                have r7 := (Hbi.out.cell (p := ⟨b7, o7 + j * 2, none⟩) hb7).trans p7
                have r8 := (Hbi.out.cell (p := ⟨b7, o7 + j * 2 + 1, none⟩) hb7).trans p8
                have hmem := (Hfine.out.mends s hsm).2.2 m (List.mem_of_getElem? e7)
                have hst := meetsL_step (S := S) (st := (xo, xu)) e7
                have Hst := Lib.hid hst
                have j4 : (j : Int) < (s.mends.length : Int) := by omega
                obtain ⟨W6, hW6⟩ : ∃ W6, W6 = wi.alloc (Obj.cells #[.int .i64 m.at_, .string m.name] 69) := ⟨_, rfl⟩
                have hb6' : Below wi.heap.size wi W6 := by subst hW6; exact (by repeat (first | exact Below.refl _ _ | assumption | refine below_drewN ?_ _ | refine Below.drew ?_ | refine Below.setCell ?_ (by first | omega | (simp; done) | (simp; omega)) _ | refine Below.alloc ?_ (by first | omega | (simp; done) | (simp; omega)) _ | refine below_step (by assumption) ?_ (by first | omega | (simp; done) | (simp; omega))))
                have hV6 : W6.heap[wi.heap.size]? = some (.cells #[.int .i64 m.at_, .string m.name] 69 (0, 0)) := by subst hW6; exact heap_alloc_new _ _
                have Hlk6 := Lib.hid (hlk.below hb6')
                have HQ6 := Lib.hid ((hb6'.block _ (blk_lt hQi)).trans hQi)
                have HW6 := Lib.hid hW6.symm
                obtain ⟨v0, v1, _, _⟩ := cells_of_block hV6
                have hlV6 := blk_lt hV6
                have hX1 : w.heap.size < X + 1 := by have := hlk.low.1; omega
                have hX2 : w.heap.size < W2.heap.size := by have := hlk.low.2.1; omega
                clear hlk hQi p7 p8 e7 hst hW6 hb6' hV6
                go_upto_region 14 with fail
                rw [HW6.out]
                clear r7 r8
                go_wp2_with fail
                refine meet_calls w _ X gs G gc S W2.heap.size vo vu _ Hlk6.out m.name (by unfold maxLen; omega) hmid.1 hmid.2 _ (fun w7 vo' vu' hlk7 hgr7 => ?_)
                have hQ7 := (hgr7.block _ (blk_lt HQ6.out) (by omega)).trans HQ6.out
                have Hlk7 := Lib.hid hlk7
                have HQ7 := Lib.hid hQ7
                clear hlk7 hgr7 hQ7 v0 v1
                go_wp2
                go_roundg (s.mends.length - (j + 1))
                case measure => omega
                case rel => exact ⟨j + 1, vo', vu', hjl, rfl, by go_num, by rw [Hst.out]; exact Hlk7.out, HQ7.out⟩
              · obtain rfl : j = s.mends.length := by omega
                rw [List.take_length] at Hlki
                have hnext := Hrnd.out.next Hfine.out E6.out Hsec.out
                have Hnext := Lib.hid hnext
                have j4 : ¬ (s.mends.length : Int) < (s.mends.length : Int) := by omega
                clear hlk hnext hQi
                go_wp2
                go_roundg (S.length - (i + 1))
                case measure => omega
                case rel => exact ⟨i + 1, vo, vu, _, rfl, by go_num, Hnext.out, Hlki.out, HQi.out⟩
        · have hst := hrnd.stop hlt
          have j2 : ¬ (i : Int) < (xo.length : Int) := by omega
          have hX1 : w.heap.size < X + 1 := by have := hlk.low.1; omega
          have hX2 : w.heap.size < W2.heap.size := by have := hlk.low.2.1; omega
          have hend := Hgood.out (by rw [HmF.out]) ((wr.setCell ⟨w.heap.size, 0, none⟩ (.int .i64 0)).setCell ⟨w.heap.size, 1, none⟩ (.int .i64 0)) X G gc W2.heap.size (.slice A6 xo.length c6) (.slice A7 xu.length c7) (by
            rw [← HSl.out, ← hst]
            refine ⟨blk_other (blk_other hlk.blk (by omega) _) (by omega) _, (hlk.mp.kept (grown_setCell _ _ _) (fun e => ?_)).kept (grown_setCell _ _ _) (fun e => ?_), (hlk.two.set ⟨w.heap.size, 0, none⟩ hX2 _).set ⟨w.heap.size, 1, none⟩ hX2 _, (hlk.bel.setCell (p := ⟨w.heap.size, 0, none⟩) (Nat.le_refl _) _).setCell (p := ⟨w.heap.size, 1, none⟩) (Nat.le_refl _) _, hlk.low.1, hlk.low.2.1, by simp [World.setCell]; exact hlk.low.2.2⟩
            · have := Option.some.inj e
              simp at this
              omega
            · have := Option.some.inj e
              simp at this
              omega) Hg.out
          have Hend := Lib.hid hend
          obtain ⟨q0, q1, z0, z1⟩ := cells_of_block hQr
          have hlr := blk_lt hQr
          clear hend hst hrnd hlk hQr
          go_wp2
          exact bodyPost_ret (v := .tuple #[.pointer (some ⟨X + 1, 0, none⟩), .agg #[.int .i64 0, .int .i64 0]]) (res_slice_Fault (by rfl) (by rfl) (by rfl) (cells_blk (by repeat (first | with_reducible exact HQr.out | with_reducible refine blk_drew ?_ | with_reducible refine blk_drewN ?_ _ | with_reducible refine blk_alloc ?_ _ | with_reducible apply blk_set1 | with_reducible apply blk_set0 | with_reducible refine blk_other ?_ (by first | (simp; done) | omega | (simp; omega)) _)))) rfl Hend.out
end Go.Proofs.YtfhnmbnniklmiaaDoor
