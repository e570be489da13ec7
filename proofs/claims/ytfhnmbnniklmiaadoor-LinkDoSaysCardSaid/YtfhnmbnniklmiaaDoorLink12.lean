/- The reference's LinkDo: the objects linked, by the document's words. -/
import Derived.Test.YtfhnmbnniklmiaaDoorBase
import Derived.Test.YtfhnmbnniklmiaaDoorRows
import Derived.IntWalk
import Derived.Deep.LoopGhost
import Derived.Deep.CutBlock
import Derived.Deep.DeepCutAuto
import Derived.Deep.RegionHeld3
import Derived.Deep.RegionLaw
import Derived.Outline
import Derived.Test.YtfhnmbnniklmiaaDoorLink10
import Derived.Test.YtfhnmbnniklmiaaDoorKit5
namespace Go.Proofs.YtfhnmbnniklmiaaDoor
open Go.RowKit
set_option linter.unusedSimpArgs false
set_option linter.unusedVariables false

set_option maxRecDepth 100000 in
set_option maxHeartbeats 4000000 in
theorem LinkDo_calls (l : List Object) (v : Value) (w : World) (h : rpObject.SL w w.heap.size l v) (R : Ending → World → Prop)
    (hR : ∀ w' v1 v2, Below w.heap.size w w' → rpGlobal.SL w' w'.heap.size (linkDo l).1.globals v1 → rpRoutine.SL w' w'.heap.size (linkDo l).1.routines v2 → R (.returned (.tuple #[.agg #[v1, v2], (.agg #[.int .i64 ((linkDo l).2).1, .int .i64 ((linkDo l).2).2])])) w') :
    Calls Tryd.prog 18 #[v] w R := by
  obtain ⟨A, c, rfl, hm, hcap, h⟩ := h.cases_
  have HR := Lib.hid hR
  have H := Lib.hid h
  obtain ⟨W0, hW0⟩ : ∃ W0, W0 = (w.alloc (Obj.cells #[.slice none 0 0, .slice none 0 0] 35)).alloc (Obj.cells #[.int .i64 0, .int .i64 0] 25) := ⟨_, rfl⟩
  have hb0 : Below w.heap.size w W0 := by subst hW0; exact (by repeat (first | exact Below.refl _ _ | assumption | refine below_drewN ?_ _ | refine Below.drew ?_ | refine Below.setCell ?_ (by first | omega | (simp; done) | (simp; omega)) _ | refine Below.alloc ?_ (by first | omega | (simp; done) | (simp; omega)) _ | refine below_step (by assumption) ?_ (by first | omega | (simp; done) | (simp; omega))))
  have hz0 : W0.heap.size = w.heap.size + 2 := by subst hW0; simp
  have hQ : W0.heap[w.heap.size]? = some (.cells #[.slice none 0 0, .slice none 0 0] 35 (0, 0)) := by
    subst hW0
    exact (Below.heap_alloc _ _ _ (by simp)).trans (heap_alloc_new _ _)
  have hQ' : W0.heap[w.heap.size + 1]? = some (.cells #[.int .i64 0, .int .i64 0] 25 (0, 0)) := by
    subst hW0
    have := heap_alloc_new (w.alloc (Obj.cells #[.slice none 0 0, .slice none 0 0] 35)) (Obj.cells #[.int .i64 0, .int .i64 0] 25)
    simpa using this
  have HW := Lib.hid hW0.symm
  have HQ := Lib.hid hQ
  have HQ' := Lib.hid hQ'
  have Hb0 := Lib.hid hb0
  have hl0 : w.heap.size < W0.heap.size := by omega
  have hl1 : w.heap.size + 1 < W0.heap.size := by omega
  have HB : Hid (∀ (W : World) (u1 u2 : Value) (gs : List Global) (rs : List Routine) (c a : Int), linkDo l = (⟨gs, rs⟩, (c, a)) → Below w.heap.size w W → w.heap.size + 1 < W.heap.size → rpGlobal.SL W W.heap.size gs u1 → rpRoutine.SL W W.heap.size rs u2 → R (.returned (.tuple #[.agg #[u1, u2], .agg #[.int .i64 c, .int .i64 a]])) W) := Lib.hid fun W u1 u2 gs rs c a e hb _ h1 h2 => by
    have := HR.out W u1 u2 hb (by rw [e]; exact h1) (by rw [e]; exact h2)
    rw [e] at this
    exact this
  clear hR h hW0 hb0 hQ hQ' hz0
  go_enter Tryd.func18, Tryd.ntmps18
  go_upto_region 1 with fail
  rw [HW.out]
  go_wp2_with fail
  refine LinkMet_calls l _ _ (H.out.up Hb0.out Hb0.out.size) _ (fun w1 v1 v2 hb1 hv1 hv2 => ?_)
  by_cases hc : (metF l).1 ≠ 0
  · obtain ⟨F, hF⟩ : ∃ F, F = metF l := ⟨_, rfl⟩
    have hld : linkDo l = (⟨[], []⟩, F) := by unfold linkDo; rw [if_pos hc, hF]
    rw [← hF] at hc ⊢
    obtain ⟨fc, fa⟩ := F
    simp only [] at hc ⊢
    have hcb : ((fc : Int) != 0) = true := by simpa using hc
    have hfin : Hid (∀ W, Below w.heap.size w W → w.heap.size + 1 < W.heap.size → R (.returned (.tuple #[.agg #[.slice none 0 0, .slice none 0 0], .agg #[.int .i64 fc, .int .i64 fa]])) W) := Lib.hid fun W hb hz => HB.out W _ _ [] [] fc fa hld hb hz (Rp.SL.nil _ _ _) (Rp.SL.nil _ _ _)
    have hQ1 := (hb1.block _ hl0).trans HQ.out
    have hQ1' := (hb1.block _ hl1).trans HQ'.out
    have HQ1 := Lib.hid hQ1
    have HQ1' := Lib.hid hQ1'
    have Hb1 := Lib.hid (Hb0.out.trans (hb1.mono Hb0.out.size))
    obtain ⟨q0, q1, z0, z1⟩ := cells_of_block hQ1
    obtain ⟨q0', q1', z0', z1'⟩ := cells_of_block hQ1'
    have hlq := blk_lt hQ1
    have hlq' := blk_lt hQ1'
    obtain ⟨A2, c2, rfl, _, _, _⟩ := hv1.cases_
    obtain ⟨A3, c3, rfl, _, _, _⟩ := hv2.cases_
    clear hF hb1 hQ1 hQ1' hld hv1 hv2
    go_wp2
    go_region
    all_goals
      go_wp2
      refine bodyPost_ret (v := .tuple #[.agg #[.slice none 0 0, .slice none 0 0], .agg #[.int .i64 fc, .int .i64 fa]]) (res_ImgF (by rfl) (by rfl) (by rfl) (by repeat (first | with_reducible exact HQ1.out | with_reducible refine blk_drew ?_ | with_reducible refine blk_drewN ?_ _ | with_reducible refine blk_alloc ?_ _ | with_reducible apply blk_set1 | with_reducible apply blk_set0 | with_reducible refine blk_other ?_ (by first | (simp; done) | omega | (simp; omega)) _)) (by repeat (first | with_reducible exact HQ1'.out | with_reducible refine blk_drew ?_ | with_reducible refine blk_drewN ?_ _ | with_reducible refine blk_alloc ?_ _ | with_reducible apply blk_set1 | with_reducible apply blk_set0 | with_reducible refine blk_other ?_ (by first | (simp; done) | omega | (simp; omega)) _))) rfl (hfin.out _ (by
        have hb := Hb1.out
        exact (by repeat (first | exact Below.refl _ _ | assumption | refine below_drewN ?_ _ | refine Below.drew ?_ | refine Below.setCell ?_ (by first | omega | (simp; done) | (simp; omega)) _ | refine Below.alloc ?_ (by first | omega | (simp; done) | (simp; omega)) _ | refine below_step (by assumption) ?_ (by first | omega | (simp; done) | (simp; omega))))) (by simp [World.setCell, World.alloc, World.drew] <;> omega))
  · have hc : (metF l).1 = 0 := by omega
    obtain ⟨hlf, hmain, hmF, hmO⟩ := metF_cases l hc
    have hinv := reached_inv hmain
    have hld : linkDo l = routsTo (allS l) (metO l).1 (metO l).1.length 0 [] ⟨(l.getD 0 ⟨[], []⟩).globals, []⟩ := by
      unfold linkDo
      rw [if_neg (fun e => e hc)]
    have hl : 0 < l.length := (linkF_ok hlf).2.1
    have hfine := Lib.hid (fine_of hlf)
    have hsf := Lib.hid (fine_secs hlf)
    rw [hmF]
    rw [← hmO] at hinv
    obtain ⟨order, hor⟩ : ∃ order, order = (metO l).1 := ⟨_, rfl⟩
    have hin : order.length ≤ 480 := by rw [hor]; exact Nat.le_trans hinv.len hfine.out.few
    have hth : ∀ x ∈ order, hasS (allS l) x = true := by rw [hor]; exact hinv.there
    rw [← hor] at hv1 hld
    obtain ⟨A6, c6, rfl, _, _, hv1⟩ := hv1.cases_
    obtain ⟨A7, c7, rfl, _, _, _⟩ := hv2.cases_
    obtain ⟨S, hSS⟩ : ∃ S, S = allS l := ⟨_, rfl⟩
    obtain ⟨b0, o0, ob, u1, u2, hA0, hbb0, e0, hg1, _, g1, _⟩ := H.out.object_at hl
    obtain ⟨G, gc, rfl, _, _, hg1⟩ := hg1.cases_
    have hob : l.getD 0 ⟨[], []⟩ = ob := by rw [List.getD_eq_getElem?_getD, e0]; rfl
    rw [hob, ← hSS] at hld
    have hgl : ob.globals.length ≤ 10 := by
      obtain ⟨_, _, _, h3⟩ := linkF_ok hlf
      exact (globFault_ok (h3 0 ob e0).ok.glob).1
    subst hA0
    have hwz := Hb0.out.size
    have hw1 := hb1.size
    obtain ⟨W1, hW1⟩ : ∃ W1, W1 = w1.alloc (Obj.cells #[.int .i64 0, .int .i64 0] 25) := ⟨_, rfl⟩
    have hbW1 : Below w1.heap.size w1 W1 := by subst hW1; exact (by repeat (first | exact Below.refl _ _ | assumption | refine below_drewN ?_ _ | refine Below.drew ?_ | refine Below.setCell ?_ (by first | omega | (simp; done) | (simp; omega)) _ | refine Below.alloc ?_ (by first | omega | (simp; done) | (simp; omega)) _ | refine below_step (by assumption) ?_ (by first | omega | (simp; done) | (simp; omega))))
    have hV1 : W1.heap[w1.heap.size]? = some (.cells #[.int .i64 0, .int .i64 0] 25 (0, 0)) := by subst hW1; exact heap_alloc_new _ _
    have HB01 := Lib.hid (hb1.trans (hbW1.mono hb1.size))
    have hbw1 := Hb0.out.trans ((hb1.trans (hbW1.mono hb1.size)).mono hwz)
    have g3 := (hbw1.cell (p := ⟨b0, o0 + 0 * 2, none⟩) hbb0).trans g1
    have g4 : W1.cell? ⟨b0, o0, none⟩ = some (.slice G ob.globals.length gc) := by simpa using g3
    have HW1 := Lib.hid hW1.symm
    have Hv1 := Lib.hid (hv1.up hbW1 hbW1.size)
    have Hld := Lib.hid hld
    have Hth := Lib.hid hth
    have Hg1 := Lib.hid hg1
    have Hbw1 := Lib.hid hbw1
    have HSl := Lib.hid hSS
    obtain ⟨v0, v1, _, _⟩ := cells_of_block hV1
    have hlV := blk_lt hV1
    have il : (0 : Int) < (l.length : Int) := by omega
    clear hld hth hg1 g1 g3 hv1 hv2 hb1 hbW1 hV1 hbw1 hW1 e0 hob hor hSS hinv hlf hmain hmF hmO hc
    go_upto_region 2 with fail
    rw [HW1.out]
    obtain ⟨iR, hiR, zR0, zR1, zR2⟩ := info_parts info_Routine
    obtain ⟨WP, hWP⟩ : ∃ WP, WP = W1.alloc (Obj.cells #[.slice G ob.globals.length gc, .slice none 0 0] 35) := ⟨_, rfl⟩
    have hbP : Below W1.heap.size W1 WP := by subst hWP; exact (by repeat (first | exact Below.refl _ _ | assumption | refine below_drewN ?_ _ | refine Below.drew ?_ | refine Below.setCell ?_ (by first | omega | (simp; done) | (simp; omega)) _ | refine Below.alloc ?_ (by first | omega | (simp; done) | (simp; omega)) _ | refine below_step (by assumption) ?_ (by first | omega | (simp; done) | (simp; omega))))
    have hVP : WP.heap[W1.heap.size]? = some (.cells #[.slice G ob.globals.length gc, .slice none 0 0] 35 (0, 0)) := by subst hWP; exact heap_alloc_new _ _
    have HWP := Lib.hid hWP.symm
    have HVP := Lib.hid hVP
    have HbP := Lib.hid hbP
    have o0' : (0 : Int) ≤ (order.length : Int) := Int.natCast_nonneg _
    clear hWP hbP hVP
    go_upto_region 5 with fail
    rw [HWP.out]
    clear v0 v1 g4
    go_wp2_with fail
    go_loopg [8, 9, 10, 11, 12, 13] order.length (fun gi s8 s9 s10 s11 s12 s13 wr => ∃ (i : Nat) (vr : Value) (rs : List Routine) (css : List (List Value)), i ≤ order.length ∧ gi = order.length - i ∧ s8 = .int .i64 (i : Int) ∧ wr.heap[W1.heap.size]? = some (.cells #[.slice G ob.globals.length gc, vr] 35 (0, 0)) ∧
      Built rpRoutine (W1.heap.size + 1) 85 (fun b => b < W1.heap.size + 1) wr vr rs css ∧ rs.length = i ∧ linkDo l = routsTo S order (order.length - i) i rs ⟨ob.globals, []⟩ ∧ Below W1.heap.size W1 wr)
    case atStart => exact ⟨0, _, [], [], Nat.zero_le _, rfl, rfl, HVP.out, Built.nil _ _ _ _ _ (fun k hk => by omega), rfl, Hld.out, HbP.out⟩
    case round =>
      obtain ⟨i, vr, rs, css, hi, rfl, rfl, hP, hB, hrl, hrt, hbel⟩ := hrel
      have HP := Lib.hid hP
      have HBt := Lib.hid hB
      have Hrl := Lib.hid hrl
      have Hrt := Lib.hid hrt
      have Hbel := Lib.hid hbel
      have hz := hbel.size
      have hzP := blk_lt hP
      have i1 : (0 : Int) ≤ (i : Int) := Int.natCast_nonneg _
      have Hbw := Lib.hid (Hbw1.out.trans (hbel.mono Hbw1.out.size))
      by_cases hlt : i < order.length
      · obtain ⟨b6, o6, nm, hA6, hb6, e6, p6⟩ := Hv1.out.str_at hlt
        have r6 := (hbel.cell (p := ⟨b6, o6 + i, none⟩) hb6).trans p6
        have hthn := Hth.out nm (List.mem_of_getElem? e6)
        have i2 : (i : Int) < (order.length : Int) := by omega
        have E6 := Lib.hid e6
        have Hp6 := Lib.hid p6
        subst hA6
        clear hP hB hrl hrt hbel e6 p6
        go_wp2_with fail
        refine SectionOf_calls l _ nm w wr H.out Hbw.out hthn _ (fun w8 s B3 m3 B4 m4 hb8 hsec hm3 hm4 => ?_)
        have hb8w := Hbw.out.trans (hb8.mono Hbw.out.size)
        obtain ⟨W9, hW9⟩ : ∃ W9, W9 = w8.alloc (Obj.cells #[.string s.name, .slice B3 s.code.length m3, .slice B4 s.mends.length m4] 64) := ⟨_, rfl⟩
        have hb9 : Below w8.heap.size w8 W9 := by subst hW9; exact (by repeat (first | exact Below.refl _ _ | assumption | refine below_drewN ?_ _ | refine Below.drew ?_ | refine Below.setCell ?_ (by first | omega | (simp; done) | (simp; omega)) _ | refine Below.alloc ?_ (by first | omega | (simp; done) | (simp; omega)) _ | refine below_step (by assumption) ?_ (by first | omega | (simp; done) | (simp; omega))))
        have hV9 : W9.heap[w8.heap.size]? = some (.cells #[.string s.name, .slice B3 s.code.length m3, .slice B4 s.mends.length m4] 64 (0, 0)) := by subst hW9; exact heap_alloc_new _ _
        have HW9 := Lib.hid hW9.symm
        have HV9 := Lib.hid hV9
        have hb9w := hb8w.trans (hb9.mono hb8w.size)
        have Hcode := Lib.hid (hm3.up hb9w hb9w.size)
        have Hb9w := Lib.hid hb9w
        have Hb9r := Lib.hid (hb8.trans (hb9.mono hb8.size))
        have Hm4 := Lib.hid hm4
        have Hsec := Lib.hid hsec
        obtain ⟨y0, y1, y2, _, _, _⟩ := three_cellsL hV9
        have hlV9 := blk_lt hV9
        have hz8 := hb8.size
        clear hb8 hsec hm3 hm4 hb8w hW9 hb9 hV9 hb9w r6
        go_upto_region 9 with fail
        rw [HW9.out]
        go_wp2_with fail
        have hsm : s ∈ allS l := by
          have h := Hsec.out
          unfold secFind at h
          exact List.mem_of_find?_eq_some h
        have hsz := hsf.out s hsm
        have hsecS : secFind S nm = some s := by rw [HSl.out]; exact Hsec.out
        have HsecS := Lib.hid hsecS
        have Hsz := Lib.hid hsz
        have hml := (secF_ok hsz).2.1
        clear hsm hsz hsecS
        refine BytesRead_own _ s.code _ Hcode.out _ (fun l0 hrd w10 u10 hb10 hown10 => ?_) (fun hno => ?_)
        rotate_left
        · exfalso
          have h := Hsz.out
          unfold secF at h
          rw [hno] at h
          simp at h
        obtain ⟨hgood, hl5⟩ := readL_good hrd
        have hat : ∀ m ∈ s.mends, 0 ≤ m.at_ ∧ m.at_ < (l0.length : Int) := fun m hm => by
          have h := Hsz.out
          unfold secF at h
          rw [hrd] at h
          obtain ⟨k, hk, e⟩ := List.mem_iff_getElem.1 hm
          obtain ⟨a, b, _⟩ := mendsFrom_ok l0 s.mends _ 0 (by omega) h k m (Nat.zero_le _) (by rw [List.getElem?_eq_getElem hk, e])
          exact ⟨a, b⟩
        have hrout : routB order s = (mendTo order s.mends l0).map codeB := by unfold routB; rw [hrd]; rfl
        obtain ⟨E3, e3, rfl⟩ := own_slice hown10
        obtain ⟨N, hN⟩ : ∃ N, N = l0.length := ⟨_, rfl⟩
        have HN := Lib.hid hN
        have hz9 := hb10.size
        obtain ⟨B1, hBB⟩ : ∃ B1, B1 = W9.heap.size := ⟨_, rfl⟩
        have Hown2 : Hid (w10.ownsRow B1 90 5 (.slice E3 N e3) N (l0.flatMap Mac.cells)) := Lib.hid (by rw [hN, hBB]; exact hown10)
        have HBB := Lib.hid hBB
        have Hb10 := Lib.hid hb10
        have Hgood := Lib.hid hgood
        have Hat := Lib.hid hat
        have Hrout := Lib.hid hrout
        rw [← hN] at hl5
        rw [← hN]
        have Hmat : Hid (∀ j, j < s.mends.length → ∃ b off m, B4 = some ⟨b, off, none⟩ ∧ b < w.heap.size ∧ s.mends[j]? = some m ∧ w.cell? ⟨b, off + j * 2, none⟩ = some (.int .i64 m.at_) ∧ w.cell? ⟨b, off + j * 2 + 1, none⟩ = some (.string m.name)) := Lib.hid (fun j hj => Hm4.out.mend_at hj)
        obtain ⟨ml, hmlen⟩ : ∃ ml, ml = s.mends.length := ⟨_, rfl⟩
        have Hmlen := Lib.hid hmlen
        have d2 := (hb10.cell (p := ⟨w8.heap.size, 2, none⟩) hlV9).trans y2
        have Y2 := Lib.hid y2
        rw [← hmlen] at hml Hmat d2 Y2
        have i8 : (0 : Int) ≤ (N : Int) := Int.natCast_nonneg _
        have hlV10 : w8.heap.size < w10.heap.size := Nat.lt_of_lt_of_le hlV9 hz9
        clear hgood hat hrout hown10 hb10 hrd hN hBB hmlen y0 y1 y2
        go_wp2_with fail
        go_loopg [12, 13] ml (fun gh s12 s13 wi => ∃ (j : Nat) (l' : List Mac), j ≤ ml ∧ gh = ml - j ∧ s12 = .int .i64 (j : Int) ∧ wi.ownsRow B1 90 5 (.slice E3 N e3) N (l'.flatMap Mac.cells) ∧ l'.length = N ∧ (∀ m ∈ l', GoodMac m) ∧ mendTo order s.mends l0 = mendTo order (s.mends.drop j) l' ∧ Below W9.heap.size W9 wi)
        case atStart =>
          refine ⟨0, l0, Nat.zero_le _, rfl, rfl, ?_, HN.out.symm, Hgood.out, rfl, ?_⟩
          · first | exact Hown2.out.alloc _ | exact Hown2.out
          · have hb := Hb10.out
            exact (by repeat (first | exact Below.refl _ _ | assumption | refine below_drewN ?_ _ | refine Below.drew ?_ | refine Below.setCell ?_ (by first | omega | (simp; done) | (simp; omega)) _ | refine Below.alloc ?_ (by first | omega | (simp; done) | (simp; omega)) _ | refine below_step (by assumption) ?_ (by first | omega | (simp; done) | (simp; omega))))
        case round =>
          rename World => wi
          obtain ⟨j, l', hj, rfl, rfl, hown, hlen, hgl, hmt, hbel⟩ := hrel
          have Hown := Lib.hid hown
          have Hlen := Lib.hid hlen
          have Hgl := Lib.hid hgl
          have Hmt := Lib.hid hmt
          have Hbei := Lib.hid hbel
          have hzi := hbel.size
          have j3 : (0 : Int) ≤ (j : Int) := Int.natCast_nonneg _
          have d9 := (hbel.cell (p := ⟨w8.heap.size, 2, none⟩) hlV9).trans Y2.out
          have hlVi : w8.heap.size < wi.heap.size := Nat.lt_of_lt_of_le hlV9 hzi
          have hbir := Hb9r.out.trans (hbel.mono Hb9r.out.size)
          have hbi1 := Hbel.out.trans (hbir.mono Hbel.out.size)
          have Hbir := Lib.hid hbir
          have Hbi1 := Lib.hid hbi1
          clear d2
          by_cases hjl : j < ml
          · obtain ⟨b7, o7, m, hA7, hb7, e7, p7, p8⟩ := Hmat.out j hjl
            subst hA7
            have hmem := Hat.out m (List.mem_of_getElem? e7)
            obtain ⟨k, hk⟩ : ∃ k : Nat, m.at_ = (k : Int) := ⟨m.at_.toNat, by have := hmem.1; omega⟩
            have hkN : k < N := by have := hmem.2; have := HN.out; omega
            have hkN' : (k : Int) < (N : Int) := by omega
            have k0 : (0 : Int) ≤ (k : Int) := Int.natCast_nonneg _
            rw [hk] at p7
            have Hk := Lib.hid hk
            have h0r := Hb9w.out.trans (hbel.mono Hb9w.out.size)
            have r7 := (h0r.cell (p := ⟨b7, o7 + j * 2, none⟩) hb7).trans p7
            have r8 := (h0r.cell (p := ⟨b7, o7 + j * 2 + 1, none⟩) hb7).trans p8
            have hst : s.mends.drop j = m :: s.mends.drop (j + 1) := by
              obtain ⟨h1, h2⟩ := List.getElem?_eq_some_iff.1 e7
              rw [List.drop_eq_getElem_cons h1, h2]
            have Hst := Lib.hid hst
            have j4 : (j : Int) < (ml : Int) := by omega
            obtain ⟨g, cap, hA3, hg1, hg2, hg3, hg4⟩ := own_some hown (by omega)
            cases hA3
            obtain ⟨q1, q2⟩ := own_there hown (k * 5 + 4) (by omega)
            obtain ⟨u1, d1⟩ := Option.isSome_iff_exists.1 q1
            clear q1
            have Hord := Lib.hid (Hv1.out.up hbi1 hbi1.size)
            clear hown hlen hgl hmt hbel hk h0r hst p7 p8 e7 hmem hbir hbi1
            rcases idx_cases order m.name with ⟨hx, _⟩ | ⟨n, hx, hn, _⟩
            · have Hx := Lib.hid hx
              have hro : routB order s = none := by
                rw [Hrout.out, Hmt.out, Hst.out, mendTo, if_pos (show placeB order m.name < 0 from by show idxB order m.name < 0; rw [hx]; decide)]
                rfl
              have he := Hrt.out.trans (routsTo_none (rs := rs) (g := ⟨ob.globals, []⟩) E6.out HsecS.out hro)
              have hfin : Hid (∀ W, Below w.heap.size w W → w.heap.size + 1 < W.heap.size → R (.returned (.tuple #[.agg #[.slice none 0 0, .slice none 0 0], .agg #[.int .i64 6, .int .i64 (i : Int)]])) W) := Lib.hid fun W hb hz => HB.out W _ _ [] [] 6 (i : Int) he hb hz (Rp.SL.nil _ _ _) (Rp.SL.nil _ _ _)
              have hbr : Below W0.heap.size W0 wi := HB01.out.trans (Hbi1.out.mono HB01.out.size)
              have hQ9 := (hbr.block _ hl0).trans HQ.out
              have hQ9' := (hbr.block _ hl1).trans HQ'.out
              have HQ9 := Lib.hid hQ9
              have HQ9' := Lib.hid hQ9'
              obtain ⟨q0, q1, z0, z1⟩ := cells_of_block hQ9
              obtain ⟨q0', q1', z0', z1'⟩ := cells_of_block hQ9'
              have hlq := blk_lt hQ9
              have hlq' := blk_lt hQ9'
              have Hbfin := Lib.hid (Hb0.out.trans (hbr.mono Hb0.out.size))
              clear hx hro he hQ9 hQ9' hbr
              go_wp2_with fail
              refine PlaceOf_calls order _ m.name _ Hord.out _ ?_
              rw [Hx.out]
              go_wp2
              exact bodyPost_ret (v := .tuple #[.agg #[.slice none 0 0, .slice none 0 0], .agg #[.int .i64 6, .int .i64 (i : Int)]]) (res_ImgF (by rfl) (by rfl) (by rfl) (by repeat (first | with_reducible exact HQ9.out | with_reducible refine blk_drew ?_ | with_reducible refine blk_drewN ?_ _ | with_reducible refine blk_alloc ?_ _ | with_reducible apply blk_set1 | with_reducible apply blk_set0 | with_reducible refine blk_other ?_ (by first | (simp; done) | omega | (simp; omega)) _)) (by repeat (first | with_reducible exact HQ9'.out | with_reducible refine blk_drew ?_ | with_reducible refine blk_drewN ?_ _ | with_reducible refine blk_alloc ?_ _ | with_reducible apply blk_set1 | with_reducible apply blk_set0 | with_reducible refine blk_other ?_ (by first | (simp; done) | omega | (simp; omega)) _))) rfl (hfin.out _ (by
                have hb := Hbfin.out
                exact (by repeat (first | exact Below.refl _ _ | assumption | refine below_drewN ?_ _ | refine Below.drew ?_ | refine Below.setCell ?_ (by first | omega | (simp; done) | (simp; omega)) _ | refine Below.alloc ?_ (by first | omega | (simp; done) | (simp; omega)) _ | refine below_step (by assumption) ?_ (by first | omega | (simp; done) | (simp; omega))))) (by simp [World.setCell, World.alloc, World.drew] <;> omega))
            · have Hx := Lib.hid hx
              have Hn := Lib.hid hn
              have n0 : (0 : Int) ≤ (n : Int) := Int.natCast_nonneg _
              have n1 : ¬ (n : Int) < 0 := by omega
              have hnx : Hid (mendTo order s.mends l0 = mendTo order (s.mends.drop (j + 1)) (toCall l' k (n : Int))) := Lib.hid (by
                have e : placeB order m.name = (n : Int) := hx
                rw [Hmt.out, Hst.out, mendTo, if_neg (by rw [e]; omega), e, Hk.out]
                rfl)
              clear hx hn
              go_wp2_with fail
              refine PlaceOf_calls order _ m.name _ Hord.out _ ?_
              rw [Hx.out]
              go_wp2
              go_roundg (ml - (j + 1))
              case measure => omega
              case rel =>
                have hlt : n < order.length := Hn.out
                have hBg := HBB.out
                exact ⟨j + 1, toCall l' k (n : Int), hjl, rfl, by go_num, own_mac_put Hown.out Hlen.out hkN _, by rw [toCall_len]; exact Hlen.out, toCall_good Hgl.out (by rw [Hlen.out]; exact hkN) (by unfold I64; omega), hnx.out, Hbei.out.setCell (p := ⟨g, k * 5 + 4, none⟩) (show W9.heap.size ≤ g by omega) _⟩
          · obtain rfl : j = ml := by omega
            have hro : routB order s = some (codeB l') := by
              rw [Hrout.out, hmt, Hmlen.out, List.drop_length]
              rfl
            obtain ⟨cc, hcc⟩ : ∃ cc, cc = codeB l' := ⟨_, rfl⟩
            have Hcc := Lib.hid hcc
            rw [← hcc] at hro
            have Hstep := Lib.hid (Hrt.out.trans (routsTo_step (rs := rs) (g := ⟨ob.globals, []⟩) E6.out HsecS.out hro))
            have hPi := (hbir.block _ hzP).trans HP.out
            obtain ⟨k0, k1, kz0, kz1⟩ := cells_of_block hPi
            have hzPi := blk_lt hPi
            have HBi := Lib.hid (HBt.out.below hbir (Nat.le_refl _))
            have HPi := Lib.hid hPi
            have Hsl := Lib.hid (SLMac_own (B := wi.heap.size) (by rw [hlen]; exact hown) (Nat.le_refl _))
            have Hsld : Hid (rpMac.SL wi.drew wi.drew.heap.size l' (.slice E3 N e3)) := Lib.hid (SLMac_own (by rw [hlen]; exact hown.drew) (Nat.le_refl _))
            have j4 : ¬ (j : Int) < (j : Int) := by omega
            have HSo : Hid (∀ W, Below W1.heap.size W1 W → W.cell? ⟨b6, o6 + i, none⟩ = some (.string nm)) := Lib.hid fun W h => (h.cell (p := ⟨b6, o6 + i, none⟩) hb6).trans Hp6.out
            have hS0 := HSo.out wi Hbi1.out
            have hb6i : b6 < wi.heap.size := Nat.lt_of_lt_of_le hb6 Hbi1.out.size
            have hr480 : rs.length ≤ 480 := by have := Hrl.out; omega
            have hnO : Hid (vr.ownBlock ≠ some W1.heap.size ∧ ∀ j, vr.ownBlock = some j → W1.heap.size ≤ j) := Lib.hid ⟨fun e => by have := (HBt.out.own.lt _ e).1; omega, fun j e => by have := (HBt.out.own.lt _ e).1; omega⟩
            clear hown hlen hgl hmt hbel hro hcc hPi hbir hbi1
            go_upto_region 17 with fail
            go_region_law (first
              | (go_simp; go_at_call 43; refine CodeBytes_calls l' _ _ (by first | exact Hsl.out | exact Hsld.out) Hgl.out (by have := Hlen.out; omega) _ ?_; intro w12 v12 hb12 hbuf12; rw [← Hcc.out] at hbuf12; obtain ⟨A12, c12, rfl⟩ := hbuf12.slice; have hbi12 : Below wi.heap.size wi w12 := (by first | exact hb12 | exact below_of_drew hb12); have hP12 := (hbi12.block _ hzPi).trans HPi.out; obtain ⟨_, x12, _, xz12⟩ := cells_of_block hP12; have hz12 := hbi12.size; have hlP12 := blk_lt hP12; have HB12 := Lib.hid (HBi.out.below hbi12 (Nat.le_refl _)); obtain ⟨cl, hcl⟩ : ∃ cl, cl = cc.length := ⟨_, rfl⟩; have Hcl := Lib.hid hcl; have Hbuf := Lib.hid hbuf12; have Hbi12 := Lib.hid (Hbi1.out.trans (hbi12.mono Hbi1.out.size)); have hS2 := HSo.out w12 Hbi12.out; have hb612 : b6 < w12.heap.size := (by omega); have HP12 := Lib.hid hP12; rw [← hcl]; clear hcl hbuf12 hb12 hbi12 hP12; go_wp2_with fail)
              | (refine step_append_lies _ (by rfl) _ _ _ (by rfl) (W1.heap.size + 1) 85 iR _ 2 40 Tryd.underlying33 hiR zR0 zR1 zR2 rfl (by decide) vr rs.length css.flatten (by rfl) (HB12.out.alloc (Obj.cells #[.string nm, .slice A12 cl c12] 85)).own ⟨w12.heap.size, 0, none⟩ 1 1 [.string nm, .slice A12 cl c12] (by rfl) (by rfl) (World.news_of_block (cs := #[.string nm, .slice A12 cl c12]) (t := 85) (fr := (0, 0)) (heap_alloc_new w12 _)) (by simp [Value.oneCell']) (by omega) (by unfold maxLen; omega) (by omega) (by simp; omega) (w12.heap.size + 1) (by simp) ?_; intro gb cap w13 hown3 hgrow3 hat3 hlt3; have HPa : Hid ((w12.alloc (Obj.cells #[.string nm, .slice A12 cl c12] 85)).heap[W1.heap.size]? = some (.cells #[.slice G ob.globals.length gc, vr] 35 (0, 0))) := Lib.hid ((Below.heap_alloc _ _ _ hlP12).trans HP12.out); have hO3 := block_grown hgrow3 HPa.out hnO.out.1; obtain ⟨m0, m1, mz0, mz1⟩ := cells_of_block hO3; have hlO3 := blk_lt hO3; have hbel3 := (Hbi12.out.alloc Hbi12.out.size (Obj.cells #[.string nm, .slice A12 cl c12] 85)).grown hgrow3 (by simp; omega) hnO.out.2; have Hbel3 := Lib.hid hbel3; have HO3 := Lib.hid hO3; have Hgrow3 := Lib.hid hgrow3; have Hown3 := Lib.hid hown3; have Hat3 := Lib.hid hat3; clear hbel3 hO3 hgrow3 hown3 hat3))
            all_goals
              have hO4 : Hid (∀ u, (w13.setCell ⟨W1.heap.size, 1, none⟩ u).heap[W1.heap.size]? = some (.cells #[.slice G ob.globals.length gc, u] 35 (0, 0))) := Lib.hid fun u => by rw [block_set HO3.out]; rfl
              have HA : Hid (Apart rpRoutine (fun b => b < W1.heap.size + 1) (w12.alloc (Obj.cells #[.string nm, .slice A12 cl c12] 85)) vr ⟨nm, cc⟩ [.string nm, .slice A12 cl c12]) := Lib.hid (by
                refine Apart.of_only (base := wi.heap.size) ?_ (fun j hj => by omega) (fun j hj => (HBi.out.own.lt _ hj).2)
                have hb := Hbuf.out
                rw [Hcl.out]
                exact rpRoutine_mk (s := ⟨nm, cc⟩) (Buf.SL (base := wi.heap.size) ((hb.alloc _).keep fun k hk _ => only_heap _ _ _ (decide_eq_true (hb.lt k hk).1)) (by rw [only_size]; exact Nat.le_refl _)))
              have hB3 := (HB12.out.alloc (Obj.cells #[.string nm, .slice A12 cl c12] 85)).push Hown3.out rfl Hgrow3.out (by simp; exact Hat3.out) HA.out
              have HB4 := Lib.hid hB3
              clear hB3
              go_wp2
              go_roundg (order.length - (i + 1))
              case measure => omega
              case rel => exact ⟨i + 1, _, rs ++ [⟨nm, cc⟩], css ++ [[.string nm, .slice A12 cl c12]], hlt, rfl, by go_num, hO4.out _, HB4.out.setCell _ (by simp) _, by simp [Hrl.out], Hstep.out, Hbel3.out.setCell (p := ⟨W1.heap.size, 1, none⟩) (Nat.le_refl _) _⟩
      · obtain rfl : i = order.length := by omega
        obtain ⟨A9, c9, rfl⟩ := own_slice hB.own
        have he := hrt.trans routsTo_end
        have i2 : ¬ (order.length : Int) < (order.length : Int) := by omega
        have hb10 : Below W0.heap.size W0 W1 := HB01.out
        have hbr : Below W0.heap.size W0 wr := hb10.trans (hbel.mono hb10.size)
        have hQ9 := (hbr.block _ hl0).trans HQ.out
        have hQ9' := (hbr.block _ hl1).trans HQ'.out
        have HQ9 := Lib.hid hQ9
        have HQ9' := Lib.hid hQ9'
        obtain ⟨g0, g1, gz0, gz1⟩ := cells_of_block hP
        obtain ⟨q0, q1, z0, z1⟩ := cells_of_block hQ9
        obtain ⟨q0', q1', z0', z1'⟩ := cells_of_block hQ9'
        have hlq := blk_lt hQ9
        have hlq' := blk_lt hQ9'
        have hq1 : w.heap.size + 1 < W1.heap.size := Nat.lt_of_lt_of_le hl1 hb10.size
        obtain ⟨N9, hN9⟩ : ∃ N9, N9 = rs.length := ⟨_, rfl⟩
        rw [← hN9] at g1 he
        have n0 : (0 : Int) ≤ (N9 : Int) := Int.natCast_nonneg _
        by_cases h40 : 40 < N9
        · rw [if_pos h40] at he
          have hfin : Hid (∀ W, Below w.heap.size w W → w.heap.size + 1 < W.heap.size → R (.returned (.tuple #[.agg #[.slice none 0 0, .slice none 0 0], .agg #[.int .i64 2, .int .i64 0]])) W) := Lib.hid fun W hb hz => HB.out W _ _ [] [] 2 0 he hb hz (Rp.SL.nil _ _ _) (Rp.SL.nil _ _ _)
          have h40' : (40 : Int) < (N9 : Int) := by omega
          clear hP hB hrl hrt hbel he hQ9 hQ9' hN9 hb10 hbr
          go_wp2
          exact bodyPost_ret (v := .tuple #[.agg #[.slice none 0 0, .slice none 0 0], .agg #[.int .i64 2, .int .i64 0]]) (res_ImgF (by rfl) (by rfl) (by rfl) (by repeat (first | with_reducible exact HQ9.out | with_reducible refine blk_drew ?_ | with_reducible refine blk_drewN ?_ _ | with_reducible refine blk_alloc ?_ _ | with_reducible apply blk_set1 | with_reducible apply blk_set0 | with_reducible refine blk_other ?_ (by first | (simp; done) | omega | (simp; omega)) _)) (by repeat (first | with_reducible exact HQ9'.out | with_reducible refine blk_drew ?_ | with_reducible refine blk_drewN ?_ _ | with_reducible refine blk_alloc ?_ _ | with_reducible apply blk_set1 | with_reducible apply blk_set0 | with_reducible refine blk_other ?_ (by first | (simp; done) | omega | (simp; omega)) _))) rfl (hfin.out _ (by
            have hb := Hbw.out
            exact (by repeat (first | exact Below.refl _ _ | assumption | refine below_drewN ?_ _ | refine Below.drew ?_ | refine Below.setCell ?_ (by first | omega | (simp; done) | (simp; omega)) _ | refine Below.alloc ?_ (by first | omega | (simp; done) | (simp; omega)) _ | refine below_step (by assumption) ?_ (by first | omega | (simp; done) | (simp; omega))))) (by simp [World.setCell, World.alloc, World.drew] <;> omega))
        · rw [if_neg h40] at he
          have h40' : ¬ (40 : Int) < (N9 : Int) := by omega
          have hbf : Below w.heap.size w ((((wr.setCell ⟨w.heap.size, 0, none⟩ (.slice G ob.globals.length gc)).setCell ⟨w.heap.size, 1, none⟩ (.slice A9 N9 c9)).setCell ⟨w.heap.size + 1, 0, none⟩ (.int .i64 0)).setCell ⟨w.heap.size + 1, 1, none⟩ (.int .i64 0)) :=
            (((Hbw.out.setCell (p := ⟨w.heap.size, 0, none⟩) (Nat.le_refl _) _).setCell (p := ⟨w.heap.size, 1, none⟩) (Nat.le_refl _) _).setCell (p := ⟨w.heap.size + 1, 0, none⟩) (Nat.le_succ _) _).setCell (p := ⟨w.heap.size + 1, 1, none⟩) (Nat.le_succ _) _
          have hend := HB.out _ (.slice G ob.globals.length gc) (.slice A9 N9 c9) ob.globals rs 0 0 he hbf (by simp [World.setCell]; omega) (Hg1.out.up hbf hbf.size)
            (by
              rw [hN9]
              exact ((((hB.setCell ⟨w.heap.size, 0, none⟩ (show w.heap.size < W1.heap.size + 1 by omega) _).setCell ⟨w.heap.size, 1, none⟩ (show w.heap.size < W1.heap.size + 1 by omega) _).setCell ⟨w.heap.size + 1, 0, none⟩ (show w.heap.size + 1 < W1.heap.size + 1 by omega) _).setCell ⟨w.heap.size + 1, 1, none⟩ (show w.heap.size + 1 < W1.heap.size + 1 by omega) _).SL (Nat.le_refl _))
          have Hend := Lib.hid hend
          clear hP hB hrl hrt hbel he hQ9 hQ9' hN9 hend hb10 hbr hbf
          go_wp2
          exact bodyPost_ret (v := .tuple #[.agg #[.slice G ob.globals.length gc, .slice A9 N9 c9], .agg #[.int .i64 0, .int .i64 0]]) (res_ImgF (by rfl) (by rfl) (by rfl) (by repeat (first | with_reducible exact HQ9.out | with_reducible refine blk_drew ?_ | with_reducible refine blk_drewN ?_ _ | with_reducible refine blk_alloc ?_ _ | with_reducible apply blk_set1 | with_reducible apply blk_set0 | with_reducible refine blk_other ?_ (by first | (simp; done) | omega | (simp; omega)) _)) (by repeat (first | with_reducible exact HQ9'.out | with_reducible refine blk_drew ?_ | with_reducible refine blk_drewN ?_ _ | with_reducible refine blk_alloc ?_ _ | with_reducible apply blk_set1 | with_reducible apply blk_set0 | with_reducible refine blk_other ?_ (by first | (simp; done) | omega | (simp; omega)) _))) rfl Hend.out
end Go.Proofs.YtfhnmbnniklmiaaDoor
