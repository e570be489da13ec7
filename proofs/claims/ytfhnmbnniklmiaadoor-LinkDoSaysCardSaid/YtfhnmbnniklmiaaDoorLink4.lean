/- LinkMet, as the document says it: the walk. -/
import Derived.Test.YtfhnmbnniklmiaaDoorBase
import Derived.Test.YtfhnmbnniklmiaaDoorRows
import Derived.IntWalk
import Derived.Deep.LoopGhost
import Derived.Deep.CutBlock
import Derived.Deep.DeepCutAuto
import Derived.Deep.RegionHeld3
import Derived.Outline
import Derived.Test.YtfhnmbnniklmiaaDoorLink3
namespace Go.Proofs.YtfhnmbnniklmiaaDoor
open Go.RowKit
set_option linter.unusedSimpArgs false
set_option linter.unusedVariables false

/-- What a round of reaching knows. -/
structure Rnd (S : List Section) (i : Nat) (st : List ByteArray × List ByteArray) : Prop where
  inv : RInv S st
  le : i ≤ st.1.length
  fin : reached S = reachL S (S.length - i) i st
  few : st.2.length ≤ 5000 * i
theorem Rnd.begin {S : List Section} (h : hasS S mainB = true) : Rnd S 0 ([mainB], []) := ⟨RInv.begin h, Nat.zero_le _, rfl, Nat.zero_le _⟩
theorem Rnd.stop {S : List Section} {i : Nat} {st : List ByteArray × List ByteArray} (h : Rnd S i st) (hi : ¬ i < st.1.length) : st = reached S := by
  rw [h.fin, reachL_end (by omega)]
theorem Rnd.next {S : List Section} (hf : Fine S) {i : Nat} {st : List ByteArray × List ByteArray} (h : Rnd S i st) {nm : ByteArray} (hi : st.1[i]? = some nm) {s : Section} (hs : secFind S nm = some s) : Rnd S (i + 1) (meetsL S st s.mends) := by
  have h1 := (List.getElem?_eq_some_iff.1 hi).1
  obtain ⟨h2, h3, h4⟩ := h.inv.meets s.mends
  have h5 := h.few
  have h6 := (hf.mends s (by unfold secFind at hs; exact List.mem_of_find?_eq_some hs)).2.1
  refine ⟨h2, by omega, ?_, by omega⟩
  rw [h.fin, reachL_step h.inv hi]
  unfold mendsOf
  rw [hs]
/-- .. in the midst of a round. -/
theorem Rnd.mid {S : List Section} (hf : Fine S) {i : Nat} {st : List ByteArray × List ByteArray} (h : Rnd S i st) {s : Section} (hs : s ∈ S) (k : Nat) : (meetsL S st (s.mends.take k)).1.length ≤ 480 ∧ (meetsL S st (s.mends.take k)).2.length ≤ 3000000 := by
  obtain ⟨h2, h3, h4⟩ := h.inv.meets (s.mends.take k)
  have h5 := h.few
  have h6 := (hf.mends s hs).2.1
  have h7 := h.inv.len
  have h8 := hf.few
  have h9 := h.le
  have h10 := h2.len
  rw [List.length_take] at h4
  omega

theorem own_typeL {w : World} {base : Nat} {e : TypeId} {size n : Nat} {v : Value} {xs : List Value} (h : w.ownsRow base e size v n xs) {g : Nat} (hg : v.ownBlock = some g) : ∃ cur, w.heap[g]? = some (.cells cur e (0, 0)) := by
  rcases h.2 with ⟨rfl, _⟩ | ⟨g', cap, cur, rfl, _, hh, _⟩
  · cases hg
  · obtain rfl : g' = g := Option.some.inj hg
    exact ⟨cur, hh⟩
theorem res_two_Fault {fn : Func} {t u p : Tmp} (h : fn.results = #[.tmp t, .tmp u, .cell p 25]) {tmps : Array Value} {b : Nat} {w : World} {v1 v2 x y : Value} (ht : tmps.getD t undef = v1) (hu : tmps.getD u undef = v2) (hp : tmps.getD p undef = .pointer (some ⟨b, 0, none⟩))
    (hc : w.cell? ⟨b, 0, none⟩ = some x ∧ w.cell? ⟨b, 1, none⟩ = some y) : (results fn tmps).run Tryd.prog w = .ok (.tuple #[v1, v2, .agg #[x, y]]) w := by
  rw [Array.getD_eq_getD_getElem?] at hp ht hu
  simp [results, h, hp, ht, hu, go_sem, hc.1, hc.2]

set_option maxRecDepth 100000 in
set_option maxHeartbeats 4000000 in
theorem LinkMet_calls (l : List Object) (v : Value) (w : World) (h : rpObject.SL w w.heap.size l v) (R : Ending → World → Prop)
    (hR : ∀ w' v1 v2, Below w.heap.size w w' → rpStr.SL w' w'.heap.size (metO l).1 v1 → rpStr.SL w' w'.heap.size (metO l).2 v2 → R (.returned (.tuple #[v1, v2, (.agg #[.int .i64 (metF l).1, .int .i64 (metF l).2])])) w') : Calls Tryd.prog 14 #[v] w R := by
  obtain ⟨A, c, rfl, hm, hcap, h⟩ := h.cases_
  obtain ⟨iS, hiS, zS0, zS1, zS2⟩ := info_parts info_string
  have HR := Lib.hid hR
  have H := Lib.hid h
  obtain ⟨W0, hW0⟩ : ∃ W0, W0 = w.alloc (Obj.cells #[.int .i64 0, .int .i64 0] 25) := ⟨_, rfl⟩
  have hb0 : Below w.heap.size w W0 := by subst hW0; exact (by repeat (first | exact Below.refl _ _ | assumption | refine below_drewN ?_ _ | refine Below.drew ?_ | refine Below.setCell ?_ (by first | omega | (simp; done) | (simp; omega)) _ | refine Below.alloc ?_ (by first | omega | (simp; done) | (simp; omega)) _ | refine below_step (by assumption) ?_ (by first | omega | (simp; done) | (simp; omega))))
  have hz0 : W0.heap.size = w.heap.size + 1 := by subst hW0; simp
  have hQ : W0.heap[w.heap.size]? = some (.cells #[.int .i64 0, .int .i64 0] 25 (0, 0)) := by subst hW0; exact heap_alloc_new _ _
  have HW := Lib.hid hW0.symm
  have HQ := Lib.hid hQ
  have Hb0 := Lib.hid hb0
  have hl0 : w.heap.size < W0.heap.size := by omega
  clear hR h hW0 hQ hb0
  go_enter Tryd.func14, Tryd.ntmps14
  go_upto_region 1 with fail
  rw [HW.out]
  go_wp2_with fail
  refine LinkFault_calls l _ _ (H.out.up Hb0.out Hb0.out.size) _ (fun w1 hb1 => ?_)
  obtain ⟨F, hF⟩ : ∃ F, F = linkF l := ⟨_, rfl⟩
  rw [← hF]
  have HFl := Lib.hid hF
  obtain ⟨fc, fa⟩ := F
  simp only []
  obtain ⟨W1, hW1⟩ : ∃ W1, W1 = w1.alloc (Obj.cells #[.int .i64 fc, .int .i64 fa] 25) := ⟨_, rfl⟩
  have hz1 := hb1.size
  have hV1 : W1.heap[w1.heap.size]? = some (.cells #[.int .i64 fc, .int .i64 fa] 25 (0, 0)) := by subst hW1; exact heap_alloc_new _ _
  have hbW1 : Below w1.heap.size w1 W1 := by subst hW1; exact (by repeat (first | exact Below.refl _ _ | assumption | refine below_drewN ?_ _ | refine Below.drew ?_ | refine Below.setCell ?_ (by first | omega | (simp; done) | (simp; omega)) _ | refine Below.alloc ?_ (by first | omega | (simp; done) | (simp; omega)) _ | refine below_step (by assumption) ?_ (by first | omega | (simp; done) | (simp; omega))))
  have hB1 : Below W0.heap.size W0 W1 := hb1.trans (hbW1.mono hz1)
  have hQ1 := (hB1.block _ (by omega)).trans HQ.out
  have hlV : w1.heap.size < W1.heap.size := blk_lt hV1
  have hlQ : w.heap.size < W1.heap.size := blk_lt hQ1
  have HW1 := Lib.hid hW1.symm
  have HQ1 := Lib.hid hQ1
  have HV1 := Lib.hid hV1
  have Hbw1 := Lib.hid (Hb0.out.trans (hB1.mono Hb0.out.size))
  obtain ⟨f0, f1, _, _⟩ := cells_of_block hV1
  obtain ⟨q0, q1, z0, z1⟩ := cells_of_block hQ1
  clear hF hb1 hW1 hbW1 hB1 hV1 hQ1
  go_upto_region 2 with fail
  rw [HW1.out]
  by_cases hc : fc = 0
  rotate_left
  · have hcb : (fc != 0) = true := by simp [hc]
    have hmF : metF l = (fc, fa) := by unfold metF; rw [← HFl.out, if_pos hc]
    have hmO : metO l = ([], []) := by unfold metO; rw [hmF, if_pos hc]
    have hret : Hid (∀ W, Below w.heap.size w W → R (.returned (.tuple #[.slice none 0 0, .slice none 0 0, .agg #[.int .i64 fc, .int .i64 fa]])) W) := Lib.hid fun W hb => by
      have := HR.out W (.slice none 0 0) (.slice none 0 0) hb (by rw [hmO]; exact Rp.SL.nil _ _ _) (by rw [hmO]; exact Rp.SL.nil _ _ _)
      rw [hmF] at this
      exact this
    clear hc hmF hmO
    go_wp2
    go_region
    all_goals
      go_wp2
      exact bodyPost_ret (v := .tuple #[.slice none 0 0, .slice none 0 0, .agg #[.int .i64 fc, .int .i64 fa]]) (res_two_Fault (by rfl) (by rfl) (by rfl) (by rfl) (cells_blk (by repeat (first | with_reducible exact HQ1.out | with_reducible refine blk_drew ?_ | with_reducible refine blk_drewN ?_ _ | with_reducible refine blk_alloc ?_ _ | with_reducible apply blk_set1 | with_reducible apply blk_set0 | with_reducible refine blk_other ?_ (by first | (simp; done) | omega | (simp; omega)) _)))) rfl (hret.out _ (by
        have hb := Hbw1.out
        exact (by repeat (first | exact Below.refl _ _ | assumption | refine below_drewN ?_ _ | refine Below.drew ?_ | refine Below.setCell ?_ (by first | omega | (simp; done) | (simp; omega)) _ | refine Below.alloc ?_ (by first | omega | (simp; done) | (simp; omega)) _ | refine below_step (by assumption) ?_ (by first | omega | (simp; done) | (simp; omega))))))
  · subst hc
    have hl0' := linkF_ok (l := l) (by rw [← HFl.out])
    have hfa : fa = 0 := by
      have := HFl.out.trans hl0'.1
      simpa using this
    subst hfa
    have hfine := fine_of (l := l) (by rw [← HFl.out])
    obtain ⟨S, hS⟩ : ∃ S, S = allS l := ⟨_, rfl⟩
    have HSl := Lib.hid hS
    have hmF : metF l = if hasS S mainB = false then (6, -1) else (0, 0) := by
      unfold metF
      rw [← HFl.out, if_neg (by simp), hS]
    have hmO : metO l = if hasS S mainB = false then ([], []) else reached S := by
      unfold metO
      rw [hmF]
      by_cases hh : hasS S mainB = false
      · rw [if_pos hh, if_pos hh, if_pos (by decide)]
      · rw [if_neg hh, if_neg hh, if_neg (by simp), hS]
    rw [← hS] at hfine
    have hneg := owner_neg (l := l) (nm := mainB)
    rw [← hS] at hneg
    have HmF := Lib.hid hmF
    have HmO := Lib.hid hmO
    have Hfine := Lib.hid hfine
    have Hneg := Lib.hid hneg
    clear hl0' hS hmF hmO hfine hneg
    go_wp2_with fail
    refine Owner_calls l _ mainB _ (H.out.up Hbw1.out Hbw1.out.size) _ (fun w2 hb2 => ?_)
    have hz2 := hb2.size
    have hQ2 := (hb2.block _ hlQ).trans HQ1.out
    have HQ2 := Lib.hid hQ2
    have Hbw2 := Lib.hid (Hbw1.out.trans (hb2.mono Hbw1.out.size))
    have hlQ2 : w.heap.size < w2.heap.size := by omega
    clear f0 f1 q0 q1 z0 z1
    obtain ⟨q0, q1, z0, z1⟩ := cells_of_block hQ2
    have hng := Hneg.out
    generalize ownerL l mainB = r at *
    clear hb2 hQ2
    by_cases hr : r < 0
    · have hh := hng.1 hr
      have hret : Hid (∀ W, Below w.heap.size w W → R (.returned (.tuple #[.slice none 0 0, .slice none 0 0, .agg #[.int .i64 6, .int .i64 (-1)]])) W) := Lib.hid fun W hb => by
        have e1 := HmO.out
        have e2 := HmF.out
        rw [if_pos hh] at e1 e2
        have := HR.out W (.slice none 0 0) (.slice none 0 0) hb (by rw [e1]; exact Rp.SL.nil _ _ _) (by rw [e1]; exact Rp.SL.nil _ _ _)
        rw [e2] at this
        exact this
      clear hh hng
      go_wp2
      exact bodyPost_ret (v := .tuple #[.slice none 0 0, .slice none 0 0, .agg #[.int .i64 6, .int .i64 (-1)]]) (res_two_Fault (by rfl) (by rfl) (by rfl) (by rfl) (cells_blk (by repeat (first | with_reducible exact HQ2.out | with_reducible refine blk_drew ?_ | with_reducible refine blk_drewN ?_ _ | with_reducible refine blk_alloc ?_ _ | with_reducible apply blk_set1 | with_reducible apply blk_set0 | with_reducible refine blk_other ?_ (by first | (simp; done) | omega | (simp; omega)) _)))) rfl (hret.out _ (by
        have hb := Hbw2.out
        exact (by repeat (first | exact Below.refl _ _ | assumption | refine below_drewN ?_ _ | refine Below.drew ?_ | refine Below.setCell ?_ (by first | omega | (simp; done) | (simp; omega)) _ | refine Below.alloc ?_ (by first | omega | (simp; done) | (simp; omega)) _ | refine below_step (by assumption) ?_ (by first | omega | (simp; done) | (simp; omega))))))
    · have hmain : hasS S mainB = true := by
        cases hx : hasS S mainB with
        | true => rfl
        | false => exact absurd (hng.2 hx) hr
      have e1 := HmO.out
      have e2 := HmF.out
      rw [if_neg (by rw [hmain]; simp)] at e1 e2
      have E1 := Lib.hid e1
      have E2 := Lib.hid e2
      have Hmain := Lib.hid hmain
      have Hr := Lib.hid hr
      clear e1 e2 hng hmain q0 q1 z0 z1
      obtain ⟨W3, hW3⟩ : ∃ W3, W3 = w2.alloc (Obj.cells #[.string mainB] 9) := ⟨_, rfl⟩
      have htwo : Two W3 w2.heap.size (.slice (some ⟨w2.heap.size, 0, none⟩) 1 1) (.slice none 0 0) ([mainB], []) := by subst hW3; exact Two.begin w2 (Nat.le_refl _) mainB
      have hb3 : Below w2.heap.size w2 W3 := by subst hW3; exact (by repeat (first | exact Below.refl _ _ | assumption | refine below_drewN ?_ _ | refine Below.drew ?_ | refine Below.setCell ?_ (by first | omega | (simp; done) | (simp; omega)) _ | refine Below.alloc ?_ (by first | omega | (simp; done) | (simp; omega)) _ | refine below_step (by assumption) ?_ (by first | omega | (simp; done) | (simp; omega))))
      have HW3 := Lib.hid hW3.symm
      have Htwo := Lib.hid htwo
      have Hb3 := Lib.hid hb3
      clear hW3 htwo hb3
      go_upto_region 8 with fail
      rw [show w2.alloc (Obj.cells #[.string ⟨#[109, 97, 105, 110]⟩] 9) = W3 from HW3.out]
      go_wp2_with fail
      go_loopg [6, 7, 8, 9, 10, 11] S.length (fun g s6 s7 s8 s9 s10 s11 wr => ∃ (i : Nat) (st : List ByteArray × List ByteArray), g = S.length - i ∧ s8 = .int .i64 (i : Int) ∧ Rnd S i st ∧ Two wr w2.heap.size s6 s7 st ∧ Below w2.heap.size w2 wr)
      case atStart => exact ⟨0, _, rfl, rfl, Rnd.begin Hmain.out, Htwo.out, Hb3.out⟩
      case round =>
        obtain ⟨i, ⟨xo, xu⟩, rfl, rfl, hrnd, htw, hbel⟩ := hrel
        obtain ⟨A6, c6, hs6⟩ := own_slice htw.ord
        obtain ⟨A7, c7, hs7⟩ := own_slice htw.und
        simp only [] at hs6 hs7
        subst hs6 hs7
        have hz := hbel.size
        have hbw := Hbw2.out.trans (hbel.mono Hbw2.out.size)
        have Hrnd := Lib.hid hrnd
        have Htw := Lib.hid htw
        have Hbel := Lib.hid hbel
        have Hbw := Lib.hid hbw
        have j1 : (0 : Int) ≤ (i : Int) := Int.natCast_nonneg _
        have hQr := (hbel.block _ hlQ2).trans HQ2.out
        have HQr := Lib.hid hQr
        obtain ⟨q0, q1, z0, z1⟩ := cells_of_block hQr
        have hlQr : w.heap.size < wr.heap.size := by omega
        clear hQr
        by_cases hlt : i < xo.length
        · have hsl := SLstr_own htw.ord (Nat.le_refl _)
          obtain ⟨b6, o6, nm, rfl, hb6, e6, p6⟩ := hsl.str_at hlt
          have hthere := hrnd.inv.there nm (List.mem_of_getElem? e6)
          have j2 : (i : Int) < (xo.length : Int) := by omega
          have hle := hrnd.inv.len
          simp only [] at hle
          have E6 := Lib.hid e6
          clear hrnd htw hsl e6 hbel q0 q1 z0 z1
          go_wp2_with fail
          refine SectionOf_calls l _ nm w _ H.out Hbw.out (by rw [← HSl.out]; exact hthere) _ (fun w4 s A1 c1 A2 c2 hb4 hsec _ hm4 => ?_)
          rw [← HSl.out] at hsec
          have hz4 := hb4.size
          obtain ⟨W5, hW5⟩ : ∃ W5, W5 = w4.alloc (Obj.cells #[.string s.name, .slice A1 s.code.length c1, .slice A2 s.mends.length c2] 64) := ⟨_, rfl⟩
          have hV5 : W5.heap[w4.heap.size]? = some (.cells #[.string s.name, .slice A1 s.code.length c1, .slice A2 s.mends.length c2] 64 (0, 0)) := by subst hW5; exact heap_alloc_new _ _
          have hbW5 : Below w4.heap.size w4 W5 := by subst hW5; exact (by repeat (first | exact Below.refl _ _ | assumption | refine below_drewN ?_ _ | refine Below.drew ?_ | refine Below.setCell ?_ (by first | omega | (simp; done) | (simp; omega)) _ | refine Below.alloc ?_ (by first | omega | (simp; done) | (simp; omega)) _ | refine below_step (by assumption) ?_ (by first | omega | (simp; done) | (simp; omega))))
          have hb5 : Below wr.heap.size wr W5 := hb4.trans (hbW5.mono hz4)
          have HW5 := Lib.hid hW5.symm
          have HV5 := Lib.hid hV5
          have Htw5 := Lib.hid (Htw.out.below hb5)
          have Hb5 := Lib.hid (Hbel.out.trans (hb5.mono Hbel.out.size))
          have Hbw5 := Lib.hid (Hbw.out.trans (hb5.mono Hbw.out.size))
          have Hm4 := Lib.hid hm4
          have Hsec := Lib.hid hsec
          have hsm : s ∈ S := by unfold secFind at hsec; exact List.mem_of_find?_eq_some hsec
          have hlV : w4.heap.size < W5.heap.size := blk_lt hV5
          have hml : s.mends.length ≤ 5000 := (Hfine.out.mends s hsm).2.1
          have hs480 := Hfine.out.few
          have hwr5 : wr.heap.size ≤ w4.heap.size := hz4
          have Hmid := Lib.hid (fun k => Hrnd.out.mid Hfine.out hsm k)
          clear hb4 hsec hm4 hW5 hV5 hbW5 hb5 p6 hthere
          go_upto_region 12 with fail
          rw [HW5.out]
          go_wp2_with fail
          go_loopg [6, 7, 10, 11] s.mends.length (fun gi s6 s7 s10 s11 wi => ∃ j : Nat, j ≤ s.mends.length ∧ gi = s.mends.length - j ∧ s10 = .int .i64 (j : Int) ∧ Two wi w2.heap.size s6 s7 (meetsL S (xo, xu) (s.mends.take j)) ∧ Grew (fun b => w2.heap.size ≤ b ∧ b ≠ w4.heap.size) W5 wi)
          case atStart => exact ⟨0, Nat.zero_le _, rfl, rfl, Htw5.out, Grew.refl _ _⟩
          case round =>
            rename World => wi
            obtain ⟨j, hj, rfl, rfl, htw, hgr⟩ := hrel
            have hmid := Hmid.out j
            have hV := (hgr.block _ hlV (fun h => h.2 rfl)).trans HV5.out
            have HV := Lib.hid hV
            obtain ⟨t0, t1, t2, _, _, _⟩ := three_cellsL hV
            have hlVi : w4.heap.size < wi.heap.size := blk_lt hV
            have hbi : Below w2.heap.size w2 wi := Hb5.out.trans (hgr.below (fun k h1 h2 => by omega) Hb5.out.size)
            have hbwi := Hbw2.out.trans (hbi.mono Hbw2.out.size)
            have Hbi := Lib.hid hbi
            have Hbwi := Lib.hid hbwi
            have j3 : (0 : Int) ≤ (j : Int) := Int.natCast_nonneg _
            by_cases hjl : j < s.mends.length
            · obtain ⟨b7, o7, m, hA7, hb7, e7, _, p7⟩ := Hm4.out.mend_at hjl
              cases hA7
              have p8 := (hbwi.cell (p := ⟨b7, o7 + j * 2 + 1, none⟩) hb7).trans p7
              have hmem := (Hfine.out.mends s hsm).2.2 m (List.mem_of_getElem? e7)
              have hst := meetsL_step (S := S) (st := (xo, xu)) e7
              obtain ⟨⟨yo, yu⟩, hcur⟩ : ∃ cur, cur = meetsL S (xo, xu) (s.mends.take j) := ⟨_, rfl⟩
              rw [← hcur] at hst htw hmid
              simp only [] at hmid
              obtain ⟨A8, c8, hs8⟩ := own_slice htw.ord
              obtain ⟨A9, c9, hs9⟩ := own_slice htw.und
              simp only [] at hs8 hs9
              subst hs8 hs9
              have j4 : (j : Int) < (s.mends.length : Int) := by omega
              have Hst := Lib.hid hst
              have Htwi := Lib.hid htw
              have Hgr := Lib.hid hgr
              have Hn := Lib.hid (owner_neg (l := l) (nm := m.name))
              clear hst htw hgr hcur hV hbi hbwi p7 e7
              go_wp2_with fail
              refine Owner_calls l _ m.name _ (H.out.up Hbwi.out Hbwi.out.size) _ (fun w6 hb6 => ?_)
              have htw6 := Htwi.out.below hb6
              have hgr6 := Hgr.out.on hb6
              have hV6 := (hb6.block _ hlVi).trans HV.out
              obtain ⟨t0', t1', t2', _, _, _⟩ := three_cellsL hV6
              have hz6 := hb6.size
              have hlV6 : w4.heap.size < w6.heap.size := by omega
              have hbase6 : w2.heap.size ≤ w6.heap.size := by have := Hbi.out.size; omega
              have Htw6 := Lib.hid htw6
              have Hgr6 := Lib.hid hgr6
              have HV6 := Lib.hid hV6
              have hng := Hn.out
              rw [← HSl.out] at hng
              generalize ownerL l m.name = r at *
              clear hb6 hV6 t0 t1 t2 p8
              by_cases hr2 : r < 0
              · have hno := hng.1 hr2
                have hmeet : meetL S (yo, yu) m.name = if inB yu m.name = true then (yo, yu) else (yo, yu ++ [m.name]) := by unfold meetL; rw [if_neg (by rw [hno]; simp)]
                have Hmeet := Lib.hid hmeet
                clear hno hng hmeet
                go_wp2_with fail
                refine PlaceOf_calls yu _ m.name _ (SLstr_own htw6.und (Nat.le_refl _)) _ ?_
                clear htw6 hgr6
                rcases idx_cases yu m.name with ⟨h1, h2⟩ | ⟨q, h1, _, h2⟩
                · rw [h1]
                  have hW : Hid ((w6.alloc (Obj.cells #[.string m.name] 9)).ownsRow w2.heap.size 9 1 (.slice A9 yu.length c9) yu.length (yu.flatMap strCells)) := Lib.hid (Htw6.out.und.alloc _)
                  have hm2 := Hmeet.out
                  rw [if_neg (by rw [h2]; simp)] at hm2
                  have Hm2 := Lib.hid hm2
                  clear h1 h2 hm2
                  go_wp2_with (at_builtin; refine wpList_append_lies _ rfl _ _ 23 rfl w2.heap.size 9 iS _ 1 16 Tryd.underlying23 hiS zS0 zS1 zS2 rfl (by decide) (.slice A9 yu.length c9) yu.length (yu.flatMap strCells) rfl hW.out ⟨w6.heap.size, 0, none⟩ 1 1 [.string m.name] rfl rfl ?_ ?_ (by decide) ?_ ?_ ?_ _ rfl ?_)
                  any_goals (first | exact World.news_of_block (cs := #[.string m.name]) (t := 9) (fr := (0, 0)) (heap_alloc_new _ _) | (simp [Value.oneCell']; done) | (unfold maxLen; omega) | omega | (simp; done) | (simp; omega))
                  intro gb cap2 w7 hown7 hgrow7 hat7 hlt7
                  have htw7 := Htw6.out.push2 (Obj.cells #[.string m.name] 9) m.name hown7 rfl hgrow7 (by simpa using hat7)
                  have hgr7 : Grew (fun b => w2.heap.size ≤ b ∧ b ≠ w4.heap.size) W5 w7 := (Hgr6.out.alloc _).trans (Grew.of_grown hgrow7) fun b hb e => ⟨(Htw6.out.und.lt b e).1, fun eb => by
                    obtain ⟨cur, hcur⟩ := own_typeL Htw6.out.und e
                    rw [eb, HV6.out] at hcur
                    cases hcur⟩
                  have Htw7 := Lib.hid htw7
                  have Hgr7 := Lib.hid hgr7
                  clear htw7 hgr7 hown7 hgrow7 hat7
                  go_wp2
                  go_roundg (s.mends.length - (j + 1))
                  case measure => omega
                  case rel => exact ⟨j + 1, hjl, rfl, by go_num, by rw [Hst.out, Hm2.out]; exact Htw7.out, Hgr7.out⟩
                · rw [h1]
                  have hm2 := Hmeet.out
                  rw [if_pos h2] at hm2
                  have Hm2 := Lib.hid hm2
                  have hq0 : (0 : Int) ≤ (q : Int) := Int.natCast_nonneg _
                  clear h1 h2 hm2
                  go_wp2
                  go_roundg (s.mends.length - (j + 1))
                  case measure => omega
                  case rel => exact ⟨j + 1, hjl, rfl, by go_num, by rw [Hst.out, Hm2.out]; exact Htw6.out, Hgr6.out⟩
              · have hyes : hasS S m.name = true := by
                  cases hx : hasS S m.name with
                  | true => rfl
                  | false => exact absurd (hng.2 hx) hr2
                have hmeet : meetL S (yo, yu) m.name = if inB yo m.name = true then (yo, yu) else (yo ++ [m.name], yu) := by unfold meetL; rw [if_pos hyes]
                have Hmeet := Lib.hid hmeet
                clear hyes hng hmeet
                go_wp2_with fail
                refine PlaceOf_calls yo _ m.name _ (SLstr_own htw6.ord (Nat.le_refl _)) _ ?_
                clear htw6 hgr6
                rcases idx_cases yo m.name with ⟨h1, h2⟩ | ⟨q, h1, _, h2⟩
                · rw [h1]
                  have hW : Hid ((w6.alloc (Obj.cells #[.string m.name] 9)).ownsRow w2.heap.size 9 1 (.slice A8 yo.length c8) yo.length (yo.flatMap strCells)) := Lib.hid (Htw6.out.ord.alloc _)
                  have hm2 := Hmeet.out
                  rw [if_neg (by rw [h2]; simp)] at hm2
                  have Hm2 := Lib.hid hm2
                  clear h1 h2 hm2
                  go_wp2_with (at_builtin; refine wpList_append_lies _ rfl _ _ 23 rfl w2.heap.size 9 iS _ 1 16 Tryd.underlying23 hiS zS0 zS1 zS2 rfl (by decide) (.slice A8 yo.length c8) yo.length (yo.flatMap strCells) rfl hW.out ⟨w6.heap.size, 0, none⟩ 1 1 [.string m.name] rfl rfl ?_ ?_ (by decide) ?_ ?_ ?_ _ rfl ?_)
                  any_goals (first | exact World.news_of_block (cs := #[.string m.name]) (t := 9) (fr := (0, 0)) (heap_alloc_new _ _) | (simp [Value.oneCell']; done) | (unfold maxLen; omega) | omega | (simp; done) | (simp; omega))
                  intro gb cap2 w7 hown7 hgrow7 hat7 hlt7
                  have htw7 := Htw6.out.push1 (Obj.cells #[.string m.name] 9) m.name hown7 rfl hgrow7 (by simpa using hat7)
                  have hgr7 : Grew (fun b => w2.heap.size ≤ b ∧ b ≠ w4.heap.size) W5 w7 := (Hgr6.out.alloc _).trans (Grew.of_grown hgrow7) fun b hb e => ⟨(Htw6.out.ord.lt b e).1, fun eb => by
                    obtain ⟨cur, hcur⟩ := own_typeL Htw6.out.ord e
                    rw [eb, HV6.out] at hcur
                    cases hcur⟩
                  have Htw7 := Lib.hid htw7
                  have Hgr7 := Lib.hid hgr7
                  clear htw7 hgr7 hown7 hgrow7 hat7
                  go_wp2
                  go_roundg (s.mends.length - (j + 1))
                  case measure => omega
                  case rel => exact ⟨j + 1, hjl, rfl, by go_num, by rw [Hst.out, Hm2.out]; exact Htw7.out, Hgr7.out⟩
                · rw [h1]
                  have hm2 := Hmeet.out
                  rw [if_pos h2] at hm2
                  have Hm2 := Lib.hid hm2
                  have hq0 : (0 : Int) ≤ (q : Int) := Int.natCast_nonneg _
                  clear h1 h2 hm2
                  go_wp2
                  go_roundg (s.mends.length - (j + 1))
                  case measure => omega
                  case rel => exact ⟨j + 1, hjl, rfl, by go_num, by rw [Hst.out, Hm2.out]; exact Htw6.out, Hgr6.out⟩
            · obtain rfl : j = s.mends.length := by omega
              rw [List.take_length] at htw
              have hnext := Hrnd.out.next Hfine.out E6.out Hsec.out
              have Htwi := Lib.hid htw
              have Hnext := Lib.hid hnext
              have j4 : ¬ (s.mends.length : Int) < (s.mends.length : Int) := by omega
              clear htw hgr hnext hV hbi hbwi
              go_wp2
              go_roundg (S.length - (i + 1))
              case measure => omega
              case rel => exact ⟨i + 1, _, rfl, by go_num, Hnext.out, Htwi.out, Hbi.out⟩
        · have hst := hrnd.stop hlt
          have j2 : ¬ (i : Int) < (xo.length : Int) := by omega
          have hfin : Hid (R (.returned (.tuple #[.slice A6 xo.length c6, .slice A7 xu.length c7, .agg #[.int .i64 0, .int .i64 0]])) ((wr.setCell ⟨w.heap.size, 0, none⟩ (.int .i64 0)).setCell ⟨w.heap.size, 1, none⟩ (.int .i64 0))) := Lib.hid (by
            have htw' := (htw.set ⟨w.heap.size, 0, none⟩ (by show w.heap.size < w2.heap.size; omega) (.int .i64 0)).set ⟨w.heap.size, 1, none⟩ (by show w.heap.size < w2.heap.size; omega) (.int .i64 0)
            have := HR.out ((wr.setCell ⟨w.heap.size, 0, none⟩ (.int .i64 0)).setCell ⟨w.heap.size, 1, none⟩ (.int .i64 0)) (.slice A6 xo.length c6) (.slice A7 xu.length c7) ((Hbw.out.setCell (p := ⟨w.heap.size, 0, none⟩) (Nat.le_refl _) _).setCell (p := ⟨w.heap.size, 1, none⟩) (Nat.le_refl _) _) (by rw [E1.out, ← hst]; exact SLstr_own htw'.ord (Nat.le_refl _)) (by rw [E1.out, ← hst]; exact SLstr_own htw'.und (Nat.le_refl _))
            rw [E2.out] at this
            exact this)
          clear hst hrnd htw hbel hbw
          go_wp2
          refine bodyPost_ret (v := .tuple #[.slice A6 xo.length c6, .slice A7 xu.length c7, .agg #[.int .i64 0, .int .i64 0]]) (res_two_Fault (by rfl) (by rfl) (by rfl) (by rfl) (cells_blk (by repeat (first | with_reducible exact HQr.out | with_reducible refine blk_drew ?_ | with_reducible refine blk_drewN ?_ _ | with_reducible refine blk_alloc ?_ _ | with_reducible apply blk_set1 | with_reducible apply blk_set0 | with_reducible refine blk_other ?_ (by first | (simp; done) | omega | (simp; omega)) _)))) rfl ?_
          exact hfin.out
end Go.Proofs.YtfhnmbnniklmiaaDoor