/- LinkLeft: what nobody needs is left out. -/
import Derived.Test.YtegnemfjcmhncaaDoorBase
import Derived.Test.YtegnemfjcmhncaaDoorRows
import Derived.IntWalk
import Derived.Outline
import Derived.Deep.LoopGhost
import Derived.Deep.RegionHeld3
import Derived.Deep.RegionLaw
import Derived.Deep.AppendLies
import Derived.Test.YtegnemfjcmhncaaDoorLa1
import Derived.Test.YtegnemfjcmhncaaDoorLink8
namespace Go.Proofs.YtegnemfjcmhncaaDoor
open Go.RowKit
set_option linter.unusedSimpArgs false
set_option linter.unusedVariables false

theorem SL_rows_cons {α : Type} {r : Rp α} {w0 w1 w7 : World} {base : Nat} {e : TypeId} {xs : List α} {x : α} {css : List (List Value)} {cs : List Value} {g n cap : Nat}
    (hl : css.length = xs.length) (he : ∀ (k : Nat) x cs, xs[k]? = some x → css[k]? = some cs → r.rep w0 w0.heap.size x cs) (hx : r.rep w1 w1.heap.size x cs) (hb0 : Below w0.heap.size w0 w7) (hb1 : Below w1.heap.size w1 w7) (h0 : w0.heap.size ≤ base) (h1 : w1.heap.size ≤ base)
    (hown : w7.ownsRow base e r.size (.slice (some ⟨g, 0, none⟩) n cap) n (cs ++ css.flatten)) (hn : n = xs.length + 1) : r.SL w7 w7.heap.size (x :: xs) (.slice (some ⟨g, 0, none⟩) n cap) := by
  have hg := (hown.lt g rfl).1
  have hb : Built r base e (fun _ => False) w7 (.slice (some ⟨g, 0, none⟩) n cap) (x :: xs) (cs :: css) := by
    refine ⟨by simp [hl], ?_, fun k y ds hk hd => ?_, fun _ h => h.elim⟩
    · rw [List.length_cons, ← hn, List.flatten_cons]
      exact hown
    · cases k with
      | zero =>
        simp at hk hd
        subst hk hd
        exact Apart.of_old hx hb1.size hb1 (fun _ h => h.elim) (fun j hj => by obtain rfl : g = j := Option.some.inj hj; omega)
      | succ k =>
        rw [List.getElem?_cons_succ] at hk hd
        exact Apart.of_old (he k y ds hk hd) hb0.size hb0 (fun _ h => h.elim) (fun j hj => by obtain rfl : g = j := Option.some.inj hj; omega)
  exact hb.SL (Nat.le_refl _)
theorem rows_oneL {w : World} {B : Nat} {o : Object} {cs : List Value} (h : rpObject.rep w B o cs) : ∀ u ∈ cs, u.oneCell' = true := by
  obtain ⟨v1, v2, rfl, h1, h2⟩ := rpObject_rep h
  obtain ⟨A1, n1, rfl, _⟩ := h1.cases_
  obtain ⟨A2, n2, rfl, _⟩ := h2.cases_
  intro u hu
  simp at hu
  rcases hu with rfl | rfl <;> rfl
def calledB (i : Nat) (c : List Mac) : Bool := c.any fun x => decide (x.op = 44) && decide (x.n = (i : Int))
def calledR (i : Nat) (rs : List Routine) : Bool := rs.any fun r => calledB i ((readL r.code).getD [])
theorem calledB_step {i : Nat} {c : List Mac} {k : Nat} {m : Mac} (h : c[k]? = some m) : calledB i (c.take (k + 1)) = (calledB i (c.take k) || (decide (m.op = 44) && decide (m.n = (i : Int)))) := any_step _ h
theorem calledR_step {i : Nat} {rs : List Routine} {k : Nat} {r : Routine} (h : rs[k]? = some r) : calledR i (rs.take (k + 1)) = (calledR i (rs.take k) || calledB i ((readL r.code).getD [])) := any_step _ h
theorem none_left : (linkDo []).1.routines = [] := by decide +kernel
set_option maxRecDepth 100000 in
set_option maxHeartbeats 8000000 in
theorem LinkLeft_calls (raw : List (List Int)) (more : List Int) (v vm : Value) (w : World) (h : rpInt.slice.SL w w.heap.size raw v) (hraw : ∀ l ∈ raw, ∀ x ∈ l, I64 x) (hm : rpInt.SL w w.heap.size more vm) (hmore : ∀ x ∈ more, I64 x) (hS : Shapes w) (R : Ending → World → Prop)
    (hR : ∀ w', Below w.heap.size w w' → R (.returned (.bool true)) w') :
    Calls Tryd.prog 4 #[v, vm] w R := by
  have h0 := hS.1
  obtain ⟨iO, hiO, zO0, zO1, zO2⟩ := info_parts info_ObjectK
  obtain ⟨A, c, rfl, _, hcap, h⟩ := h.cases_
  obtain ⟨Am, cm, rfl, _, hcapm, hm⟩ := hm.cases_
  have HR := Lib.hid hR
  have H := Lib.hid h
  have Hm := Lib.hid hm
  have Hraw := Lib.hid hraw
  have Hmo := Lib.hid hmore
  have HSh := Lib.hid hS
  obtain ⟨l, hl⟩ : ∃ l, l = kitL raw := ⟨_, rfl⟩
  have Hl := Lib.hid hl
  have h6 : l.length ≤ 6 := by rw [hl]; unfold kitL; rw [bunL_len]; exact kit_secs raw
  clear hR h hraw hl hS hm hmore
  go_enter Tryd.func4, Tryd.ntmps4
  go_wp2_with fail
  refine linkSure_calls _ HSh.out _ (fun wa hba => ?_)
  have Hba := Lib.hid hba
  clear hba
  go_wp2_with fail
  refine bundled_calls raw _ _ (H.out.up Hba.out Hba.out.size) Hraw.out _ (fun w2 v3 hb2 hv3 => ?_)
  rw [← Hl.out] at hv3
  obtain ⟨A3, n3, rfl, _, hcap3, hv3⟩ := hv3.cases_
  have Hv3 := Lib.hid hv3
  have Hb2 := Lib.hid (Hba.out.trans (hb2.mono Hba.out.size))
  have HSh2 := Lib.hid (HSh.out.up Hb2.out h0)
  clear hb2 hv3
  obtain ⟨L1, hL1⟩ : ∃ L1, L1 = linkDo l := ⟨_, rfl⟩
  have HL1 := Lib.hid hL1
  clear hL1
  go_wp2_with fail
  refine Do_calls l _ _ Hv3.out HSh2.out _ (fun w4 v1 v2 hb4 hg4 hr4 => ?_)
  rw [← HL1.out] at hg4 hr4 ⊢
  obtain ⟨B1, m1, rfl, _, _, hg4⟩ := hg4.cases_
  obtain ⟨B2, m2, rfl, _, hcapr, hr4⟩ := hr4.cases_
  obtain ⟨W5, hW5⟩ : ∃ W5, W5 = (w4.alloc (Obj.cells #[.slice B1 L1.1.globals.length m1, .slice B2 L1.1.routines.length m2] 34)).alloc (Obj.cells #[.int .i64 L1.2.1, .int .i64 L1.2.2] 36) := ⟨_, rfl⟩
  have hbW5 : Below w4.heap.size w4 W5 := by subst hW5; exact bl0
  have hI5 : W5.heap[w4.heap.size]? = some (.cells #[.slice B1 L1.1.globals.length m1, .slice B2 L1.1.routines.length m2] 34 (0, 0)) := by subst hW5; exact blk_alloc (heap_alloc_new _ _) _
  have hF5 : W5.heap[w4.heap.size + 1]? = some (.cells #[.int .i64 L1.2.1, .int .i64 L1.2.2] 36 (0, 0)) := by
    subst hW5
    have := heap_alloc_new (w4.alloc (Obj.cells #[.slice B1 L1.1.globals.length m1, .slice B2 L1.1.routines.length m2] 34)) (Obj.cells #[.int .i64 L1.2.1, .int .i64 L1.2.2] 36)
    simpa using this
  obtain ⟨i0, i1⟩ := cells_blk hI5
  obtain ⟨f0, f1⟩ := cells_blk hF5
  have hl1 := blk_lt hI5
  have hl2 := blk_lt hF5
  have hb25 := hb4.trans (hbW5.mono hb4.size)
  have hb5w := Hb2.out.trans (hb25.mono Hb2.out.size)
  have Hv5 := Lib.hid (Hv3.out.up hb25 hb25.size)
  have HI5 := Lib.hid hI5
  have HG5 := Lib.hid (hg4.up hbW5 hbW5.size)
  have HR5 := Lib.hid (hr4.up hbW5 hbW5.size)
  have Hb5 := Lib.hid hb5w
  have HSh5 := Lib.hid (HSh.out.up hb5w h0)
  have HW5 := Lib.hid hW5.symm
  clear hb4 hg4 hr4 hW5 hbW5 hI5 hF5 hb25 hb5w
  go_upto_region 5 with fail
  rw [HW5.out]
  have hcase : (L1.2.1 ≠ 0 ∧ L1.1.routines.length = 0) ∨ (0 < l.length ∧ (reached (allS l)).2 = [] ∧ ∃ rs, L1 = (⟨kitGlobals_, rs⟩, (0, 0)) ∧ KitImg (allS l) (reached (allS l)).1 rs ∧ 0 < rs.length ∧ rs.length ≤ 40) := by
    rcases Nat.eq_zero_or_pos l.length with hn | hn
    · left
      have e : l = [] := List.eq_nil_of_length_eq_zero hn
      rw [HL1.out, e]
      exact ⟨by rw [none_do.1]; decide, by rw [none_left]; rfl⟩
    · rcases kit_made Hraw.out (by rw [← Hl.out]; exact hn) with ⟨hu, rs, hd, hk, hp, h40⟩ | ⟨hu, a, hd⟩
      · rw [← Hl.out] at hu hd hk
        exact .inr ⟨hn, hu, rs, by rw [HL1.out, hd], hk, hp, h40⟩
      · rw [← Hl.out] at hd
        left
        rw [HL1.out, hd]
        exact ⟨by show (6 : Int) ≠ 0; decide, rfl⟩
  rcases hcase with ⟨hz, hr0⟩ | ⟨hnp, hU, rs, hd, hK, hrp, hr40⟩
  · have hz2 : (L1.2.1 == 0) = false := by simpa using hz
    have hr1 : ((L1.1.routines.length : Int) == 0) = true := by simp [hr0]
    have Hfin := Lib.hid (HR.out _ Hb5.out)
    clear hz
    go_wp2
    exact Hfin.out
  have hnk : 0 < (kitL raw).length := by rw [← Hl.out]; exact hnp
  obtain ⟨hmF, hmO⟩ := metF_good (kit_link Hraw.out hnk) (kit_hasM hnk)
  obtain ⟨hinv, hmet⟩ := reached_met (kit_hasM hnk)
  rw [← Hl.out] at hmF hmO hinv hmet
  subst hd
  simp only at i0 i1 f0 f1
  have HK := Lib.hid hK
  have Hinv := Lib.hid hinv
  have Hmet := Lib.hid hmet
  have HmF := Lib.hid hmF
  have HmO := Lib.hid hmO
  obtain ⟨nms, hnms⟩ : ∃ nms, nms = (reached (allS l)).1 := ⟨_, rfl⟩
  have Hnms := Lib.hid hnms
  have Hnl : Hid (nms.length = rs.length) := Lib.hid (by rw [hnms]; exact hK.len.symm)
  have Hsame : Hid (linkDo (extraO more :: l) = (⟨kitGlobals_, rs⟩, (0, 0))) := Lib.hid (by rw [HL1.out, Hl.out]; exact (left_same Hraw.out hnk Hmo.out).symm)
  clear hmF hmO hinv hmet hK hnms hnk hU
  go_wp2_with fail
  refine Reach_calls l _ _ Hv5.out HSh5.out _ (fun w6 v6 hb6 hv6 => ?_)
  rw [HmO.out, ← Hnms.out] at hv6
  rw [HmF.out]
  obtain ⟨A6, n6, hv6e, _, hcap6, hv6⟩ := hv6.cases_
  rw [Hnl.out] at hv6e hcap6
  subst hv6e
  obtain ⟨W7, hW7⟩ : ∃ W7, W7 = w6.alloc (Obj.cells #[.int .i64 0, .int .i64 0] 36) := ⟨_, rfl⟩
  have hbW7 : Below w6.heap.size w6 W7 := by subst hW7; exact bl0
  have hF7 : W7.heap[w6.heap.size]? = some (.cells #[.int .i64 0, .int .i64 0] 36 (0, 0)) := by subst hW7; exact heap_alloc_new _ _
  have hb57 := hb6.trans (hbW7.mono hb6.size)
  have hI57 := (hb57.block _ (blk_lt HI5.out)).trans HI5.out
  have HI7 := Lib.hid hI57
  have hlI7 := blk_lt hI57
  clear i0 i1 f0 f1
  obtain ⟨i0, i1⟩ := cells_blk hI57
  obtain ⟨g0, g1⟩ := cells_blk hF7
  have hl4 := blk_lt hF7
  have hb7w := Hb5.out.trans (hb57.mono Hb5.out.size)
  have Hb7 := Lib.hid hb7w
  have Hv7 := Lib.hid (Hv5.out.up hb57 hb57.size)
  have HG7 := Lib.hid (HG5.out.up hb57 hb57.size)
  have HR7 := Lib.hid (HR5.out.up hb57 hb57.size)
  have Hn7 := Lib.hid (hv6.up hbW7 hbW7.size)
  have HW7 := Lib.hid hW7.symm
  clear hb6 hv6 hW7 hbW7 hI57 hF7 hb57 hb7w
  go_upto_region 8 with fail
  rw [HW7.out]
  have rp : (1 : Int) ≤ (rs.length : Int) := by omega
  go_wp2_with fail
  clear g0 g1 hl4 i0 i1
  go_loopg [10, 11, 12, 13, 14, 15] (rs.length - 1) (fun gh s10 s11 s12 s13 s14 s15 wr => ∃ i : Nat, 1 ≤ i ∧ i ≤ rs.length ∧ gh = rs.length - i ∧ s10 = .int .i64 (i : Int) ∧ Below W7.heap.size W7 wr)
  case atStart => exact ⟨1, Nat.le_refl _, hrp, rfl, rfl, Below.refl _ _⟩
  case round =>
    obtain ⟨i, hi1, hi2, rfl, rfl, hbel⟩ := hrel
    have Hbel := Lib.hid hbel
    have hz := hbel.size
    obtain ⟨i0, i1⟩ := cells_blk ((hbel.block _ hlI7).trans HI7.out)
    have hlIr : w4.heap.size < wr.heap.size := Nat.lt_of_lt_of_le hlI7 hz
    have k0 : (0 : Int) ≤ (i : Int) := Int.natCast_nonneg _
    clear hbel
    by_cases hlt : i < rs.length
    · have k1 : (i : Int) < (rs.length : Int) := by omega
      obtain ⟨wo, rfl⟩ : ∃ x, x = wr := ⟨_, rfl⟩
      go_wp2_with fail
      clear i0 i1
      go_loopg [11, 12, 13, 14, 15] rs.length (fun gh s11 s12 s13 s14 s15 wr => ∃ k : Nat, k ≤ rs.length ∧ gh = rs.length - k ∧ s12 = .int .i64 (k : Int) ∧ s11 = .bool (calledR i (rs.take k)) ∧ Below W7.heap.size W7 wr)
      case atStart => exact ⟨0, Nat.zero_le _, rfl, rfl, rfl, Hbel.out⟩
      case round =>
        obtain ⟨k, hk, rfl, rfl, rfl, hbel2⟩ := hrel
        have Hbel2 := Lib.hid hbel2
        have hz2 := hbel2.size
        obtain ⟨i0, i1⟩ := cells_blk ((hbel2.block _ hlI7).trans HI7.out)
        have hlI2 : w4.heap.size < wr.heap.size := Nat.lt_of_lt_of_le hlI7 hz2
        have q0 : (0 : Int) ≤ (k : Int) := Int.natCast_nonneg _
        obtain ⟨bb, hbb⟩ : ∃ bb, bb = calledR i (rs.take k) := ⟨_, rfl⟩
        rw [← hbb]
        have Hbb := Lib.hid hbb
        clear hbb
        by_cases hkl : k < rs.length
        · obtain ⟨b, off, r, v1, rfl, hb, e, hc1, p0, p1⟩ := HR7.out.routine_at hkl
          obtain ⟨A8, c8, rfl, _, _, hc1⟩ := hc1.cases_
          have p1' := (hbel2.cell (p := ⟨b, off + k * 2 + 1, none⟩) hb).trans p1
          have q1 : (k : Int) < (rs.length : Int) := by omega
          obtain ⟨_, cd, hread, _, _⟩ := HK.out.each k r e
          have Hread := Lib.hid hread
          have Hst : Hid (calledR i (rs.take (k + 1)) = (bb || calledB i cd)) := Lib.hid (by rw [calledR_step e, hread, ← Hbb.out]; rfl)
          have Hc1 := Lib.hid (hc1.up hbel2 hz2)
          have HShr := Lib.hid (HSh.out.up (Hb7.out.trans (hbel2.mono Hb7.out.size)) h0)
          clear hbel2 p0 p1 e hc1 hread
          go_wp2_with fail
          refine Read_own _ r.code _ Hc1.out HShr.out _ (fun c2 hl w9 u hb9 ho => ?_) (fun hl => by rw [Hread.out] at hl; cases hl)
          obtain rfl : c2 = cd := by
            rw [Hread.out] at hl
            exact (Option.some.inj hl).symm
          obtain ⟨A9, n9, rfl⟩ := own_slice ho
          obtain ⟨WA, hWA⟩ : ∃ WA, WA = w9.alloc (Obj.cells #[.int .i64 0, .int .i64 0] 36) := ⟨_, rfl⟩
          have hbWA : Below w9.heap.size w9 WA := by subst hWA; exact bl0
          have hFA : WA.heap[w9.heap.size]? = some (.cells #[.int .i64 0, .int .i64 0] 36 (0, 0)) := by subst hWA; exact heap_alloc_new _ _
          obtain ⟨g0, g1⟩ := cells_blk hFA
          have hlA := blk_lt hFA
          have hSLc := SLMac_own (own_below ho hbWA) (Nat.le_refl WA.heap.size)
          have HSLc := Lib.hid hSLc
          have hcl : (c2.length : Int) ≤ 9223372036854775807 := by have := hSLc.max; unfold maxLen at this; omega
          have HbA := Lib.hid (Hbel2.out.trans ((hb9.trans (hbWA.mono hb9.size)).mono Hbel2.out.size))
          have HWA := Lib.hid hWA.symm
          clear hb9 ho hl hWA hbWA hFA hSLc p1'
          go_upto_region 18 with fail
          rw [HWA.out]
          go_wp2_with fail
          clear g0 g1
          go_loopg [11, 15] c2.length (fun gh s11 s15 wr => ∃ j : Nat, j ≤ c2.length ∧ gh = c2.length - j ∧ s15 = .int .i64 (j : Int) ∧ s11 = .bool (bb || calledB i (c2.take j)) ∧ Below WA.heap.size WA wr)
          case atStart => exact ⟨0, Nat.zero_le _, rfl, rfl, by simp [calledB], Below.refl _ _⟩
          case round =>
            obtain ⟨j, hj, rfl, rfl, rfl, hbel3⟩ := hrel
            have hz3 := hbel3.size
            have Hbel3 := Lib.hid hbel3
            have r0 : (0 : Int) ≤ (j : Int) := Int.natCast_nonneg _
            obtain ⟨bc, hbc⟩ : ∃ bc, bc = (bb || calledB i (c2.take j)) := ⟨_, rfl⟩
            rw [← hbc]
            have Hbc := Lib.hid hbc
            clear hbc
            by_cases hjl : j < c2.length
            · obtain ⟨b4, o4, m, rfl, hb4, e4, z0, z1, z2, z3, z4⟩ := HSLc.out.mac_at hjl
              have y0 := (hbel3.cell (p := ⟨b4, o4 + j * 5, none⟩) hb4).trans z0
              have y4 := (hbel3.cell (p := ⟨b4, o4 + j * 5 + 4, none⟩) hb4).trans z4
              have hlb4 : b4 < wr.heap.size := by omega
              have r1 : (j : Int) < (c2.length : Int) := by omega
              have Hst3 : Hid ((bb || calledB i (c2.take (j + 1))) = (bc || (decide (m.op = 44) && decide (m.n = (i : Int))))) := Lib.hid (by rw [calledB_step e4, Hbc.out, Bool.or_assoc])
              clear hbel3 z0 z1 z2 z3 z4 e4
              cases bc with
              | true =>
                have Hs := Lib.hid (Hst3.out.trans (Bool.true_or _))
                go_wp2
                go_roundg (c2.length - (j + 1))
                case measure => omega
                case rel => exact ⟨j + 1, hjl, rfl, by go_num, by rw [Hs.out], Hbel3.out⟩
              | false =>
                by_cases h44 : m.op = 44
                · have hb44 : (m.op == 44) = true := by simp [h44]
                  by_cases hni : m.n = (i : Int)
                  · have hbni : (m.n == (i : Int)) = true := by simp [hni]
                    have Hs : Hid ((bb || calledB i (c2.take (j + 1))) = true) := Lib.hid (by rw [Hst3.out, decide_eq_true h44, decide_eq_true hni]; rfl)
                    clear h44 hni
                    go_wp2
                    go_roundg (c2.length - (j + 1))
                    case measure => omega
                    case rel => exact ⟨j + 1, hjl, rfl, by go_num, by rw [Hs.out], Hbel3.out⟩
                  · have hbni : (m.n == (i : Int)) = false := by simp [hni]
                    have Hs : Hid ((bb || calledB i (c2.take (j + 1))) = false) := Lib.hid (by rw [Hst3.out, decide_eq_false hni, Bool.and_false]; rfl)
                    clear h44 hni
                    go_wp2
                    go_roundg (c2.length - (j + 1))
                    case measure => omega
                    case rel => exact ⟨j + 1, hjl, rfl, by go_num, by rw [Hs.out], Hbel3.out⟩
                · have hb44 : (m.op == 44) = false := by simp [h44]
                  have Hs : Hid ((bb || calledB i (c2.take (j + 1))) = false) := Lib.hid (by rw [Hst3.out, decide_eq_false h44]; rfl)
                  clear h44
                  go_wp2
                  go_roundg (c2.length - (j + 1))
                  case measure => omega
                  case rel => exact ⟨j + 1, hjl, rfl, by go_num, by rw [Hs.out], Hbel3.out⟩
            · obtain rfl : j = c2.length := by omega
              have r1 : ¬ (c2.length : Int) < (c2.length : Int) := by omega
              have Hs : Hid (calledR i (rs.take (k + 1)) = bc) := Lib.hid (by rw [Hst.out, Hbc.out, List.take_length])
              have HbE := Lib.hid (HbA.out.trans (hbel3.mono HbA.out.size))
              clear hbel3
              go_wp2
              go_roundg (rs.length - (k + 1))
              case measure => omega
              case rel => exact ⟨k + 1, hkl, rfl, by go_num, by rw [Hs.out], HbE.out⟩
        · obtain rfl : k = rs.length := by omega
          have q1 : ¬ (rs.length : Int) < (rs.length : Int) := by omega
          have hall : bb = true := by
            rw [Hbb.out, List.take_length]
            obtain ⟨k', r', c', e1, e2, x, hx, e3, e4⟩ := HK.out.called Hinv.out Hmet.out hi1 hlt
            refine List.any_eq_true.2 ⟨r', List.mem_of_getElem? e1, ?_⟩
            rw [e2]
            refine List.any_eq_true.2 ⟨x, hx, ?_⟩
            simp [e3, e4]
          subst hall
          obtain ⟨b, off, r, v1, rfl, hb, e, _, p0, p1⟩ := HR7.out.routine_at hlt
          obtain ⟨b6, o6, s, rfl, hb6, e6, p6⟩ := Hn7.out.str_at (k := i) (by rw [Hnl.out]; exact hlt)
          have hsn : s = r.name := by
            obtain ⟨e1, _⟩ := HK.out.each i r e
            rw [← Hnms.out, e6] at e1
            exact Option.some.inj e1
          subst hsn
          have p0' := (hbel2.cell (p := ⟨b, off + i * 2, none⟩) hb).trans p0
          have p6' := (hbel2.cell (p := ⟨b6, o6 + i, none⟩) hb6).trans p6
          have hlb : b < wr.heap.size := by omega
          have hlb6 : b6 < wr.heap.size := by omega
          clear hbel2 p0 p1 p6 e e6
          go_wp2_with fail
          go_quiet (fail)
          have HbQ := Lib.hid (below_drewN Hbel2.out nq)
          go_wp2
          go_roundg (rs.length - (i + 1))
          case measure => omega
          case rel => exact ⟨i + 1, by omega, hlt, rfl, by go_num, HbQ.out⟩
    · obtain rfl : i = rs.length := by omega
      have k1 : ¬ (rs.length : Int) < (rs.length : Int) := by omega
      go_wp2_with fail
      have hb7w := Hb7.out.trans (Hbel.out.mono Hb7.out.size)
      refine KitGlobals_calls _ _ (fun wA gv hbA hgv => ?_)
      obtain ⟨G1, m3, rfl, _, _, hgv⟩ := hgv.cases_
      have hgv' : rpGlobal.SL wA wA.heap.size kitGlobals_ (.slice G1 kitGlobals_.length m3) := hgv.SL
      have hbAw := hb7w.trans (hbA.mono hb7w.size)
      have HbAw := Lib.hid hbAw
      have HbA := Lib.hid hbA
      have HgA := Lib.hid hgv'
      clear hbA hgv hgv' hbAw i0 i1
      go_wp2_with fail
      refine CodeOf_calls more _ 8 0 _ (Hm.out.up HbAw.out HbAw.out.size) Hmo.out (by decide) (by decide) _ (fun wB vc hbB hcod => ?_)
      obtain ⟨C1, d1, rfl⟩ := own_slice hcod
      have HcB := Lib.hid (SLMac_own hcod (Nat.le_refl wB.heap.size))
      have HbB := Lib.hid hbB
      have hcl : (codeOf more 8 0).length ≤ 9 := by rw [codeOf_len]; unfold codeMany; omega
      clear hbB hcod
      go_wp2_with fail
      refine CodeBytes_calls (codeOf more 8 0) _ _ HcB.out (readL_good (code_read Hmo.out)).1 (by omega) _ (fun wC vb hbC hbuf => ?_)
      obtain ⟨C2, d2, rfl⟩ := hbuf.slice
      obtain ⟨cb, hcb⟩ : ∃ cb, cb = codeB (codeOf more 8 0) := ⟨_, rfl⟩
      have Hcb := Lib.hid hcb
      rw [← hcb] at hbuf ⊢
      obtain ⟨WD, hWD⟩ : ∃ WD, WD = (wC.alloc (Obj.cells #[.string ⟨#[101, 120, 116, 114, 97]⟩, .slice C2 cb.length d2, .slice none 0 0] 58)).alloc (Obj.cells #[.slice G1 kitGlobals_.length m3, .slice (some ⟨wC.heap.size, 0, none⟩) 1 1] 27) := ⟨_, rfl⟩
      have hbWD : Below wC.heap.size wC WD := by subst hWD; exact bl0
      have hzD : WD.heap.size = wC.heap.size + 2 := by subst hWD; simp
      have hSD : WD.heap[wC.heap.size]? = some (.cells #[.string ⟨#[101, 120, 116, 114, 97]⟩, .slice C2 cb.length d2, .slice none 0 0] 58 (0, 0)) := by subst hWD; exact blk_alloc (heap_alloc_new _ _) _
      have hOD : WD.heap[wC.heap.size + 1]? = some (.cells #[.slice G1 kitGlobals_.length m3, .slice (some ⟨wC.heap.size, 0, none⟩) 1 1] 27 (0, 0)) := by
        subst hWD
        have := heap_alloc_new (wC.alloc (Obj.cells #[.string ⟨#[101, 120, 116, 114, 97]⟩, .slice C2 cb.length d2, .slice none 0 0] 58)) (Obj.cells #[.slice G1 kitGlobals_.length m3, .slice (some ⟨wC.heap.size, 0, none⟩) 1 1] 27)
        simpa using this
      obtain ⟨o0, o1⟩ := cells_blk hOD
      have hlOD := blk_lt hOD
      have hbAD : Below wA.heap.size wA WD := HbB.out.trans ((hbC.trans (hbWD.mono hbC.size)).mono HbB.out.size)
      have hbRD : Below wr.heap.size wr WD := HbA.out.trans (hbAD.mono HbA.out.size)
      have hobj : rpObject.rep WD WD.heap.size (extraO more) [.slice G1 kitGlobals_.length m3, .slice (some ⟨wC.heap.size, 0, none⟩) 1 1] := by
        refine rpObject_mk (o := extraO more) (HgA.out.up hbAD hbAD.size) ?_
        refine SL_one (cs := [.string ⟨#[101, 120, 116, 114, 97]⟩, .slice C2 cb.length d2, .slice none 0 0]) hSD (by omega) ?_
        refine rpSection_mk (s := ⟨extraB, codeB (codeOf more 8 0), []⟩) ?_ (Rp.SL.nil _ _ _)
        rw [← Hcb.out]
        exact (hbuf.SL (Nat.le_refl _)).up hbWD hbWD.size
      have hb7D : Below W7.heap.size W7 WD := Hbel.out.trans (hbRD.mono Hbel.out.size)
      have hbwD := Hb7.out.trans (hb7D.mono Hb7.out.size)
      obtain ⟨b3, off3, x3, v31, v32, hA3, hb3, _⟩ := Hv7.out.object_at (k := 0) hnp
      subst hA3
      obtain ⟨css3, hc1, hc2, hc3, hc4⟩ := Rp.SL.rows (by decide) Hv7.out
      have hone3 : ∀ u ∈ css3.flatten, u.oneCell' = true := fun u hu => by
        obtain ⟨cs, hcs, hu2⟩ := List.mem_flatten.1 hu
        obtain ⟨j, hj, ej⟩ := List.mem_iff_getElem.1 hcs
        exact rows_oneL (hc3 j _ cs (List.getElem?_eq_getElem (by omega)) (by rw [List.getElem?_eq_getElem hj, ej])) u hu2
      have hown : (WD.alloc (Obj.cells #[.slice G1 kitGlobals_.length m3, .slice (some ⟨wC.heap.size, 0, none⟩) 1 1] 27)).ownsRow WD.heap.size 27 2 (.slice (some ⟨WD.heap.size, 0, none⟩) 1 1) 1 [.slice G1 kitGlobals_.length m3, .slice (some ⟨wC.heap.size, 0, none⟩) 1 1] :=
        ⟨rfl, .inr ⟨WD.heap.size, 1, _, rfl, Nat.le_refl _, heap_alloc_new _ _, Nat.le_refl _, by unfold maxLen; decide, rfl, rfl⟩⟩
      have hnews : ∀ (j : Nat) (u : Value), css3.flatten[j]? = some u → (WD.alloc (Obj.cells #[.slice G1 kitGlobals_.length m3, .slice (some ⟨wC.heap.size, 0, none⟩) 1 1] 27)).cell? ((⟨b3, off3, none⟩ : Addr).add j) = some u := fun j u hj => ((hb7D.alloc hb7D.size _).cell (by rw [addr_block]; exact hb3)).trans (hc4 j u hj)
      have Hown := Lib.hid hown
      have Hnews := Lib.hid hnews
      have Hone3 := Lib.hid hone3
      have Hc1 := Lib.hid hc1
      have Hc2 := Lib.hid hc2
      have Hc3 := Lib.hid hc3
      have Hob := Lib.hid hobj
      have HWD := Lib.hid hWD.symm
      have Hb7D := Lib.hid hb7D
      have HbwD := Lib.hid hbwD
      clear hcb hbC hbuf hWD hbWD hzD hSD hOD hbAD hbRD hobj hb7D hbwD hc1 hc2 hc3 hc4 hone3 hown hnews hb7w
      go_upto_region 27 with fail
      have hkg : kitGlobals.length = kitGlobals_.length := by rfl
      rw [hkg, HWD.out]
      clear hkg
      go_wp2_with (at_builtin; refine wpList_append_lies _ rfl _ _ 29 rfl WD.heap.size 27 iO _ 2 48 Tryd.underlying29 hiO zO0 zO1 zO2 rfl (by decide) (.slice (some ⟨WD.heap.size, 0, none⟩) 1 1) 1 [.slice G1 kitGlobals_.length m3, .slice (some ⟨wC.heap.size, 0, none⟩) 1 1] rfl Hown.out ⟨b3, off3, none⟩ l.length n3 css3.flatten rfl Hc2.out Hnews.out Hone3.out hnp ?_ ?_ ?_ _ rfl ?_)
      any_goals (first | (unfold maxLen; omega) | omega | (simp; done) | (simp; omega))
      intro gb cap w9 hown9 hgrow9 hat9 hlt9
      have hbD9 : Below WD.heap.size WD w9 := ((Below.refl _ _).alloc (Nat.le_refl _) _).grown hgrow9 (by simp) (fun j hj => (Hown.out.lt j hj).1)
      have hsl : rpObject.SL w9 w9.heap.size (extraO more :: l) (.slice (some ⟨gb, 0, none⟩) (1 + l.length) cap) := SL_rows_cons (r := rpObject) (w0 := W7) (w1 := WD) Hc1.out Hc3.out Hob.out (Hb7D.out.trans (hbD9.mono Hb7D.out.size)) hbD9 Hb7D.out.size (Nat.le_refl _) hown9 (by omega)
      have hb9w := HbwD.out.trans (hbD9.mono HbwD.out.size)
      have Hsl := Lib.hid hsl
      have Hb9 := Lib.hid hb9w
      have HbD9 := Lib.hid hbD9
      have HSh9 := Lib.hid (HSh.out.up hb9w h0)
      clear hown9 hgrow9 hat9 hlt9 hbD9 hsl hb9w o0 o1
      go_wp2_with fail
      have hsl2 : rpObject.SL w9 w9.heap.size (extraO more :: l) (.slice (some ⟨gb, 0, none⟩) (1 + l.length) cap) := Hsl.out
      refine Do_calls (extraO more :: l) _ _ hsl2 HSh9.out _ (fun w10 v1 v2 hb10 hg10 hr10 => ?_)
      rw [Hsame.out] at hg10 hr10 ⊢
      obtain ⟨D1, m5, rfl, _, _, hg10⟩ := hg10.cases_
      obtain ⟨D2, m6, rfl, _, _, hr10⟩ := hr10.cases_
      obtain ⟨WE, hWE⟩ : ∃ WE, WE = (w10.alloc (Obj.cells #[.slice D1 kitGlobals_.length m5, .slice D2 rs.length m6] 34)).alloc (Obj.cells #[.int .i64 0, .int .i64 0] 36) := ⟨_, rfl⟩
      have hbWE : Below w10.heap.size w10 WE := by subst hWE; exact bl0
      have hIE : WE.heap[w10.heap.size]? = some (.cells #[.slice D1 kitGlobals_.length m5, .slice D2 rs.length m6] 34 (0, 0)) := by subst hWE; exact blk_alloc (heap_alloc_new _ _) _
      have hFE : WE.heap[w10.heap.size + 1]? = some (.cells #[.int .i64 0, .int .i64 0] 36 (0, 0)) := by
        subst hWE
        have := heap_alloc_new (w10.alloc (Obj.cells #[.slice D1 kitGlobals_.length m5, .slice D2 rs.length m6] 34)) (Obj.cells #[.int .i64 0, .int .i64 0] 36)
        simpa using this
      have hb9E := hb10.trans (hbWE.mono hb10.size)
      have hb7E := Hb7D.out.trans ((HbD9.out.trans (hb9E.mono HbD9.out.size)).mono Hb7D.out.size)
      have HbE := Lib.hid (Hb9.out.trans (hb9E.mono Hb9.out.size))
      have HGE := Lib.hid (hg10.up hbWE hbWE.size)
      have HRE := Lib.hid (hr10.up hbWE hbWE.size)
      have HG7' := Lib.hid (HG7.out.up hb7E hb7E.size)
      have HR7' := Lib.hid (HR7.out.up hb7E hb7E.size)
      have hI7E := (hb7E.block _ hlI7).trans HI7.out
      obtain ⟨i0, i1⟩ := cells_blk hI7E
      obtain ⟨j0, j1⟩ := cells_blk hIE
      obtain ⟨g0, g1⟩ := cells_blk hFE
      have hl1 := blk_lt hI7E
      have hl3 := blk_lt hIE
      have hl5 := blk_lt hFE
      have HWE := Lib.hid hWE.symm
      clear hsl2 hb10 hg10 hr10 hWE hbWE hIE hFE hb9E hb7E hI7E
      go_upto_region 28 with fail
      rw [HWE.out]
      have hq : ∀ w, (binOp .eql 36 (.agg #[.int .i64 0, .int .i64 0]) (.agg #[.int .i64 0, .int .i64 0])).run Tryd.prog w = .ok (.bool true) w := fun w => by rw [eql_Fault]; simp
      go_wp2_with fail
      refine SameImage_calls ⟨kitGlobals_, rs⟩ _ _ _ _ _ HG7'.out HR7'.out HGE.out HRE.out _ (fun w8 hb8 => ?_)
      have Hfin := Lib.hid (HR.out _ (HbE.out.trans (hb8.mono HbE.out.size)))
      clear hb8
      go_wp2
      exact Hfin.out
end Go.Proofs.YtegnemfjcmhncaaDoor
