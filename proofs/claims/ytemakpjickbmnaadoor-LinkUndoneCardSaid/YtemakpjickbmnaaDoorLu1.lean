/- LinkUndone: what is missed is told. -/
import Derived.Test.YtemakpjickbmnaaDoorBase
import Derived.Test.YtemakpjickbmnaaDoorRows
import Derived.IntWalk
import Derived.Outline
import Derived.Deep.LoopGhost
import Derived.Deep.RegionHeld3
import Derived.Deep.RegionLaw
import Derived.Deep.AppendLies
import Derived.Test.YtemakpjickbmnaaDoorLa1
import Derived.Test.YtemakpjickbmnaaDoorLink8
import Derived.Test.YtemakpjickbmnaaDoorMach3
import Derived.Test.YtemakpjickbmnaaDoorFb
import Derived.Test.YtemakpjickbmnaaDoorLuJ
import Derived.Deep.CutBlock
import Derived.Deep.DeepCutAuto
namespace Go.Proofs.YtemakpjickbmnaaDoor
open Go.RowKit
set_option linter.unusedSimpArgs false
set_option linter.unusedVariables false

theorem kitGlob_eq : kitGlobals = kitGlobals_ := rfl
theorem ret_read : readL (codeB [⟨45, 0, 0, 0, 0⟩]) = some [⟨45, 0, 0, 0, 0⟩] := by decide +kernel
theorem ret_good : ∀ m ∈ [(⟨45, 0, 0, 0, 0⟩ : Mac)], GoodMac m := (readL_good ret_read).1
theorem SL_rows_more {α : Type} {r : Rp α} {w0 w1 w7 : World} {base : Nat} {e : TypeId} {xs : List α} {x : α} {css : List (List Value)} {cs : List Value} {g n cap : Nat}
    (hl : css.length = xs.length) (he : ∀ (k : Nat) x cs, xs[k]? = some x → css[k]? = some cs → r.rep w0 w0.heap.size x cs) (hx : r.rep w1 w1.heap.size x cs) (hb0 : Below w0.heap.size w0 w7) (hb1 : Below w1.heap.size w1 w7) (h0 : w0.heap.size ≤ base) (h1 : w1.heap.size ≤ base)
    (hown : w7.ownsRow base e r.size (.slice (some ⟨g, 0, none⟩) n cap) n (css.flatten ++ cs)) (hn : n = xs.length + 1) : r.SL w7 w7.heap.size (xs ++ [x]) (.slice (some ⟨g, 0, none⟩) n cap) := by
  have hg := (hown.lt g rfl).1
  have hb : Built r base e (fun _ => False) w7 (.slice (some ⟨g, 0, none⟩) n cap) (xs ++ [x]) (css ++ [cs]) := by
    refine ⟨by simp [hl], ?_, fun k y ds hk hd => ?_, fun _ h => h.elim⟩
    · rw [List.length_append, List.length_singleton, ← hn, List.flatten_append]
      simpa using hown
    · rcases Nat.lt_or_ge k xs.length with hlt | hge
      · rw [List.getElem?_append_left hlt] at hk
        rw [List.getElem?_append_left (by omega)] at hd
        exact Apart.of_old (he k y ds hk hd) hb0.size hb0 (fun _ h => h.elim) (fun j hj => by obtain rfl : g = j := Option.some.inj hj; omega)
      · rw [List.getElem?_append_right hge] at hk
        rw [List.getElem?_append_right (by omega), hl] at hd
        rcases Nat.eq_zero_or_pos (k - xs.length) with e0 | e0
        · rw [e0] at hk hd
          simp at hk hd
          subst hk hd
          exact Apart.of_old hx hb1.size hb1 (fun _ h => h.elim) (fun j hj => by obtain rfl : g = j := Option.some.inj hj; omega)
        · rw [List.getElem?_eq_none (by simp; omega)] at hk
          cases hk
  exact hb.SL (Nat.le_refl _)
theorem rows_one {w : World} {B : Nat} {o : Object} {cs : List Value} (h : rpObject.rep w B o cs) : ∀ u ∈ cs, u.oneCell' = true := by
  obtain ⟨v1, v2, rfl, h1, h2⟩ := rpObject_rep h
  obtain ⟨A1, n1, rfl, _⟩ := h1.cases_
  obtain ⟨A2, n2, rfl, _⟩ := h2.cases_
  intro u hu
  simp at hu
  rcases hu with rfl | rfl <;> rfl
theorem size_drew (w : World) : w.drew.heap.size = w.heap.size := rfl
theorem take_snoc_at {α : Type} {l : List α} {k : Nat} {x : α} (h : l[k]? = some x) : l.take (k + 1) = l.take k ++ [x] := by
  obtain ⟨hk, e⟩ := List.getElem?_eq_some_iff.1 h
  rw [List.take_succ_eq_append_getElem hk, e]
set_option maxRecDepth 100000 in
set_option maxHeartbeats 8000000 in
theorem LinkUndone_calls (raw : List (List Int)) (v : Value) (w : World) (h : rpInt.slice.SL w w.heap.size raw v) (hraw : ∀ l ∈ raw, ∀ x ∈ l, I64 x) (hS : Shapes w) (R : Ending → World → Prop)
    (hR : ∀ w', Below w.heap.size w w' → R (.returned (.bool true)) w') :
    Calls Tryd.prog 6 #[v] w R := by
  have h0 := hS.1
  obtain ⟨iO, hiO, zO0, zO1, zO2⟩ := info_parts info_ObjectK
  obtain ⟨iS, hiS, zS0, zS1, zS2⟩ := info_parts info_Section
  obtain ⟨A, c, rfl, hm, hcap, h⟩ := h.cases_
  have HR := Lib.hid hR
  have H := Lib.hid h
  have Hraw := Lib.hid hraw
  have HSh := Lib.hid hS
  obtain ⟨l, hl⟩ : ∃ l, l = kitL raw := ⟨_, rfl⟩
  have Hl := Lib.hid hl
  have h6 : l.length ≤ 6 := by rw [hl]; unfold kitL; rw [bunL_len]; exact kit_secs raw
  clear hR h hraw hl hS
  go_enter Tryd.func6, Tryd.ntmps6
  go_wp2_with fail
  refine linkSure_calls _ HSh.out _ (fun wa hba => ?_)
  have Hba := Lib.hid hba
  clear hba
  go_wp2_with fail
  refine bundled_calls raw _ _ (H.out.up Hba.out Hba.out.size) Hraw.out _ (fun w2 v3 hb2 hv3 => ?_)
  rw [← Hl.out] at hv3
  obtain ⟨A3, n3, rfl, _, hcap3, hv3⟩ := hv3.cases_
  have Hv3 := Lib.hid hv3
  have Hb2 := Lib.hid (Hba.out.trans (hb2.mono Hba.out.size))
  have HSh2 := Lib.hid (HSh.out.up Hb2.out h0)
  clear hb2 hv3
  rcases Nat.eq_zero_or_pos l.length with hn0 | hnp
  · have z0 : ((l.length : Int) == 0) = true := by simp [hn0]
    have Hfin := Lib.hid (HR.out _ Hb2.out)
    go_wp2
    exact Hfin.out
  have z0 : ((l.length : Int) == 0) = false := by simp; intro h; rw [h] at hnp; simp at hnp
  have hnk : 0 < (kitL raw).length := by rw [← Hl.out]; exact hnp
  obtain ⟨hmF, hmO⟩ := metF_good (kit_link Hraw.out hnk) (kit_hasM hnk)
  rw [← Hl.out] at hmF hmO
  obtain ⟨U, hU⟩ : ∃ U, U = (reached (allS l)).2 := ⟨_, rfl⟩
  obtain ⟨L1, hL1⟩ : ∃ L1, L1 = linkDo l := ⟨_, rfl⟩
  have hb : ∃ bz : Bool, (L1.2.1 == 0) = bz ∧ ((U.length : Int) == 0) = bz ∧ decide ((0 : Int) < (L1.1.routines.length : Int)) = bz := by
    rcases kit_made Hraw.out hnk with ⟨hu, rs, hd, _, hp, _⟩ | ⟨hu, a, hd⟩
    · rw [← Hl.out] at hu hd
      refine ⟨true, ?_, ?_, ?_⟩
      · rw [hL1, hd]; rfl
      · rw [hU, hu]; rfl
      · rw [hL1, hd]; simp; omega
    · rw [← Hl.out] at hu hd
      refine ⟨false, ?_, ?_, ?_⟩
      · rw [hL1, hd]; rfl
      · rw [hU]; simp; exact hu
      · rw [hL1, hd]; simp
  obtain ⟨bz, b1, b2, b3⟩ := hb
  have b3n : decide (0 < L1.1.routines.length) = bz := by rw [← b3]; simp
  have hU2 : U.length ≤ 1 := by
    rcases und_two hnk with h | h <;> rw [hU, Hl.out, h] <;> simp
  have HL1 := Lib.hid hL1
  have HU := Lib.hid hU
  have HmF := Lib.hid hmF
  have HmO := Lib.hid hmO
  have Hmore : Hid (∃ rs, linkDo (l ++ [moreO U]) = (⟨kitGlobals_, rs⟩, (0, 0)) ∧ ImgOk ⟨kitGlobals_, rs⟩) := Lib.hid (by rw [hU, Hl.out]; exact more_link Hraw.out hnk)
  clear hL1 hU hmF hmO hnk
  go_wp2_with fail
  refine Do_calls l _ _ Hv3.out HSh2.out _ (fun w4 v1 v2 hb4 hg4 hr4 => ?_)
  rw [← HL1.out] at hg4 hr4 ⊢
  obtain ⟨B1, m1, rfl, _, _, hg4⟩ := hg4.cases_
  obtain ⟨B2, m2, rfl, _, _, hr4⟩ := hr4.cases_
  obtain ⟨W5, hW5⟩ : ∃ W5, W5 = (w4.alloc (Obj.cells #[.slice B1 L1.1.globals.length m1, .slice B2 L1.1.routines.length m2] 50)).alloc (Obj.cells #[.int .i64 L1.2.1, .int .i64 L1.2.2] 25) := ⟨_, rfl⟩
  have hbW5 : Below w4.heap.size w4 W5 := by subst hW5; exact bl0
  have hI5 : W5.heap[w4.heap.size]? = some (.cells #[.slice B1 L1.1.globals.length m1, .slice B2 L1.1.routines.length m2] 50 (0, 0)) := by subst hW5; exact blk_alloc (heap_alloc_new _ _) _
  have hF5 : W5.heap[w4.heap.size + 1]? = some (.cells #[.int .i64 L1.2.1, .int .i64 L1.2.2] 25 (0, 0)) := by
    subst hW5
    have := heap_alloc_new (w4.alloc (Obj.cells #[.slice B1 L1.1.globals.length m1, .slice B2 L1.1.routines.length m2] 50)) (Obj.cells #[.int .i64 L1.2.1, .int .i64 L1.2.2] 25)
    simpa using this
  have hb25 := hb4.trans (hbW5.mono hb4.size)
  have hb5w := Hb2.out.trans (hb25.mono Hb2.out.size)
  have Hv5 := Lib.hid (Hv3.out.up hb25 hb25.size)
  have HI5 := Lib.hid hI5
  have HF5 := Lib.hid hF5
  have Hb5 := Lib.hid hb5w
  have HSh5 := Lib.hid (HSh.out.up hb5w h0)
  have HW5 := Lib.hid hW5.symm
  clear hb4 hg4 hr4 hW5 hbW5 hI5 hF5 hb25 hb5w
  go_upto_region 7 with fail
  rw [HW5.out]
  go_wp2_with fail
  refine Undone_calls l _ _ Hv5.out HSh5.out _ (fun w6 v6 hb6 hv6 => ?_)
  rw [HmO.out, ← HU.out] at hv6
  rw [HmF.out]
  obtain ⟨A6, n6, rfl, _, hcap6, hv6⟩ := hv6.cases_
  obtain ⟨W7, hW7⟩ : ∃ W7, W7 = w6.alloc (Obj.cells #[.int .i64 0, .int .i64 0] 25) := ⟨_, rfl⟩
  have hbW7 : Below w6.heap.size w6 W7 := by subst hW7; exact bl0
  have hF7 : W7.heap[w6.heap.size]? = some (.cells #[.int .i64 0, .int .i64 0] 25 (0, 0)) := by subst hW7; exact heap_alloc_new _ _
  have hb57 := hb6.trans (hbW7.mono hb6.size)
  have hI57 := (hb57.block _ (blk_lt HI5.out)).trans HI5.out
  have hF57 := (hb57.block _ (blk_lt HF5.out)).trans HF5.out
  obtain ⟨i0, i1⟩ := cells_blk hI57
  obtain ⟨f0, f1⟩ := cells_blk hF57
  obtain ⟨g0, g1⟩ := cells_blk hF7
  have hl1 := blk_lt hI57
  have hl2 := blk_lt hF57
  have hl4 := blk_lt hF7
  have hb7w := Hb5.out.trans (hb57.mono Hb5.out.size)
  have Hb7 := Lib.hid hb7w
  have Hv7 := Lib.hid (Hv5.out.up hb57 hb57.size)
  have Hn7 := Lib.hid (hv6.up hbW7 hbW7.size)
  have HW7 := Lib.hid hW7.symm
  clear hb6 hv6 hW7 hbW7 hI57 hF57 hF7 hb57 hb7w
  go_upto_region 8 with fail
  rw [HW7.out]
  obtain ⟨e1c, he1⟩ : ∃ x, x = L1.2.1 := ⟨_, rfl⟩
  rw [← he1] at f0 b1
  clear he1
  go_wp2_with fail
  refine KitGlobals_calls _ _ (fun w8 gv hb8 hgv => ?_)
  rw [kitGlob_eq] at hgv
  obtain ⟨G1, m3, rfl, _, _, hgv⟩ := hgv.cases_
  obtain ⟨W9, hW9⟩ : ∃ W9, W9 = w8.alloc (Obj.cells #[.slice G1 kitGlobals_.length m3, .slice none 0 0] 66) := ⟨_, rfl⟩
  have hbW9 : Below w8.heap.size w8 W9 := by subst hW9; exact bl0
  have hM9 : W9.heap[w8.heap.size]? = some (.cells #[.slice G1 kitGlobals_.length m3, .slice none 0 0] 66 (0, 0)) := by subst hW9; exact heap_alloc_new _ _
  have hb79 := hb8.trans (hbW9.mono hb8.size)
  have Hb9 := Lib.hid (Hb7.out.trans (hb79.mono Hb7.out.size))
  have Hv9 := Lib.hid (Hv7.out.up hb79 hb79.size)
  have Hn9 := Lib.hid (Hn7.out.up hb79 hb79.size)
  have HG9 := Lib.hid (hgv.SL.up hbW9 hbW9.size)
  have HM9 := Lib.hid hM9
  have hlM := blk_lt hM9
  have HW9 := Lib.hid hW9.symm
  have Hz8 : Hid (∀ k, k < W7.heap.size → k < w8.heap.size) := Lib.hid fun k hk => by have := hb8.size; omega
  have HnB : Hid (rpStr.SL W7 W7.heap.size U (.slice A6 U.length n6)) := Hn7
  have Hb79 := Lib.hid hb79
  have Hb8s := Lib.hid hb8.size
  have HgB := Lib.hid hgv.SL
  have Hb89 := Lib.hid hbW9
  clear hb8 hgv hW9 hbW9 hM9 hb79 i0 i1 f0 f1 g0 g1
  go_upto_region 11 with fail
  rw [HW9.out]
  go_wp2_with fail
  go_loopg [9] U.length (fun gh s9 wr => ∃ (k : Nat) (vS : Value) (css : List (List Value)), k ≤ U.length ∧ gh = U.length - k ∧ s9 = .int .i64 (k : Int) ∧ Fb rpSection 71 66 (fun u => #[.slice G1 kitGlobals_.length m3, u]) w8.heap.size W9 wr vS ((U.take k).map retS) css)
  case atStart => exact ⟨0, _, _, Nat.zero_le _, rfl, rfl, Fb.begin HM9.out⟩
  case round =>
    obtain ⟨k, vS, css, hk, rfl, rfl, hfb⟩ := hrel
    have hlen : ((U.take k).map retS).length = k := by rw [List.length_map, List.length_take]; omega
    obtain ⟨A2, n2, hv2⟩ := own_slice hfb.bu.own
    rw [hlen] at hv2
    subst hv2
    obtain ⟨o0, o1⟩ := cells_blk hfb.gb
    have oz : ∀ j, wr.frozen? ⟨w8.heap.size, j, none⟩ = false := fun j => by simp [World.frozen?, hfb.gb]
    have hlG := blk_lt hfb.gb
    have Hfb := Lib.hid hfb
    have hle9 : W9.heap.size ≤ wr.heap.size := hfb.gr.size
    have k0 : (0 : Int) ≤ (k : Int) := Int.natCast_nonneg _
    have Hlen := Lib.hid hlen
    clear hfb hlen
    by_cases hlt : k < U.length
    · obtain ⟨b, off, nm, rfl, hb, e, q0⟩ := HnB.out.str_at hlt
      have hbr : wr.heap[b]? = W7.heap[b]? := (Hfb.out.gr.block b (by have := Hb79.out.size; omega) (by have := Hz8.out b hb; omega)).trans (Hb79.out.block b hb)
      have p0 := (World.cell?_of_block (a := ⟨b, off + k, none⟩) hbr).trans q0
      have k1 : (k : Int) < (U.length : Int) := by omega
      have k2 : k ≤ 1 := by omega
      have Hst : Hid ((U.take (k + 1)).map retS = (U.take k).map retS ++ [retS nm]) := Lib.hid (by rw [take_snoc_at e, List.map_append]; rfl)
      have hlb : b < wr.heap.size := by have := Hz8.out b hb; omega
      have HSLm : Hid (rpMac.SL (wr.alloc (Obj.cells #[.int .i64 45, .int .i64 0, .int .i64 0, .int .i64 0, .int .i64 0] 36)) (wr.alloc (Obj.cells #[.int .i64 45, .int .i64 0, .int .i64 0, .int .i64 0, .int .i64 0] 36)).heap.size [⟨45, 0, 0, 0, 0⟩] (.slice (some ⟨wr.heap.size, 0, none⟩) 1 1)) := Lib.hid (SLMac_own (base := wr.heap.size) (e := 36) ⟨rfl, .inr ⟨wr.heap.size, 1, _, rfl, Nat.le_refl _, heap_alloc_new _ _, Nat.le_refl _, by unfold maxLen; decide, rfl, rfl⟩⟩ (Nat.le_refl _))
      obtain ⟨cb, hcb⟩ : ∃ cb, cb = codeB [⟨45, 0, 0, 0, 0⟩] := ⟨_, rfl⟩
      have Hcb := Lib.hid hcb
      clear hcb
      have HPush : Hid (∀ (w5 : World) (A5 : Option Addr) (c5 : Nat), Below (wr.alloc (Obj.cells #[.int .i64 45, .int .i64 0, .int .i64 0, .int .i64 0, .int .i64 0] 36)).heap.size (wr.alloc (Obj.cells #[.int .i64 45, .int .i64 0, .int .i64 0, .int .i64 0, .int .i64 0] 36)) w5 → Buf w5 (wr.alloc (Obj.cells #[.int .i64 45, .int .i64 0, .int .i64 0, .int .i64 0, .int .i64 0] 36)).heap.size (.slice A5 cb.length c5) cb →
          w5.cell? ⟨w8.heap.size, 1, none⟩ = some (.slice A2 k n2) ∧ w5.cell? ⟨b, off + k, none⟩ = some (.string nm) ∧ (w5.alloc (Obj.cells #[.string nm, .slice A5 cb.length c5, .slice none 0 0] 71)).ownsRow W9.heap.size 71 3 (.slice A2 k n2) k css.flatten ∧ W9.heap.size ≤ w5.heap.size ∧
          ∀ g cap w7, w7.ownsRow W9.heap.size 71 3 (.slice (some ⟨g, 0, none⟩) (k + 1) cap) (k + 1) (css.flatten ++ [.string nm, .slice A5 cb.length c5, .slice none 0 0]) → (w5.alloc (Obj.cells #[.string nm, .slice A5 cb.length c5, .slice none 0 0] 71)).grownBy w7 (Value.slice A2 k n2).ownBlock → ((Value.slice A2 k n2).ownBlock = some g ∨ g = w5.heap.size + 1) →
            w7.cell? ⟨w8.heap.size, 1, none⟩ = some (.slice A2 k n2) ∧ w7.frozen? ⟨w8.heap.size, 1, none⟩ = false ∧ w8.heap.size < w7.heap.size ∧ w7.cell? ⟨b, off + k, none⟩ = some (.string nm) ∧ Fb rpSection 71 66 (fun u => #[.slice G1 kitGlobals_.length m3, u]) w8.heap.size W9 (w7.setCell ⟨w8.heap.size, 1, none⟩ (.slice (some ⟨g, 0, none⟩) (k + 1) cap)) (.slice (some ⟨g, 0, none⟩) (k + 1) cap) ((U.take (k + 1)).map retS) (css ++ [[.string nm, .slice A5 cb.length c5, .slice none 0 0]])) := Lib.hid fun w5 A5 c5 hb5 hbuf5 => by
        have hbr5 : Below wr.heap.size wr w5 := ((Below.refl _ _).alloc (Nat.le_refl _) _).trans (hb5.mono (by simp))
        have hf5 := Hfb.out.take hbr5
        have hown5 := (hf5.bu.alloc (Obj.cells #[.string nm, .slice A5 cb.length c5, .slice none 0 0] 71)).own
        rw [Hlen.out] at hown5
        have hnb : (Value.slice A2 k n2).ownBlock ≠ some b := fun e => by have := (Hfb.out.bu.own.lt b e).1; have := Hz8.out b hb; omega
        refine ⟨(cells_blk hf5.gb).2, (hbr5.cell (p := ⟨b, off + k, none⟩) hlb).trans p0, hown5, Nat.le_trans hle9 hbr5.size, fun g cap w7 h1 h2 h3 => ?_⟩
        have hap : Apart rpSection (fun b => b < W9.heap.size) (w5.alloc (Obj.cells #[.string nm, .slice A5 cb.length c5, .slice none 0 0] 71)) (.slice A2 k n2) (retS nm) [.string nm, .slice A5 cb.length c5, .slice none 0 0] := by
          refine Apart.of_only (base := (wr.alloc (Obj.cells #[.int .i64 45, .int .i64 0, .int .i64 0, .int .i64 0, .int .i64 0] 36)).heap.size) (rpSection_mk ?_ (Rp.SL.nil _ _ _)) (fun j hj => by simp; omega) (fun j hj => by have := (Hfb.out.bu.own.lt j hj).2; simp; omega)
          show rpByte.SL _ _ (codeB [⟨45, 0, 0, 0, 0⟩]) _
          rw [← Hcb.out]
          have hk5 : Buf (only (w5.alloc (Obj.cells #[.string nm, .slice A5 cb.length c5, .slice none 0 0] 71)) fun j => decide ((wr.alloc (Obj.cells #[.int .i64 45, .int .i64 0, .int .i64 0, .int .i64 0, .int .i64 0] 36)).heap.size ≤ j)) (wr.alloc (Obj.cells #[.int .i64 45, .int .i64 0, .int .i64 0, .int .i64 0, .int .i64 0] 36)).heap.size (.slice A5 cb.length c5) cb := (hbuf5.alloc _).keep fun j hj hl => only_heap _ _ _ (by have := (hbuf5.lt j hj).1; simpa using this)
          exact hk5.SL (by rw [only_size]; exact Nat.le_refl _)
        obtain ⟨e1, e2⟩ := hf5.push hlM (Obj.cells #[.string nm, .slice A5 cb.length c5, .slice none 0 0] 71) (j := 1) (n := k + 1) (cap := cap) (fun _ _ => rfl) hap h1 (by rw [Hlen.out]) h2 (by simpa using h3)
        refine ⟨(cells_blk e1).2, by simp [World.frozen?, e1], blk_lt e1, ?_, by rw [Hst.out]; exact e2⟩
        refine (World.cell?_of_block (h2.block b (by simp; have := hbr5.size; omega) (fun e => hnb e.symm))).trans ?_
        exact (World.cell?_of_block (Below.heap_alloc _ _ _ (by have := hbr5.size; show b < _; omega))).trans ((hbr5.cell (p := ⟨b, off + k, none⟩) hlb).trans p0)
      clear q0 hbr e
      go_wp2_with fail
      go_region_law (first
        | (go_simp; go_at_call 28; with_reducible refine CodeBytes_calls [⟨45, 0, 0, 0, 0⟩] _ _ (by first | with_reducible exact HSLm.out | with_reducible exact HSLm.out.up (Below.refl _ _).drew (Nat.le_refl _)) ret_good (by decide) _ ?_; intro w5 v5 hb5 hbuf5; rw [← Hcb.out] at hbuf5; (try rw [size_drew] at hbuf5); obtain ⟨A5, c5, rfl⟩ := hbuf5.slice; obtain ⟨s5, t5, ow5, lw5, hp5⟩ := HPush.out w5 A5 c5 (by first | with_reducible exact hb5 | with_reducible exact below_of_drew hb5) hbuf5; have Hp5 := Lib.hid hp5; have Ow5 := Lib.hid ow5; have lb5 : b < w5.heap.size := (by have := hb5.size; simp at this; omega); have lg5 : w8.heap.size < w5.heap.size := (by omega); clear hb5 hbuf5 hp5 ow5; go_wp2_with fail)
        | (refine step_append_lies _ rfl (.tmp 60) (.tmp 69) 64 rfl W9.heap.size 71 iS _ 3 64 Tryd.underlying64 hiS zS0 zS1 zS2 rfl (by decide) (.slice A2 k n2) k css.flatten (by simp [Act.eval, Act.put]) Ow5.out ⟨w5.heap.size, 0, none⟩ 1 1 [.string nm, .slice A5 cb.length c5, .slice none 0 0] (by simp [Act.eval, Act.put]) (by rfl) (World.news_of_block (cs := #[.string nm, .slice A5 cb.length c5, .slice none 0 0]) (t := 71) (fr := (0, 0)) (heap_alloc_new _ _)) (by simp [Value.oneCell']) (by omega) (by unfold maxLen; omega) (by omega) (by simp; omega) (w5.heap.size + 1) (by simp) ?_; intro g cap w7 hown7 hgrow7 hat7 hlt7; obtain ⟨s7, z7, l7, t7, hf7⟩ := Hp5.out g cap w7 hown7 hgrow7 hat7; have Hf7 := Lib.hid hf7; clear hown7 hgrow7 hat7 hlt7 hf7))
      all_goals
        go_wp2
        go_roundg (U.length - (k + 1))
        case measure => omega
        case rel => exact ⟨k + 1, _, _, hlt, rfl, by go_num, Hf7.out⟩
    · obtain rfl : k = U.length := by omega
      have k1 : ¬ (U.length : Int) < (U.length : Int) := by omega
      have hb7r : Below W7.heap.size W7 wr := Hb79.out.trans (Hfb.out.gr.below (B := W7.heap.size) (fun j hj e => by have := Hb8s.out; omega) Hb79.out.size)
      have hmore : rpObject.rep wr wr.heap.size (moreO U) [.slice G1 kitGlobals_.length m3, .slice A2 U.length n2] := by
        refine rpObject_mk (o := moreO U) ?_ ?_
        · have h1 : Below w8.heap.size W9 wr := Hfb.out.gr.below (fun j hj e => by omega) (by omega)
          exact HgB.out.up ((Hb89.out.trans h1)) (Nat.le_trans (by omega) hle9)
        · have := Hfb.out.bu.SL (Nat.le_refl wr.heap.size)
          rw [List.take_length] at this
          exact this
      obtain ⟨b3, off3, x3, v31, v32, hA3, hb3, _⟩ := Hv7.out.object_at (k := 0) hnp
      subst hA3
      obtain ⟨css3, hc1, hc2, hc3, hc4⟩ := Rp.SL.rows (by decide) Hv7.out
      have hone3 : ∀ u ∈ css3.flatten, u.oneCell' = true := fun u hu => by
        obtain ⟨cs, hcs, hu2⟩ := List.mem_flatten.1 hu
        obtain ⟨j, hj, ej⟩ := List.mem_iff_getElem.1 hcs
        exact rows_one (hc3 j _ cs (List.getElem?_eq_getElem (by omega)) (by rw [List.getElem?_eq_getElem hj, ej])) u hu2
      have HN : Hid (∀ W, Below W7.heap.size W7 W → ∀ (j : Nat) (u : Value), css3.flatten[j]? = some u → W.cell? ((⟨b3, off3, none⟩ : Addr).add j) = some u) := Lib.hid fun W hW j u hj => (hW.cell (by rw [addr_block]; exact hb3)).trans (hc4 j u hj)
      have HBd : Hid (Below wr.heap.size wr wr.drew) := Lib.hid (Below.refl _ _).drew
      have HBa : Hid (Below wr.heap.size wr (wr.alloc (Obj.cells #[.slice G1 kitGlobals_.length m3, .slice A2 U.length n2] 66)).drew) := Lib.hid ((Below.refl _ _).alloc (Nat.le_refl _) _).drew
      have HN0 := Lib.hid (HN.out wr.drew (hb7r.trans (HBd.out.mono hb7r.size)))
      have HN1 := Lib.hid (HN.out (wr.alloc (Obj.cells #[.slice G1 kitGlobals_.length m3, .slice A2 U.length n2] 66)).drew (hb7r.trans (HBa.out.mono hb7r.size)))
      have Hc1 := Lib.hid hc1
      have Hc2 := Lib.hid hc2
      have Hc3 := Lib.hid hc3
      have Hone3 := Lib.hid hone3
      have Hmr := Lib.hid hmore
      have HMr := Lib.hid Hfb.out.gb
      have Hb7r := Lib.hid hb7r
      have HbR := Lib.hid (Hb7.out.trans (hb7r.mono Hb7.out.size))
      have HOB : Hid ((wr.alloc (Obj.cells #[.slice G1 kitGlobals_.length m3, .slice A2 U.length n2] 66)).drew.heap[wr.heap.size]? = some (.cells #[.slice G1 kitGlobals_.length m3, .slice A2 U.length n2] 66 (0, 0))) := Lib.hid (blk_drew (heap_alloc_new _ _))
      obtain ⟨L3, hL3⟩ : ∃ L3, L3 = linkDo (l ++ [moreO U]) := ⟨_, rfl⟩
      have HL3 := Lib.hid hL3
      have HSLf : Hid (∀ (w7 : World) (g cap : Nat), Below wr.heap.size wr w7 → w7.ownsRow wr.heap.size 66 2 (.slice (some ⟨g, 0, none⟩) (0 + l.length + 1) cap) (0 + l.length + 1) ([] ++ css3.flatten ++ [.slice G1 kitGlobals_.length m3, .slice A2 U.length n2]) → rpObject.SL w7 w7.heap.size (l ++ [moreO U]) (.slice (some ⟨g, 0, none⟩) (l.length + 1) cap)) := Lib.hid fun w7 g cap hb7 how => by
        rw [Nat.zero_add] at how
        exact SL_rows_more (r := rpObject) (w0 := W7) (w1 := wr) Hc1.out Hc3.out Hmr.out (Hb7r.out.trans (hb7.mono Hb7r.out.size)) hb7 Hb7r.out.size (Nat.le_refl _) how rfl
      clear hc1 hc2 hc3 hc4 hone3 hmore hb7r hL3 oz
      obtain ⟨rs, hd, hok⟩ := Hmore.out
      have Hd := Lib.hid hd
      have Hok := Lib.hid hok
      have hcl : css3.flatten.length = l.length * 2 := Hc2.out
      have Hcl := Lib.hid hcl
      clear hd hok hcl
      go_upto_region 15 with fail
      go_cut [10, 11] (fun s10 s11 wx => ∃ (p q : Nat) (v1 v2 : Value), s10 = .pointer (some ⟨p, 0, none⟩) ∧ s11 = .pointer (some ⟨q, 0, none⟩) ∧ Hid (Below wr.heap.size wr wx) ∧ Hid (wx.heap[p]? = some (.cells #[v1, v2] 50 (0, 0))) ∧ Hid (wx.heap[q]? = some (.cells #[.int .i64 0, .int .i64 0] 25 (0, 0))) ∧ Hid (rpGlobal.SL wx wx.heap.size kitGlobals_ v1) ∧ Hid (rpRoutine.SL wx wx.heap.size rs v2))
      case first =>
        rename_i J K' hJ hK
        refine lu_region (by kernel_rfl) (.slice (some ⟨b3, off3, none⟩) l.length n3) l.length (.slice G1 kitGlobals_.length m3) (.slice A2 U.length n2) css3.flatten (fun W v => rpObject.SL W W.heap.size (l ++ [moreO U]) v) (fun w w' v hb h => h.up hb hb.size) kitGlobals_ rs (edges_ok (by decide +kernel)) ?_ ?_
        · intro p q v1 v2 li a w' i hz H hi
          obtain ⟨hun, o, ho, hall⟩ := mem_ready.1 hi
          have hi13 : i < 13 := (Array.getElem?_eq_some_iff.1 ho).1
          have hdn := getD_none hun

          rcases (show i = 0 ∨ i = 1 ∨ i = 2 ∨ i = 3 ∨ i = 4 ∨ i = 5 ∨ i = 6 ∨ i = 7 ∨ i = 8 ∨ i = 9 ∨ i = 10 ∨ i = 11 ∨ i = 12 by omega) with rfl | rfl | rfl | rfl | rfl | rfl | rfl | rfl | rfl | rfl | rfl | rfl | rfl
          · cases ho
            exact wpOp_of rfl rfl (lu0 H (by simp) rfl rfl rfl)
          · cases ho
            exact wpOp_of rfl rfl (lu1 H (by simp) (hall { on := 0, ground := .data } (by simp) rfl) rfl Hcl.out (fun W hW => HN.out W (Hb7r.out.trans (hW.mono Hb7r.out.size))) Hone3.out hnp h6 rfl rfl)
          · cases ho
            exact wpOp_of rfl rfl (lu2 H (by simp) (M := w8.heap.size) rfl HMr.out rfl rfl)
          · cases ho
            exact wpOp_of rfl rfl (lu3 H (by simp) (hall { on := 2, ground := .data } (by simp) rfl) rfl rfl)
          · cases ho
            exact wpOp_of rfl rfl (lu4 H (by simp) (hall { on := 1, ground := .data } (by simp) rfl) (hall { on := 3, ground := .data } (by simp) rfl) hdn rfl rfl h6 (fun w' g cap hb how => HSLf.out w' g cap hb (by rw [Nat.zero_add]; exact how)) rfl rfl)
          · cases ho
            exact wpOp_of rfl rfl (lu5 H (by simp) (hall { on := 4, ground := .data } (by simp) rfl) hdn ⟨Tryd.f25, Tryd.func25, by kernel_rfl, by kernel_rfl⟩ (fun w' v R hb hv hR => Do_callsF (l ++ [moreO U]) v w' hv (HSh.out.up (HbR.out.trans (hb.mono HbR.out.size)) h0) R (fun w'' u1 u2 hb2 h1 h2 => by
              rw [Hd.out] at h1 h2 ⊢
              exact hR w'' u1 u2 hb2 h1 h2)) rfl rfl)
          · cases ho
            exact wpOp_of rfl rfl (lu6 H (by simp) (hall { on := 5, ground := .data } (by simp) rfl) rfl rfl)
          · cases ho
            exact wpOp_of rfl rfl (lu7 H (by simp) (hall { on := 6, ground := .data } (by simp) rfl) rfl rfl)
          · cases ho
            exact wpOp_of rfl rfl (lu8 H (by simp) (hall { on := 6, ground := .data } (by simp) rfl) rfl rfl)
          · cases ho
            have h11 : li.getD 11 false = false := by
              cases h : li.getD 11 false with
              | false => rfl
              | true =>
                have h9 := H.o9 h
                rw [hdn] at h9
                cases h9
            exact wpOp_of rfl rfl (lu9 H (by simp) hdn h11 rfl rfl)
          · cases ho
            exact wpOp_of rfl rfl (lu10 H (by simp) rfl rfl)
          · cases ho
            exact wpOp_of rfl rfl (lu11 H (hall { on := 9, ground := .data } (by simp) rfl) (hall { on := 7, ground := .data } (by simp) rfl) rfl rfl)
          · cases ho
            exact wpOp_of rfl rfl (lu12 H (hall { on := 10, ground := .data } (by simp) rfl) (hall { on := 8, ground := .data } (by simp) rfl) rfl rfl)
        · intro p q v1 v2 d a w' hall H
          have hd : ∀ k, k < 13 → d k = true := hall
          obtain ⟨g74, c74, e74, _⟩ := H.s1 (hd 1 (by omega))
          obtain ⟨g76, e76, _⟩ := H.s3 (hd 3 (by omega))
          obtain ⟨v77, e77, _⟩ := H.s4 (hd 4 (by omega))
          obtain ⟨e78, w9, bb, y1, y2, y3, y4, y5, y6⟩ := H.s5 (hd 5 (by omega))
          obtain ⟨x1, x2, x3⟩ := H.s9 (hd 9 (by omega))
          obtain ⟨z1, z2, z3⟩ := H.s10 (hd 10 (by omega))
          rw [if_pos (hd 11 (by omega))] at x3
          have ha := act_over (a := a) [(10, .pointer (some ⟨p, 0, none⟩)), (11, .pointer (some ⟨q, 0, none⟩)), (72, _), (73, _), (74, _), (75, _), (76, _), (77, _), (78, _), (79, _), (80, _)] (by simp) H.df (by
            intro pr hpr
            simp only [List.mem_cons, List.not_mem_nil, or_false] at hpr
            rcases hpr with rfl | rfl | rfl | rfl | rfl | rfl | rfl | rfl | rfl | rfl | rfl
            · exact x1
            · exact z1
            · exact H.s6 (hd 6 (by omega))
            · exact H.s0 (hd 0 (by omega))
            · exact e74
            · exact H.s2 (hd 2 (by omega))
            · exact e76
            · exact e77
            · exact e78
            · exact H.s7 (hd 7 (by omega))
            · exact H.s8 (hd 8 (by omega))) (fun k hk => H.ot k (fun hm => by
            simp only [luS, List.mem_cons, List.not_mem_nil, or_false] at hm
            rcases hm with rfl | rfl | rfl | rfl | rfl | rfl | rfl | rfl | rfl | rfl | rfl <;> simp at hk))
          have hG := (y1.keep y4).SL.more y3
          have hR := (y2.keep y4).SL.more y3
          have Hbe := Lib.hid H.be
          have HG := Lib.hid hG
          have HRt := Lib.hid hR
          have HX := Lib.hid x3
          have HZ := Lib.hid z3
          rw [ha]
          simp only [over, List.foldl_cons, List.foldl_nil, Act.put]
          clear ha e74 e76 e77 e78 y1 y2 y3 y4 y5 y6 x1 x2 x3 z1 z2 z3 hG hR hall hd H
          refine hK _ _ (Met.intro (hJ _ _ ?_))
          repeat apply Exists.intro
          refine ⟨?rel, by simp; (repeat refine ⟨rfl, ?_⟩); rfl⟩
          exact ⟨p, q, v1, v2, rfl, rfl, Hbe, HX, HZ, HG, HRt⟩
      case rest =>
        obtain ⟨p, q, v1, v2, rfl, rfl, Hbe, HX, HZ, HG, HRt⟩ := hcut
        have HBc := Lib.hid (HbR.out.trans (Hbe.out.mono HbR.out.size))
        obtain ⟨x0, x1⟩ := cells_blk HX.out
        obtain ⟨y0, y1⟩ := cells_blk HZ.out
        have lx := blk_lt HX.out
        have ly := blk_lt HZ.out
        have hfd : ∀ w, (Instr.field 25 (.agg #[.int .i64 0, .int .i64 0]) 0).run Tryd.prog w = .ok (.int .i64 0) w := fun _ => by kernel_rfl
        go_wp2_with fail
        refine MachCheck_calls ⟨kitGlobals_, rs⟩ _ _ _ HG.out HRt.out Hok.out (HSh.out.up HBc.out h0) _ (fun wz hbz => ?_)
        have HBz := Lib.hid (HBc.out.trans (hbz.mono HBc.out.size))
        clear hbz x0 x1 y0 y1 lx ly
        go_wp2
        exact HR.out _ HBz.out
end Go.Proofs.YtemakpjickbmnaaDoor
