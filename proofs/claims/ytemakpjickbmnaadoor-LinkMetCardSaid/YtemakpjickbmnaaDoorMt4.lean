/- LinkMet: what an image leaves out is never met. -/
import Derived.Test.YtemakpjickbmnaaDoorBase
import Derived.Test.YtemakpjickbmnaaDoorRows
import Derived.IntWalk
import Derived.Outline
import Derived.Deep.LoopGhost
import Derived.Deep.RegionHeld3
import Derived.Deep.RegionLaw
import Derived.Deep.AppendLies
import Derived.Deep.CutBlock
import Derived.Deep.DeepCutAuto
import Derived.Test.YtemakpjickbmnaaDoorLa1
import Derived.Test.YtemakpjickbmnaaDoorMrC
import Derived.Test.YtemakpjickbmnaaDoorMtP
namespace Go.Proofs.YtemakpjickbmnaaDoor
open Go.RowKit
set_option linter.unusedSimpArgs false
set_option linter.unusedVariables false

theorem met_at {raw : List (List Int)} {l : List Object} (hl : l = kitL raw) {W : World} {B n c k : Nat} {A : Option Addr} (h : rpObject.SL W B l (.slice A n c)) (hk : k < l.length) : ∃ b off b4 o4 c4 u1 u2 s, A = some ⟨b, off, none⟩ ∧ b < B ∧ b4 < B ∧ 1 ≤ c4 ∧
    W.cell? ⟨b, off + k * 2 + 1, none⟩ = some (.slice (some ⟨b4, o4, none⟩) 1 c4) ∧ W.cell? ⟨b4, o4, none⟩ = some (.string s.name) ∧ W.cell? ⟨b4, o4 + 1, none⟩ = some u1 ∧ W.cell? ⟨b4, o4 + 2, none⟩ = some u2 ∧ rpByte.SL W B s.code u1 ∧ rpMend.SL W B s.mends u2 ∧ (objOf raw 6 true).sections[k]? = some s := by
  have hkl : (kitL raw).length = (objOf raw 6 true).sections.length := bunL_len _ _
  have hks : k < (objOf raw 6 true).sections.length := by rw [← hkl, ← hl]; exact hk
  have hs : (objOf raw 6 true).sections[k]? = some (objOf raw 6 true).sections[k] := List.getElem?_eq_getElem hks
  obtain ⟨b, off, o, v1, v2, rfl, hb, e, _, h2, _, r1⟩ := h.object_at hk
  have ho : o = segO (objOf raw 6 true) k (k + 1) := by
    rw [hl] at e
    exact (bunL_get e).2
  subst ho
  rw [seg_one hs] at h2
  obtain ⟨A4, c4, rfl, _, hc4, h2⟩ := h2.cases_
  obtain ⟨b4, o4, s', u1, u2, rfl, hb4, e4, h5, h6, q0, q1, q2⟩ := h2.section_at (k := 0) (by simp)
  have hss : s' = (objOf raw 6 true).sections[k] := by simpa using e4.symm
  subst hss
  rw [Nat.zero_mul, Nat.add_zero] at q0 q1 q2
  exact ⟨b, off, b4, o4, c4, u1, u2, _, rfl, hb, hb4, by simpa using hc4, r1, q0, q1, q2, h5, h6, hs⟩
theorem rout_one {w : World} {B : Nat} {o : Routine} {cs : List Value} (h : rpRoutine.rep w B o cs) : ∀ u ∈ cs, u.oneCell' = true := by
  obtain ⟨v1, rfl, h1⟩ := rpRoutine_rep h
  obtain ⟨A1, n1, rfl, _⟩ := h1.cases_
  intro u hu
  simp at hu
  rcases hu with rfl | rfl <;> rfl
/-- The row of routines that grows, in a variable. -/
structure Grw (W : World) (g1 : Value) (p n : Nat) (rs : List Routine) (v2 : Value) (w : World) : Prop where
  be : Below W.heap.size W w
  lo : W.heap.size ≤ p
  blk : w.heap[p]? = some (.cells #[g1, v2] 50 (0, 0))
  row : ∃ css : List (List Value), css.length = rs.length ∧ w.ownsRow W.heap.size 75 2 v2 n css.flatten ∧ ∀ (k : Nat) x cs, rs[k]? = some x → css[k]? = some cs → rpRoutine.rep W W.heap.size x cs
  num : n = rs.length
theorem Grw.up {W w w' : World} {g1 v2 : Value} {p n : Nat} {rs : List Routine} (h : Grw W g1 p n rs v2 w) (hb : Below w.heap.size w w') : Grw W g1 p n rs v2 w' := by
  obtain ⟨css, h1, h2, h3⟩ := h.row
  exact ⟨h.be.trans (hb.mono h.be.size), h.lo, (hb.block _ (blk_lt h.blk)).trans h.blk, ⟨css, h1, ownsRow_below h2 hb (Nat.le_refl _), h3⟩, h.num⟩
theorem Grw.SL {W w : World} {g1 v2 : Value} {p n : Nat} {rs : List Routine} (h : Grw W g1 p n rs v2 w) : rpRoutine.SL w w.heap.size rs v2 := by
  obtain ⟨css, h1, h2, h3⟩ := h.row
  have hb : Built rpRoutine W.heap.size 75 (fun _ => False) w v2 rs css := by
    refine ⟨h1, by rw [← h.num]; exact h2, fun k y ds hk hd => ?_, fun _ h => h.elim⟩
    exact Apart.of_old (h3 k y ds hk hd) h.be.size h.be (fun _ h => h.elim) (fun j hj => (h2.lt j hj).1)
  exact hb.SL (Nat.le_refl _)
theorem Grw.fresh {W w : World} {gl v2 : Value} {n : Nat} {rs : List Routine} {css : List (List Value)} (hb : Below W.heap.size W w) (hl : css.length = rs.length) (hown : w.ownsRow W.heap.size 75 2 v2 n css.flatten) (hr : ∀ (k : Nat) x cs, rs[k]? = some x → css[k]? = some cs → rpRoutine.rep W W.heap.size x cs) (hn : n = rs.length) :
    Grw W gl w.heap.size n rs v2 (w.alloc (.cells #[gl, v2] 50)) :=
  ⟨hb.alloc hb.size _, hb.size, heap_alloc_new _ _, ⟨css, hl, hown.alloc _, hr⟩, hn⟩
theorem Grw.made {W w : World} {gl v2 z1 z2 : Value} {p n : Nat} {rs : List Routine} {css : List (List Value)} (hb : Below W.heap.size W w) (hlo : W.heap.size ≤ p) (hblk : w.heap[p]? = some (.cells #[z1, z2] 50 (0, 0))) (hl : css.length = rs.length) (hown : w.ownsRow W.heap.size 75 2 v2 n css.flatten) (hr : ∀ (k : Nat) x cs, rs[k]? = some x → css[k]? = some cs → rpRoutine.rep W W.heap.size x cs) (hn : n = rs.length) :
    Grw W gl p n rs v2 ((w.setCell ⟨p, 0, none⟩ gl).setCell ⟨p, 1, none⟩ v2) := by
  have hne := row_not hown hblk (by decide)
  refine ⟨(hb.setCell (p := ⟨p, 0, none⟩) hlo _).setCell (p := ⟨p, 1, none⟩) hlo _, hlo, by have := block_set (j := 1) (block_set (j := 0) hblk gl) v2; simpa using this, ⟨css, hl, own_setCell_other (own_setCell_other hown hne _) hne _, hr⟩, hn⟩
theorem Grw.push {W w w9 : World} {gl v2 v' : Value} {p n : Nat} {rs : List Routine} {css : List (List Value)} {cs : List Value} {x : Routine} {X : Obj} (h : Grw W gl p n rs v2 w) (hl : css.length = rs.length) (hown0 : w.ownsRow W.heap.size 75 2 v2 n css.flatten) (hr : ∀ (k : Nat) x cs, rs[k]? = some x → css[k]? = some cs → rpRoutine.rep W W.heap.size x cs)
    (hown : w9.ownsRow W.heap.size 75 2 v' (n + 1) (css.flatten ++ cs)) (hg : (w.alloc X).grownBy w9 v2.ownBlock) (hx : rpRoutine.rep W W.heap.size x cs) :
    w9.heap[p]? = some (.cells #[gl, v2] 50 (0, 0)) ∧ Grw W gl p (n + 1) (rs ++ [x]) v' (w9.setCell ⟨p, 1, none⟩ v') := by
  have hne := row_not hown0 h.blk (by decide)
  have hlt := blk_lt h.blk
  have hb9 : w9.heap[p]? = some (.cells #[gl, v2] 50 (0, 0)) := (hg.block p (by simp; omega) (fun e => hne e.symm)).trans (blk_alloc h.blk _)
  have hbe : Below W.heap.size W w9 := (h.be.alloc h.be.size X).grown hg (by have := h.be.size; simp; omega) (fun k hk => (hown0.lt k hk).1)
  have hne9 := row_not hown hb9 (by decide)
  refine ⟨hb9, hbe.setCell (p := ⟨p, 1, none⟩) h.lo _, h.lo, by have := block_set (j := 1) hb9 v'; simpa using this, ⟨css ++ [cs], by simp [hl], by rw [List.flatten_append]; simpa using own_setCell_other hown hne9 _, fun k y ds hk hd => ?_⟩, by rw [h.num]; simp⟩
  rcases Nat.lt_or_ge k rs.length with hlt | hge
  · rw [List.getElem?_append_left hlt] at hk
    rw [List.getElem?_append_left (by omega)] at hd
    exact hr k y ds hk hd
  · rw [List.getElem?_append_right hge] at hk
    rw [List.getElem?_append_right (by omega), hl] at hd
    rcases Nat.eq_zero_or_pos (k - rs.length) with e0 | e0
    · rw [e0] at hk hd
      simp at hk hd
      subst hk hd
      exact hx
    · rw [List.getElem?_eq_none (by simp; omega)] at hk
      cases hk
set_option maxRecDepth 100000 in
set_option maxHeartbeats 8000000 in
theorem LawMet_calls (raw : List (List Int)) (inp : List Int) (fuel : Int) (v vm : Value) (w : World) (h : rpInt.slice.SL w w.heap.size raw v) (hraw : ∀ l ∈ raw, ∀ x ∈ l, I64 x) (hm : rpInt.SL w w.heap.size inp vm) (hinp : ∀ x ∈ inp, I64 x) (hfu : I64 fuel) (hS : Shapes w) (R : Ending → World → Prop)
    (hR : ∀ w', Below w.heap.size w w' → R (.returned (.bool true)) w') :
    Calls Tryd.prog 7 #[v, vm, .int .i64 fuel] w R := by
  have h0 := hS.1
  obtain ⟨iR, hiR, zR0, zR1, zR2⟩ := info_parts info_Routine
  obtain ⟨A, c, rfl, _, hcap, h⟩ := h.cases_
  obtain ⟨Am, cm, rfl, _, hcapm, hm⟩ := hm.cases_
  have HR := Lib.hid hR
  have H := Lib.hid h
  have Hm := Lib.hid hm
  have Hraw := Lib.hid hraw
  have Hfu := Lib.hid hfu
  have HSh := Lib.hid hS
  obtain ⟨l, hl⟩ : ∃ l, l = kitL raw := ⟨_, rfl⟩
  have Hl := Lib.hid hl
  have hlS : l.length = (objOf raw 6 true).sections.length := by rw [hl]; exact bunL_len _ _
  have h6 : l.length ≤ 6 := by rw [hlS]; exact kit_secs raw
  have HlS := Lib.hid hlS
  clear hR h hraw hl hS hm hfu hlS
  go_enter Tryd.func7, Tryd.ntmps7
  go_wp2_with fail
  refine linkSure_calls _ HSh.out _ (fun wa hba => ?_)
  have Hba := Lib.hid hba
  clear hba
  go_wp2_with fail
  refine bundled_calls raw _ _ (H.out.up Hba.out Hba.out.size) Hraw.out _ (fun w2 v3 hb2 hv3 => ?_)
  rw [← Hl.out] at hv3
  obtain ⟨A3, n3, rfl, _, hcap3, hv3⟩ := hv3.cases_
  have Hv3 := Lib.hid hv3
  have Hb2 := Lib.hid (Hba.out.trans (hb2.mono Hba.out.size))
  have HSh2 := Lib.hid (HSh.out.up Hb2.out h0)
  clear hb2 hv3
  obtain ⟨L1, hL1⟩ : ∃ L1, L1 = linkDo l := ⟨_, rfl⟩
  have HL1 := Lib.hid hL1
  clear hL1
  go_wp2_with fail
  refine Do_calls l _ _ Hv3.out HSh2.out _ (fun w4 v1 v2 hb4 hg4 hr4 => ?_)
  rw [← HL1.out] at hg4 hr4 ⊢
  obtain ⟨B1, m1, rfl, _, _, hg4⟩ := hg4.cases_
  obtain ⟨B2, m2, rfl, _, hcapr, hr4⟩ := hr4.cases_
  obtain ⟨W5, hW5⟩ : ∃ W5, W5 = (w4.alloc (Obj.cells #[.slice B1 L1.1.globals.length m1, .slice B2 L1.1.routines.length m2] 50)).alloc (Obj.cells #[.int .i64 L1.2.1, .int .i64 L1.2.2] 25) := ⟨_, rfl⟩
  have hbW5 : Below w4.heap.size w4 W5 := by subst hW5; exact bl0
  have hI5 : W5.heap[w4.heap.size]? = some (.cells #[.slice B1 L1.1.globals.length m1, .slice B2 L1.1.routines.length m2] 50 (0, 0)) := by subst hW5; exact blk_alloc (heap_alloc_new _ _) _
  have hF5 : W5.heap[w4.heap.size + 1]? = some (.cells #[.int .i64 L1.2.1, .int .i64 L1.2.2] 25 (0, 0)) := by
    subst hW5
    have := heap_alloc_new (w4.alloc (Obj.cells #[.slice B1 L1.1.globals.length m1, .slice B2 L1.1.routines.length m2] 50)) (Obj.cells #[.int .i64 L1.2.1, .int .i64 L1.2.2] 25)
    simpa using this
  obtain ⟨i0, i1⟩ := cells_blk hI5
  obtain ⟨f0, f1⟩ := cells_blk hF5
  have hl1 := blk_lt hI5
  have hl2 := blk_lt hF5
  have hb25 := hb4.trans (hbW5.mono hb4.size)
  have hb5w := Hb2.out.trans (hb25.mono Hb2.out.size)
  have Hv5 := Lib.hid (Hv3.out.up hb25 hb25.size)
  have HI5 := Lib.hid hI5
  have HG5 := Lib.hid (hg4.up hbW5 hbW5.size)
  have HR5 := Lib.hid (hr4.up hbW5 hbW5.size)
  have Hb5 := Lib.hid hb5w
  have HSh5 := Lib.hid (HSh.out.up hb5w h0)
  have HW5 := Lib.hid hW5.symm
  clear hb4 hg4 hr4 hW5 hbW5 hI5 hF5 hb25 hb5w
  go_upto_region 5 with fail
  rw [HW5.out]
  have hcase : L1.2.1 ≠ 0 ∨ (0 < l.length ∧ ∃ rs, L1 = (⟨kitGlobals_, rs⟩, (0, 0)) ∧ ImgOk ⟨kitGlobals_, rs⟩ ∧ rs.length ≤ 6) := by
    rcases Nat.eq_zero_or_pos l.length with hn | hn
    · left
      have e : l = [] := List.eq_nil_of_length_eq_zero hn
      rw [HL1.out, e, none_do.1]
      decide
    · have hnk : 0 < (kitL raw).length := by rw [← Hl.out]; exact hn
      rcases kit_made Hraw.out hnk with ⟨hu, rs, hd, hk, hp, h40⟩ | ⟨hu, a, hd⟩
      · have hok := img_ok (kit_link Hraw.out hnk) (kit_hasM hnk) (by rw [kit_secsAll]; have := kit_secs raw; omega) hk
        rw [kit_globs hnk] at hok
        have h6' : rs.length ≤ 6 := by
          have h1 := (reached_met (kit_hasM hnk)).1.len
          rw [hk.len]
          rw [kit_secsAll] at h1 ⊢
          have := kit_secs raw
          omega
        rw [← Hl.out] at hd
        exact .inr ⟨hn, rs, by rw [HL1.out, hd], hok, h6'⟩
      · rw [← Hl.out] at hd
        left
        rw [HL1.out, hd]
        show (6 : Int) ≠ 0
        decide
  rcases hcase with hz | ⟨hnp, rs, hd, hok, hr6⟩
  · have hz2 : (L1.2.1 == 0) = false := by simpa using hz
    have Hfin := Lib.hid (HR.out _ Hb5.out)
    clear hz
    go_wp2
    exact Hfin.out
  subst hd
  simp only at i0 i1 f0 f1
  have Hok := Lib.hid hok
  have hr0 : 0 < rs.length := hok.some_
  obtain ⟨b2, off2, hB2⟩ : ∃ b off, B2 = some ⟨b, off, none⟩ := by
    obtain ⟨b, off, s, v1, e, _⟩ := HR5.out.routine_at hr0
    exact ⟨b, off, e⟩
  subst hB2
  obtain ⟨css, hc1, hc2, hc3, hc4⟩ := HR5.out.rows (by decide)
  have hone : ∀ u ∈ css.flatten, u.oneCell' = true := fun u hu => by
    obtain ⟨cs, hcs, hu⟩ := List.mem_flatten.1 hu
    obtain ⟨k, hk, ek⟩ := List.mem_iff_getElem.1 hcs
    exact rout_one (hc3 k rs[k] cs (List.getElem?_eq_getElem (by rw [← hc1]; exact hk)) (by rw [List.getElem?_eq_getElem hk, ek])) u hu
  have Hc1 := Lib.hid hc1
  have Hc2 := Lib.hid hc2
  have Hc3 := Lib.hid hc3
  have Hc4 := Lib.hid hc4
  have Hone := Lib.hid hone
  clear hok hc1 hc2 hc3 hc4 hone
  go_upto_region 7 with fail
  go_cut [10] (fun s10 wx => ∃ (p : Nat) (v2 : Value), s10 = .pointer (some ⟨p, 0, none⟩) ∧ Hid (Grw W5 (.slice B1 kitGlobals_.length m1) p rs.length rs v2 wx))
  case first =>
    have HN : Hid (∀ W, Below W5.heap.size W5 W → ∀ j u, css.flatten[j]? = some u → W.cell? ((⟨b2, off2, none⟩ : Addr).add j) = some u) := Lib.hid fun W hW j u hj => by
      have h1 := Hc4.out j u hj
      exact (hW.cell (World.block_lt_of_cell? W5 _ h1)).trans h1
    go_region_law (first
      | (refine step_append_lies _ rfl (.const (.slice none 0 0)) (.tmp 38) 48 rfl W5.heap.size 75 iR _ 2 40 Tryd.underlying48 hiR zR0 zR1 zR2 rfl (by decide) (.slice none 0 0) 0 [] (by rfl) (World.ownsRow_nil _ _ _ _) ⟨b2, off2, none⟩ rs.length m2 css.flatten (by simp [Act.eval, Act.put]) Hc2.out (HN.out _ (by exact bl0)) Hone.out hr0 (by unfold maxLen; omega) (by omega) (by simp) _ rfl ?_
         intro g1 cap1 w9 hown9 hgrow9 hat9 hlt9
         have hb9 : Below W5.heap.size W5 w9 := Below.grown (by exact bl0) hgrow9 (by simp) (fun _ h => by cases h)
         have hi9 := (hb9.block _ hl1).trans HI5.out
         simp only at hi9
         obtain ⟨j0, j1⟩ := cells_blk hi9
         have li9 := blk_lt hi9
         clear hi9
         rw [Nat.zero_add] at hown9
         rw [List.nil_append] at hown9
         first
         | (have hq9 : w9.heap[W5.heap.size]? = some (.cells #[.slice none 0 0, .slice none 0 0] 50 (0, 0)) := ((hgrow9.block W5.heap.size (by simp) (fun e => by cases e)).trans (blk_drew (heap_alloc_new _ _)))
            obtain ⟨c0, c1⟩ := cells_blk hq9
            have lq9 := blk_lt hq9
            have zq9 : ∀ j, w9.frozen? ⟨W5.heap.size, j, none⟩ = false := fun j => by simp [World.frozen?, hq9]
            have Hq9 := Lib.hid hq9
            clear hq9)
         | skip
         have Ho9 := Lib.hid hown9
         have Hb9 := Lib.hid hb9
         clear hown9 hgrow9 hat9 hlt9 hb9))
    all_goals
      go_wp2
      go_meet
      first
      | exact ⟨_, _, rfl, Lib.hid (Grw.fresh Hb9.out Hc1.out Ho9.out Hc3.out rfl)⟩
      | exact ⟨_, _, rfl, Lib.hid (Grw.made Hb9.out (Nat.le_refl _) Hq9.out Hc1.out Ho9.out Hc3.out rfl)⟩
  case rest =>
    obtain ⟨p, v2, rfl, Hg⟩ := hcut
    clear i0 i1 f0 f1
    have HI5' : Hid (W5.heap[w4.heap.size]? = some (.cells #[.slice B1 kitGlobals_.length m1, .slice (some ⟨b2, off2, none⟩) rs.length m2] 50 (0, 0))) := HI5
    go_wp2_with fail
    go_loopg [11, 13, 14] l.length (fun gh s11 s13 s14 wr => ∃ (i : Nat) (v2 : Value), i ≤ l.length ∧ gh = l.length - i ∧ s11 = .int .i64 (i : Int) ∧ Hid (Grw W5 (.slice B1 kitGlobals_.length m1) p (rs ++ restR rs ((objOf raw 6 true).sections.take i)).length (rs ++ restR rs ((objOf raw 6 true).sections.take i)) v2 wr))
    case atStart => exact ⟨0, v2, Nat.zero_le _, rfl, rfl, Lib.hid (by simpa [restR] using Hg.out)⟩
    case round =>
      obtain ⟨i, v2, hi, rfl, rfl, Hg⟩ := hrel
      obtain ⟨wo, rfl⟩ : ∃ x, x = wr := ⟨_, rfl⟩
      have k0 : (0 : Int) ≤ (i : Int) := Int.natCast_nonneg _
      have hz := Hg.out.be.size
      by_cases hlt : i < l.length
      · have k1 : (i : Int) < (l.length : Int) := by omega
        obtain ⟨b, off, b4, o4, c4, u1, u2, s, rfl, hb, hb4, hc4, p1, q0, q1, q2, hcode, hmend, hs⟩ := met_at Hl.out Hv5.out hlt
        have p1' := (Hg.out.be.cell (p := ⟨b, off + i * 2 + 1, none⟩) hb).trans p1
        have q0' := (Hg.out.be.cell (p := ⟨b4, o4, none⟩) hb4).trans q0
        have q1' := (Hg.out.be.cell (p := ⟨b4, o4 + 1, none⟩) hb4).trans q1
        have q2' := (Hg.out.be.cell (p := ⟨b4, o4 + 2, none⟩) hb4).trans q2
        have lb : b < wo.heap.size := Nat.lt_of_lt_of_le hb hz
        have lb4 : b4 < wo.heap.size := Nat.lt_of_lt_of_le hb4 hz
        have hc4' : (0 : Int) < (c4 : Int) := by omega
        obtain ⟨Ac, nc, rfl, _, _, hcode⟩ := hcode.cases_
        obtain ⟨Am2, nm2, rfl, _, _, _⟩ := hmend.cases_
        have Hst := Lib.hid (restR_step (rs := rs) hs)
        have Hcode := Lib.hid hcode
        have hgI := (Hg.out.be.block _ hl1).trans HI5'.out
        have hlIo := blk_lt hgI
        have HIo := Lib.hid hgI
        clear p1 q0 q1 q2 hcode hmend hs hgI
        obtain ⟨W6, hW6⟩ : ∃ W6, W6 = wo.alloc (Obj.cells #[.string s.name, .slice Ac s.code.length nc, .slice Am2 s.mends.length nm2] 71) := ⟨_, rfl⟩
        have hb6 : Below wo.heap.size wo W6 := by subst hW6; exact bl0
        have hX6 : W6.heap[wo.heap.size]? = some (.cells #[.string s.name, .slice Ac s.code.length nc, .slice Am2 s.mends.length nm2] 71 (0, 0)) := by subst hW6; exact heap_alloc_new _ _
        have HI6 := Lib.hid ((hb6.block _ hlIo).trans HIo.out)
        have Hg6 := Lib.hid (Hg.out.up hb6)
        have HR6 := Lib.hid (HR5.out.up Hg6.out.be Hg6.out.be.size)
        have HX6 := Lib.hid hX6
        have lX6 := blk_lt hX6
        have lI6 := blk_lt HI6.out
        have HW6 := Lib.hid hW6.symm
        clear hb6 hX6 hW6 HIo hlIo Hg
        go_upto_region 12 with fail
        rw [HW6.out]
        go_wp2_with fail
        clear p1' q0' q1' q2'
        go_loopg [13, 14] rs.length (fun gh s13 s14 wr => ∃ k : Nat, k ≤ rs.length ∧ gh = rs.length - k ∧ s14 = .int .i64 (k : Int) ∧ s13 = .bool (hasRt (rs.take k) s.name) ∧ Hid (Below W6.heap.size W6 wr))
        case atStart => exact ⟨0, Nat.zero_le _, rfl, rfl, rfl, Lib.hid (Below.refl _ _)⟩
        case round =>
          obtain ⟨k, hk, rfl, rfl, rfl, Hb7⟩ := hrel
          have hz7 := Hb7.out.size
          obtain ⟨j0, j1⟩ := cells_blk ((Hb7.out.block _ lI6).trans HI6.out)
          have lI7 : w4.heap.size < wr.heap.size := by omega
          have n0 : (0 : Int) ≤ (k : Int) := Int.natCast_nonneg _
          by_cases hkl : k < rs.length
          · obtain ⟨b8, off8, r, v8, e8, hb8, er, _, p0, _⟩ := HR6.out.routine_at hkl
            obtain ⟨rfl, rfl⟩ : b2 = b8 ∧ off2 = off8 := by
              injection e8 with e8
              injection e8 with e9 e10
              exact ⟨e9, e10⟩
            have p0' := (Hb7.out.cell (p := ⟨b2, off2 + k * 2, none⟩) hb8).trans p0
            have lb2 : b2 < wr.heap.size := by omega
            have hXr := (Hb7.out.block _ lX6).trans HX6.out
            have x0 : wr.cell? ⟨wo.heap.size, 0, none⟩ = some (.string s.name) := by rw [blk_cell hXr]; rfl
            have lXr := blk_lt hXr
            have n1 : (k : Int) < (rs.length : Int) := by omega
            have Hst7 := Lib.hid (hasRt_step (nm := s.name) er)
            have Hb8 : ∀ m, Hid (Below W6.heap.size W6 (wr.drewN m)) := fun m => Lib.hid (below_drewN Hb7.out m)
            clear p0 e8 er hXr
            obtain ⟨bb, hbb⟩ : ∃ bb, bb = hasRt (rs.take k) s.name := ⟨_, rfl⟩
            rw [← hbb] at Hst7 ⊢
            clear hbb
            cases bb
            · have hne := name_eq r.name s.name
              generalize hx : decide (r.name = s.name) = bd at *
              have Hx := Lib.hid hx
              clear hx
              go_wp2_with fail
              go_quiet (fail)
              go_wp2
              go_roundg (rs.length - (k + 1))
              case measure => omega
              case rel => exact ⟨k + 1, hkl, rfl, by go_num, by rw [Hst7.out]; simp, Hb8 _⟩
            · go_wp2_with fail
              go_quiet (fail)
              go_wp2
              go_roundg (rs.length - (k + 1))
              case measure => omega
              case rel => exact ⟨k + 1, hkl, rfl, by go_num, by rw [Hst7.out]; simp, Hb8 _⟩
          · obtain rfl : k = rs.length := by omega
            have n1 : ¬ (rs.length : Int) < (rs.length : Int) := by omega
            rw [List.take_length]
            have Hg7 := Lib.hid (Hg6.out.up Hb7.out)
            have hXr := (Hb7.out.block _ lX6).trans HX6.out
            have x0 : wr.cell? ⟨wo.heap.size, 0, none⟩ = some (.string s.name) := by rw [blk_cell hXr]; rfl
            have x1 : wr.cell? ⟨wo.heap.size, 1, none⟩ = some (.slice Ac s.code.length nc) := by rw [blk_cell hXr]; rfl
            have lXr := blk_lt hXr
            clear hXr
            generalize hbb : hasRt rs s.name = bb at *
            clear hbb
            cases bb
            · rw [if_neg (by simp)] at Hst
              have HElen : Hid ((restR rs ((objOf raw 6 true).sections.take i)).length ≤ 6) := Lib.hid (by have h1 := restR_len rs ((objOf raw 6 true).sections.take i); have h2 := kit_secs raw; rw [List.length_take] at h1; omega)
              generalize restR rs ((objOf raw 6 true).sections.take i) = E at *
              obtain ⟨T, hT⟩ : ∃ T, T = rs ++ E := ⟨_, rfl⟩
              have HT : Hid (rs ++ (E ++ [secR s]) = T ++ [secR s]) := Lib.hid (by rw [hT, List.append_assoc])
              rw [← hT] at Hg7
              obtain ⟨N, hN⟩ : ∃ N, N = T.length := ⟨_, rfl⟩
              rw [← hN] at Hg7
              have HN1 : Hid ((T ++ [secR s]).length = N + 1) := Lib.hid (by rw [hN]; simp)
              have hN40 : N ≤ 40 := by
                have h4 : T.length = rs.length + E.length := by rw [hT, List.length_append]
                have h5 := HElen.out
                omega
              clear hT hN
              obtain ⟨css7, hl7, ho7, hr7⟩ := Hg7.out.row
              obtain ⟨A7, n7, rfl⟩ := own_slice ho7
              obtain ⟨_, y1⟩ := cells_blk Hg7.out.blk
              have ly := blk_lt Hg7.out.blk
              have HBo := Lib.hid (ho7.alloc (Obj.cells #[.string s.name, .slice Ac s.code.length nc] 75))
              have hlo5 := Hg7.out.be.size
              have Hpush := fun (gb cap : Nat) (w9 : World) h1 h2 => Hg7.out.push (w9 := w9) (v' := .slice (some ⟨gb, 0, none⟩) (N + 1) cap) (X := Obj.cells #[.string s.name, .slice Ac s.code.length nc] 75) (x := secR s) (cs := [.string s.name, .slice Ac s.code.length nc]) hl7 ho7 hr7 h1 h2 (rpRoutine_mk Hcode.out)
              have HPush := Lib.hid Hpush
              clear Hpush ho7 hr7 hl7
              go_wp2_with (at_builtin; refine wpList_append_lies _ rfl _ _ 48 rfl W5.heap.size 75 iR _ 2 40 Tryd.underlying48 hiR zR0 zR1 zR2 rfl (by decide) (.slice A7 N n7) N css7.flatten rfl HBo.out ⟨wr.heap.size, 0, none⟩ 1 1 [.string s.name, .slice Ac s.code.length nc] rfl rfl ?_ ?_ (by decide) ?_ ?_ ?_ _ rfl ?_)
              any_goals (first | exact World.news_of_block (cs := #[.string s.name, .slice Ac s.code.length nc]) (t := 75) (fr := (0, 0)) (heap_alloc_new _ _) | (simp [Value.oneCell']; done) | (unfold maxLen; omega) | omega | (simp; done) | (simp; omega))
              intro gb cap w9 hown9 hgrow9 hat9 hlt9
              obtain ⟨hb9, hg9⟩ := HPush.out gb cap w9 hown9 hgrow9
              obtain ⟨z0, z1⟩ := cells_blk hb9
              have lz9 := blk_lt hb9
              have fz9 : w9.frozen? ⟨p, 1, none⟩ = false := by simp [World.frozen?, hb9]
              have Hg9 := Lib.hid hg9
              clear hown9 hgrow9 hat9 hlt9 hb9 hg9 j0 j1 x0 x1 y1
              go_wp2
              go_roundg (l.length - (i + 1))
              case measure => omega
              case rel => exact ⟨i + 1, _, hlt, rfl, by go_num, Lib.hid (by rw [Hst.out, HT.out, HN1.out]; exact Hg9.out)⟩
            · rw [if_pos rfl, List.append_nil] at Hst
              go_wp2
              go_roundg (l.length - (i + 1))
              case measure => omega
              case rel => exact ⟨i + 1, v2, hlt, rfl, by go_num, by rw [Hst.out]; exact Hg7⟩
      · obtain rfl : i = l.length := by omega
        have k1 : ¬ (l.length : Int) < (l.length : Int) := by omega
        rw [HlS.out, List.take_length] at Hg
        obtain ⟨E, hE⟩ : ∃ E, E = restR rs (objOf raw 6 true).sections := ⟨_, rfl⟩
        have Hall : Hid (ImgOk ⟨kitGlobals_, rs ++ E⟩) := Lib.hid (by rw [hE]; exact all_img Hraw.out Hok.out hr6)
        rw [← hE] at Hg
        clear hE
        obtain ⟨T, hT⟩ : ∃ T, T = rs ++ E := ⟨_, rfl⟩
        have HT := Lib.hid hT
        rw [← hT] at Hg Hall
        clear hT
        have hn0 := Int.emod_nonneg fuel (show (400 : Int) ≠ 0 by decide)
        have hn1 := Int.emod_lt_of_pos fuel (show (0 : Int) < 400 by decide)
        obtain ⟨n, hn⟩ : ∃ n : Nat, fuel % 400 = (n : Int) := ⟨(fuel % 400).toNat, by omega⟩
        have hn4 : n ≤ 400 := by omega
        have Hn := Lib.hid hn
        clear hn0 hn1 hn
        go_wp2_with fail
        refine Picked_calls fuel 400 (by decide) (by decide) Hfu.out _ _ ?_
        rw [Hn.out]
        obtain ⟨O1, hO1⟩ : ∃ O, O = runO ⟨kitGlobals_, rs⟩ (inp.take 8) n := ⟨_, rfl⟩
        have HO1 := Lib.hid hO1
        clear hO1
        have HIo := Lib.hid ((Hg.out.be.block _ hl1).trans HI5'.out)
        have Hbo := Lib.hid (Hb5.out.trans (Hg.out.be.mono Hb5.out.size))
        have HGo := Lib.hid (HG5.out.up Hg.out.be hz)
        have HRo := Lib.hid (HR5.out.up Hg.out.be hz)
        go_upto_region 20 with fail
        go_cut [16, 17] (fun s16 s17 wx => ∃ (p1 q1 : Nat) (vo : Value), s16 = .pointer (some ⟨p1, 0, none⟩) ∧ s17 = .pointer (some ⟨q1, 0, none⟩) ∧ Hid (Below wo.heap.size wo wx) ∧ Hid (wx.heap[p1]? = some (.cells #[.int .i64 O1.st, .int .i64 O1.val, vo, .int .i64 (O1.steps : Int)] 44 (0, 0))) ∧ Hid (wx.heap[q1]? = some (.cells #[.int .i64 0, .int .i64 0] 25 (0, 0))) ∧ Hid (rpInt.SL wx wx.heap.size O1.out vo))
        case first =>
          rename_i J K' hJ hK
          have hO1 := HO1.out
          subst hO1
          refine reg_inv (by kernel_rfl) RAS (RAI ⟨wo, .agg #[.slice B1 kitGlobals_.length m1, .slice (some ⟨b2, off2, none⟩) rs.length m2], .slice Am inp.length cm, inp.take 8, .int .i64 (n : Int), runO ⟨kitGlobals_, rs⟩ (inp.take 8) n⟩) (edges_ok (by decide +kernel)) (by simp [RAS]) (guards_ok (by decide +kernel)) (RA.start _ _) ?_ ?_
          · rintro d a w' i o ho hd hall hag ⟨L, p1, q1, vo, H⟩
            have hi12 : i < 12 := (Array.getElem?_eq_some_iff.1 ho).1
            rcases (show i = 0 ∨ i = 1 ∨ i = 2 ∨ i = 3 ∨ i = 4 ∨ i = 5 ∨ i = 6 ∨ i = 7 ∨ i = 8 ∨ i = 9 ∨ i = 10 ∨ i = 11 by omega) with rfl | rfl | rfl | rfl | rfl | rfl | rfl | rfl | rfl | rfl | rfl | rfl
            all_goals cases ho
            · exact H.oImg hag rfl rfl HIo.out rfl rfl
            · exact H.oInp hag rfl rfl rfl
            · exact H.oC1 hag (hall { on := 1, ground := .data } (by simp) rfl) ⟨Tryd.f20, Tryd.func20, by kernel_rfl, by kernel_rfl⟩ (fun w' R hb hR => Input_callsF inp _ w' (Hm.out.up (Hbo.out.trans (hb.mono Hbo.out.size)) (Nat.le_trans Hbo.out.size hb.size)) R hR) rfl rfl
            · exact H.oN hag rfl rfl rfl
            · exact H.oC2 hag (hall { on := 0, ground := .data } (by simp) rfl) (hall { on := 2, ground := .data } (by simp) rfl) (hall { on := 3, ground := .data } (by simp) rfl) hd ⟨Tryd.f18, Tryd.func18, by kernel_rfl, by kernel_rfl⟩ (fun w' v R hb hv hR => Run_callsF ⟨kitGlobals_, rs⟩ _ _ v (inp.take 8) n w' (HGo.out.up hb hb.size) (HRo.out.up hb hb.size) Hok.out (HSh.out.up (Hbo.out.trans (hb.mono Hbo.out.size)) h0) hv (by omega) (by rw [List.length_take]; omega) R hR) rfl rfl
            · exact H.oTup hag (hall { on := 4, ground := .data } (by simp) rfl) rfl rfl
            · exact H.oX1 hag (hall { on := 5, ground := .data } (by simp) rfl) rfl rfl
            · exact H.oX2 hag (hall { on := 5, ground := .data } (by simp) rfl) rfl rfl
            · exact H.oP hag hd rfl rfl
            · exact H.oQ hag hd rfl rfl
            · exact H.oSP hag (hall { on := 8, ground := .data } (by simp) rfl) (hall { on := 6, ground := .data } (by simp) rfl) rfl rfl
            · exact H.oSQ hag (hall { on := 9, ground := .data } (by simp) rfl) (hall { on := 7, ground := .data } (by simp) rfl) rfl rfl
          · rintro d vs w' hall hold ⟨L, p1, q1, vo, H⟩
            have hd : ∀ k, k < 12 → d k = true := hall
            have e16 := (H.s_p (hd 8 (by omega))).1
            have e17 := (H.s_q (hd 9 (by omega))).1
            have HP1 := Lib.hid (H.s_sp (hd 10 (by omega))).2
            have HQ1 := Lib.hid (H.s_sq (hd 11 (by omega))).2
            have HV1 := Lib.hid (H.s_c2 (hd 4 (by omega))).2.SL
            have HB1 := Lib.hid H.s_be
            simp only [RAS, List.map_cons, List.map_nil, over, List.foldl_cons, List.foldl_nil, Act.put]
            rw [e16, e17]
            clear e16 e17 hd hold hall H
            refine hK _ _ (Met.intro (hJ _ _ ?_))
            repeat apply Exists.intro
            refine ⟨?rel, by simp; (repeat refine ⟨rfl, ?_⟩); rfl⟩
            exact ⟨p1, q1, vo, rfl, rfl, HB1, HP1, HQ1, HV1⟩
        case rest =>
          obtain ⟨p1, q1, vo, rfl, rfl, HB1, HP1, HQ1, HV1⟩ := hcut
          rename World => wx
          have hzx := HB1.out.size
          obtain ⟨A7, n7, rfl, _, _, _⟩ := Hg.out.SL.cases_
          have HO2 : Hid (runO ⟨kitGlobals_, T⟩ (inp.take 8) n = O1) := Lib.hid (by
            rw [HO1.out, HT.out]
            unfold runO
            exact congrArg outM (rest_run Hok.out n (inp.take 8)).1)
          obtain ⟨TT, hTT⟩ : ∃ TT, TT = cntT (metM (codesI ⟨kitGlobals_, T⟩) n (beginM (memI kitGlobals_) (inp.take 8))) (codesI ⟨kitGlobals_, T⟩) (codesI ⟨kitGlobals_, T⟩).length := ⟨_, rfl⟩
          have HTT := Lib.hid hTT
          have HTl : Hid (TT.length = T.length) := Lib.hid (by rw [hTT, cntT_len, codesI_len])
          have HTz : Hid (∀ (i : Nat) (hi : i < TT.length) (k : Nat), rs.length ≤ i → TT[i].getD k 0 = 0) := Lib.hid fun i hi k hri => by
            have h1 : ∀ j, (metM (codesI ⟨kitGlobals_, T⟩) n (beginM (memI kitGlobals_) (inp.take 8))).count (i, j) = 0 := fun j => by
              rw [HT.out]
              exact (rest_run Hok.out n (inp.take 8)).2 i j hri
            have h2 : ∀ x ∈ TT[i], x = 0 := fun x hx => by
              simp only [hTT, cntT, List.getElem_map, List.getElem_range, cntL, List.mem_map] at hx
              obtain ⟨j, _, e⟩ := hx
              rw [← e, h1 j]
              rfl
            rw [List.getD_eq_getElem?_getD]
            cases hk : TT[i][k]? with
            | none => rfl
            | some y => exact h2 y (List.mem_of_getElem? hk)
          clear hTT
          have HGx := Lib.hid (HGo.out.up HB1.out hzx)
          have HRx := Lib.hid (Hg.out.SL.up HB1.out hzx)
          have HAx := Lib.hid ((HB1.out.block _ (blk_lt Hg.out.blk)).trans Hg.out.blk)
          have HIx := Lib.hid ((HB1.out.block _ (blk_lt HIo.out)).trans HIo.out)
          have Hbx := Lib.hid (Hbo.out.trans (HB1.out.mono Hbo.out.size))
          clear HIo HGo HRo HI5 HI5' HG5 HR5 Hb5 HSh5 Hc1 Hc2 Hc3 Hc4 Hone Hv5 Hv3 Hb2 HSh2 Hba
          go_upto_region 21 with fail
          go_cut [18, 19, 20] (fun s18 s19 s20 wy => ∃ (p2 q2 : Nat) (vt vp : Value), s18 = vt ∧ s19 = .pointer (some ⟨p2, 0, none⟩) ∧ s20 = .pointer (some ⟨q2, 0, none⟩) ∧ Hid (Below wx.heap.size wx wy) ∧ Hid (wy.heap[p2]? = some (.cells #[.int .i64 O1.st, .int .i64 O1.val, vp, .int .i64 (O1.steps : Int)] 44 (0, 0))) ∧ Hid (wy.heap[q2]? = some (.cells #[.int .i64 0, .int .i64 0] 25 (0, 0))) ∧ Hid (rpInt.SL wy wy.heap.size O1.out vp) ∧ Hid (rpInt.slice.SL wy wy.heap.size TT vt))
          case first =>
            rename_i J K' hJ hK
            have hO2 := HO2.out
            subst hO2
            have hTT := HTT.out
            subst hTT
            refine reg_inv (by kernel_rfl) RBS (RBI ⟨wx, .agg #[.slice B1 kitGlobals_.length m1, .slice A7 T.length n7], .slice Am inp.length cm, inp.take 8, .int .i64 (n : Int), cntT (metM (codesI ⟨kitGlobals_, T⟩) n (beginM (memI kitGlobals_) (inp.take 8))) (codesI ⟨kitGlobals_, T⟩) (codesI ⟨kitGlobals_, T⟩).length, runO ⟨kitGlobals_, T⟩ (inp.take 8) n⟩) (edges_ok (by decide +kernel)) (by simp [RBS]) (guards_ok (by decide +kernel)) (RB.start _ _) ?_ ?_
            · rintro d a w' i o ho hd hall hag ⟨L, p2, q2, vt, vp, H⟩
              have hi14 : i < 14 := (Array.getElem?_eq_some_iff.1 ho).1
              rcases (show i = 0 ∨ i = 1 ∨ i = 2 ∨ i = 3 ∨ i = 4 ∨ i = 5 ∨ i = 6 ∨ i = 7 ∨ i = 8 ∨ i = 9 ∨ i = 10 ∨ i = 11 ∨ i = 12 ∨ i = 13 by omega) with rfl | rfl | rfl | rfl | rfl | rfl | rfl | rfl | rfl | rfl | rfl | rfl | rfl | rfl
              all_goals cases ho
              · exact H.oImg hag rfl rfl HAx.out rfl rfl
              · exact H.oInp hag rfl rfl rfl
              · exact H.oC1 hag (hall { on := 1, ground := .data } (by simp) rfl) ⟨Tryd.f20, Tryd.func20, by kernel_rfl, by kernel_rfl⟩ (fun w' R hb hR => Input_callsF inp _ w' (Hm.out.up (Hbx.out.trans (hb.mono Hbx.out.size)) (Nat.le_trans Hbx.out.size hb.size)) R hR) rfl rfl
              · exact H.oN hag rfl rfl rfl
              · exact H.oC2 hag (hall { on := 0, ground := .data } (by simp) rfl) (hall { on := 2, ground := .data } (by simp) rfl) (hall { on := 3, ground := .data } (by simp) rfl) hd ⟨Tryd.f30, Tryd.func30, by kernel_rfl, by kernel_rfl⟩ (fun w' v R hb hv hR => Met_calls ⟨kitGlobals_, T⟩ _ _ v (inp.take 8) n w' (HGx.out.up hb hb.size) (HRx.out.up hb hb.size) Hall.out (HSh.out.up (Hbx.out.trans (hb.mono Hbx.out.size)) h0) hv (by omega) (by rw [List.length_take]; omega) R hR) rfl rfl
              · exact H.oTup hag (hall { on := 4, ground := .data } (by simp) rfl) rfl rfl
              · exact H.oX0 hag (hall { on := 5, ground := .data } (by simp) rfl) rfl rfl
              · exact H.oX1 hag (hall { on := 5, ground := .data } (by simp) rfl) rfl rfl
              · exact H.oX2 hag (hall { on := 5, ground := .data } (by simp) rfl) rfl rfl
              · exact H.oP hag hd rfl rfl
              · exact H.oQ hag hd rfl rfl
              · exact H.oR hag (hall { on := 6, ground := .data } (by simp) rfl) rfl rfl
              · exact H.oSP hag (hall { on := 9, ground := .data } (by simp) rfl) (hall { on := 7, ground := .data } (by simp) rfl) rfl rfl
              · exact H.oSQ hag (hall { on := 10, ground := .data } (by simp) rfl) (hall { on := 8, ground := .data } (by simp) rfl) rfl rfl
            · rintro d vs w' hall hold ⟨L, p2, q2, vt, vp, H⟩
              have hd : ∀ k, k < 14 → d k = true := hall
              have e18 := H.s_r (hd 11 (by omega))
              have e19 := (H.s_p (hd 9 (by omega))).1
              have e20 := (H.s_q (hd 10 (by omega))).1
              have HP2 := Lib.hid (H.s_sp (hd 12 (by omega))).2
              have HQ2 := Lib.hid (H.s_sq (hd 13 (by omega))).2
              have HV2 := Lib.hid (H.s_c2 (hd 4 (by omega))).2.2.SL
              have HM2 := Lib.hid (H.s_c2 (hd 4 (by omega))).2.1.SL
              have HB2 := Lib.hid H.s_be
              simp only [RBS, List.map_cons, List.map_nil, over, List.foldl_cons, List.foldl_nil, Act.put]
              rw [e18, e19, e20]
              clear e18 e19 e20 hd hold hall H
              refine hK _ _ (Met.intro (hJ _ _ ?_))
              repeat apply Exists.intro
              refine ⟨?rel2, by simp; (repeat refine ⟨rfl, ?_⟩); rfl⟩
              exact ⟨p2, q2, vt, vp, rfl, rfl, rfl, HB2, HP2, HQ2, HV2, HM2⟩
          case rest =>
            obtain ⟨p2, q2, vt, vp, rfl, rfl, rfl, HB2, HP2, HQ2, HV2, HM2⟩ := hcut
            rename World => wy
            have hzy := HB2.out.size
            obtain ⟨At, ct, hvt, hmxt, hcapt, hM⟩ := HM2.out.cases_
            rw [HTl.out] at hvt hM hcapt hmxt
            subst hvt
            obtain ⟨N, hN⟩ : ∃ N, N = T.length := ⟨_, rfl⟩
            have hrN : rs.length ≤ N := by rw [hN, HT.out, List.length_append]; omega
            have HTN : Hid (TT.length = N) := Lib.hid (by rw [hN]; exact HTl.out)
            rw [← hN] at hM hcapt hmxt HAx ⊢
            clear hN
            have HM := Lib.hid hM
            obtain ⟨Ao, co, rfl, _, _, _⟩ := HV1.out.cases_
            obtain ⟨Ap, cp, rfl, _, _, _⟩ := HV2.out.cases_
            have HV3 := Lib.hid (HV1.out.up HB2.out hzy)
            have hq1 := (HB2.out.block _ (blk_lt HQ1.out)).trans HQ1.out
            have hp1 := (HB2.out.block _ (blk_lt HP1.out)).trans HP1.out
            have hA1 := (HB2.out.block _ (blk_lt HAx.out)).trans HAx.out
            have hI1 := (HB2.out.block _ (blk_lt HIx.out)).trans HIx.out
            obtain ⟨a0, a1⟩ := cells_blk hq1
            obtain ⟨b0, b1, b2', b3, _⟩ := four_blk hp1
            obtain ⟨c0, c1⟩ := cells_blk hA1
            obtain ⟨d0, d1⟩ := cells_blk HQ2.out
            obtain ⟨e0, e1, e2, e3, _⟩ := four_blk HP2.out
            have la := blk_lt hq1
            have lb := blk_lt hp1
            have lc := blk_lt hA1
            have ld := blk_lt HQ2.out
            have le := blk_lt HP2.out
            have HI1 := Lib.hid hI1
            have Hp1 := Lib.hid hp1
            have Hby := Lib.hid (Hbx.out.trans (HB2.out.mono Hbx.out.size))
            clear hM hq1 hp1 hA1 hI1 HIx HAx HGx HRx HTl HT HTT HO1 HO2 Hall Hg
            go_wp2_with fail
            refine Comes_calls _ _ _ _ O1.out _ _ _ HV3.out HV2.out _ (fun wz hbz => ?_)
            have hzz := hbz.size
            have HMz := Lib.hid (HM.out.up hbz hzz)
            have hIz := (hbz.block _ (blk_lt HI1.out)).trans HI1.out
            obtain ⟨i0, i1⟩ := cells_blk hIz
            have li := blk_lt hIz
            have hp1z := (hbz.block _ (blk_lt Hp1.out)).trans Hp1.out
            have hp2z := (hbz.block _ (blk_lt HP2.out)).trans HP2.out
            clear b0 b1 b2' b3 e0 e1 e2 e3
            obtain ⟨b0, b1, b2', b3, _⟩ := four_blk hp1z
            obtain ⟨e0, e1, e2, e3, _⟩ := four_blk hp2z
            have lbz := blk_lt hp1z
            have lez := blk_lt hp2z
            have Hbzz := Lib.hid (Hby.out.trans (hbz.mono Hby.out.size))
            clear hbz hIz a0 a1 c0 c1 d0 d1 la lb lc ld le HM hp1z hp2z
            go_wp2_with fail
            clear i0 i1 li b0 b1 b2' b3 e0 e1 e2 e3 lbz lez
            go_loopg [21, 22] (N - rs.length) (fun gh s21 s22 wr => ∃ i : Nat, rs.length ≤ i ∧ i ≤ N ∧ gh = N - i ∧ s21 = .int .i64 (i : Int) ∧ wr = wz)
            case atStart => exact ⟨rs.length, Nat.le_refl _, hrN, by omega, rfl, rfl⟩
            case round =>
              obtain ⟨i, hi1, hi2, rfl, rfl, rfl⟩ := hrel
              have m0 : (0 : Int) ≤ (i : Int) := Int.natCast_nonneg _
              by_cases hiN : i < N
              · have m1' : (i : Int) < (N : Int) := by omega
                obtain ⟨b9, o9, u9, rfl, hb9, p9, hrow⟩ := HMz.out.slice_at_ (k := i) (by rw [HTN.out]; exact hiN)
                obtain ⟨A9, c9, rfl, _, _, hrow⟩ := hrow.cases_
                have Hzz := Lib.hid (HTz.out i (by rw [HTN.out]; exact hiN))
                generalize TT[i]'(by rw [HTN.out]; exact hiN) = row at *
                have Hrow := Lib.hid hrow
                clear hrow
                go_wp2_with fail
                go_loopg [22] row.length (fun gh s22 wr' => ∃ k : Nat, k ≤ row.length ∧ gh = row.length - k ∧ s22 = .int .i64 (k : Int) ∧ wr' = wr)
                case atStart => exact ⟨0, Nat.zero_le _, rfl, rfl, rfl⟩
                case round =>
                  obtain ⟨k, hk, rfl, rfl, rfl⟩ := hrel
                  have n0 : (0 : Int) ≤ (k : Int) := Int.natCast_nonneg _
                  by_cases hkr : k < row.length
                  · have n1 : (k : Int) < (row.length : Int) := by omega
                    obtain ⟨bb, ob, rfl, hbb, pb⟩ := Hrow.out.int_at hkr
                    rw [Hzz.out k hi1] at pb
                    go_wp2
                    go_roundg (row.length - (k + 1))
                    case measure => omega
                    case rel => exact ⟨k + 1, hkr, rfl, by go_num, rfl⟩
                  · obtain rfl : k = row.length := by omega
                    have n1 : ¬ (row.length : Int) < (row.length : Int) := by omega
                    go_wp2
                    go_roundg (N - (i + 1))
                    case measure => omega
                    case rel => exact ⟨i + 1, by omega, hiN, rfl, by go_num, rfl⟩
              · obtain rfl : i = N := by omega
                have m1' : ¬ (i : Int) < (i : Int) := by omega
                have Hfin := Lib.hid (HR.out _ Hbzz.out)
                go_wp2
                exact Hfin.out
end Go.Proofs.YtemakpjickbmnaaDoor
