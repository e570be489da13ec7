/- BundleBytes, as the document says it. -/
import Derived.Test.YtfhnmbnniklmiaaDoorBase
import Derived.Test.YtfhnmbnniklmiaaDoorRows
import Derived.IntWalk
import Derived.Deep.LoopGhost
import Derived.Deep.CutBlock
import Derived.Deep.DeepCutAuto
import Derived.Deep.RegionHeld3
import Derived.Deep.RegionLaw
import Derived.Outline
import Derived.Test.YtfhnmbnniklmiaaDoorAppS
import Derived.Test.YtfhnmbnniklmiaaDoorBun5
import Derived.Test.YtfhnmbnniklmiaaDoorLink1
namespace Go.Proofs.YtfhnmbnniklmiaaDoor
open Go.RowKit
set_option linter.unusedSimpArgs false
set_option linter.unusedVariables false

/-- A row of bytes that grows, from a world on: bs. -/
structure GB (base : Nat) (v0 : Value) (W : World) (v : Value) (bs : List UInt8) (w : World) : Prop where
  buf : Buf w base v bs
  gr : Grew (fun k => v0.ownBlock = some k) W w
  came : Came W v0 v
  hb : base ≤ W.heap.size
theorem GB.below {base : Nat} {v0 v : Value} {W w w' : World} {bs : List UInt8} (h : GB base v0 W v bs w) (hb : Below w.heap.size w w') : GB base v0 W v bs w' := ⟨h.buf.below hb (Nat.le_refl _), h.gr.on hb, h.came, h.hb⟩
theorem GB.app {base : Nat} {v0 v v' : Value} {W w w' : World} {bs cs : List UInt8} (h : GB base v0 W v bs w) (hb : Buf w' base v' cs) (hg : Grew (fun k => v.ownBlock = some k) w w') (hc : Came w v v') : GB base v0 W v' cs w' :=
  ⟨hb, h.gr.trans hg (fun j hj e => by
    rcases h.came j e with h1 | h1
    · exact h1
    · omega), h.came.trans hc h.gr.size, h.hb⟩
theorem GB.base {base : Nat} {v0 v : Value} {W w : World} {bs : List UInt8} (h : GB base v0 W v bs w) : base ≤ w.heap.size := Nat.le_trans h.hb h.gr.size
theorem posN_here {N : List ByteArray} {nm : ByteArray} {p : Nat} (hp : p ≤ N.length) (hlo : ∀ j x, j < p → N[j]? = some x → ltB x nm = true) (hst : ∀ x, N[p]? = some x → ltB x nm = false) : p = posN N nm := by
  rcases Nat.lt_trichotomy p (posN N nm) with h | h | h
  · have := posN_le N nm
    have e := List.getElem?_eq_getElem (show p < N.length by omega)
    have h1 := posN_low h e
    rw [hst _ e] at h1
    cases h1
  · exact h
  · have e := List.getElem?_eq_getElem (show posN N nm < N.length by omega)
    have h1 := hlo _ _ h e
    rw [posN_stop e] at h1
    cases h1
theorem nil_own (k : Nat) (h : (Value.slice none 0 0).ownBlock = some k) : False := by simp [Value.ownBlock] at h
/-- The names of entries. -/
def namesE (E : List (ByteArray × Nat)) : List ByteArray := E.map Prod.fst
theorem namesE_len (E : List (ByteArray × Nat)) : (namesE E).length = E.length := by unfold namesE; rw [List.length_map]
theorem insE_fst (ps : List (ByteArray × Nat)) (e : ByteArray × Nat) : namesE (addE [] (ps ++ [e])) = (namesE (addE [] ps)).take (posN (namesE (addE [] ps)) e.1) ++ [e.1] ++ (namesE (addE [] ps)).drop (posN (namesE (addE [] ps)) e.1) := by
  unfold namesE
  rw [addE_snoc, insE_names]
  unfold insN
  simp

set_option maxRecDepth 100000 in
set_option maxHeartbeats 16000000 in
theorem BundleBytes_calls (l : List Object) (v : Value) (w : World) (h : rpObject.SL w w.heap.size l v) (hok : BunOk l) (hwide : ∀ o ∈ l, Wide o) (R : Ending → World → Prop)
    (hR : ∀ w' v', Below w.heap.size w w' → Buf w' w.heap.size v' (packB l) → R (.returned v') w') :
    Calls Tryd.prog 48 #[v] w R := by
  obtain ⟨A, c, rfl, hm, hcap, h⟩ := h.cases_
  have HR := Lib.hid hR
  have H := Lib.hid h
  have Hok := Lib.hid hok
  have Hwide := Lib.hid hwide
  have hfew := hok.few
  have hblen := bunB_len hok
  have hilen := idxL_len hok
  have Hnd := Lib.hid (bun_nodup hok)
  have hps := pairs_some hok
  obtain ⟨W0, hW0⟩ : ∃ W0, W0 = w.alloc (Obj.cells #[.int .u8 76, .int .u8 73, .int .u8 66] 5) := ⟨_, rfl⟩
  have hgb0 : GB w.heap.size (.slice none 0 0) w (.slice (some ⟨w.heap.size, 0, none⟩) 3 3) [76, 73, 66] W0 := by
    subst hW0
    refine ⟨.inl ⟨rfl, .inr ⟨w.heap.size, 3, _, rfl, Nat.le_refl _, heap_alloc_new _ _, Nat.le_refl _, by unfold maxLen; omega, rfl, rfl⟩⟩, (Grew.refl _ _).alloc _, Came.of_lies (.inr rfl), Nat.le_refl _⟩
  have Hgb0 := Lib.hid hgb0
  have HW := Lib.hid hW0.symm
  clear hR h hok hwide hW0 hgb0
  go_enter Tryd.func48, Tryd.ntmps48
  go_wp2_with fail
  rw [HW.out]
  refine numbered_calls l.length _ _ (by omega) (fun w1 v1 hb1 hbuf1 => ?_)
  have hgb1 := Hgb0.out.below hb1
  have hl1 := numB_len l.length
  have Hgb1 := Lib.hid hgb1
  have Hs1 := Lib.hid (hbuf1.SL (Nat.le_refl _))
  have hbz1 := hgb1.base
  have htot : (76 :: 73 :: 66 :: numB l.length) ++ (numB (idxL l).length ++ ((idxL l).flatMap entB ++ l.flatMap objB)) = bunB l := rfl
  have Htot := Lib.hid htot
  generalize hL : numB l.length = L at *
  obtain ⟨A1, c1, rfl⟩ := hbuf1.slice
  clear hb1 hbuf1 hgb1 hL htot HW
  go_wp2_with (at_builtin; refine wpList_app_buf _ rfl _ _ _ rfl Tryd.underlying39 rfl Hgb1.out.buf rfl Hs1.out (by simp; omega) hbz1 ?_)
  intro v2 W1 hb2 hg2 hc2
  have hgb2 := Hgb1.out.app hb2 hg2 hc2
  obtain ⟨A2, c2, rfl⟩ := hb2.slice
  have Hgb2 := Lib.hid hgb2
  have hbw1 : Below w.heap.size w W1 := hgb2.gr.below (fun k hk e => by cases e) (Nat.le_refl _)
  have Hbw1 := Lib.hid hbw1
  have hzW1 := hbw1.size
  generalize (76 :: 73 :: 66 :: L : List UInt8) = cur0 at *
  clear hb2 hg2 hc2 hgb2 hbw1
  go_upto_block 0 with fail
  go_cut [4] (fun s4 wx => wx.ownsRow W1.heap.size 9 1 s4 (namesE (idxL l)).length ((namesE (idxL l)).flatMap strCells) ∧ Below W1.heap.size W1 wx)
  case first =>
    go_wp2_with fail
    go_loopg [4, 5, 6, 7, 8] l.length (fun gh s4 s5 s6 s7 s8 wr => ∃ k : Nat, k ≤ l.length ∧ gh = l.length - k ∧ s5 = .int .i64 (k : Int) ∧ wr.ownsRow W1.heap.size 9 1 s4 (namesE (addE [] (pairsTo l k))).length ((namesE (addE [] (pairsTo l k))).flatMap strCells) ∧ Below W1.heap.size W1 wr)
    case atStart => exact ⟨0, Nat.zero_le _, rfl, rfl, World.ownsRow_nil _ _ _ _, Below.refl _ _⟩
    case round =>
      obtain ⟨k, hk, rfl, rfl, hown, hbel⟩ := hrel
      have Hown := Lib.hid hown
      have Hbel := Lib.hid hbel
      have hz := hbel.size
      have hbw := Hbw1.out.trans (hbel.mono hzW1)
      have Hbw := Lib.hid hbw
      have j1 : (0 : Int) ≤ (k : Int) := Int.natCast_nonneg _
      obtain ⟨A4, c4, rfl⟩ := own_slice hown
      by_cases hlt : k < l.length
      · obtain ⟨b, off, o, v1, v2, rfl, hb, e, h1, h2, r0, r1⟩ := H.out.object_at hlt
        obtain ⟨A3, n3, rfl, _, _, h2⟩ := h2.cases_
        have j2 : (k : Int) < (l.length : Int) := by omega
        have E := Lib.hid e
        have H2 := Lib.hid h2
        have HP1 : Hid (∀ W, Below w.heap.size w W → W.cell? ⟨b, off + k * 2 + 1, none⟩ = some (.slice A3 o.sections.length n3)) := Lib.hid fun W h => (h.cell (p := ⟨b, off + k * 2 + 1, none⟩) hb).trans r1
        clear hown hbel hbw r0 r1 e h1 h2
        go_wp2_with fail
        go_loopg [4, 6, 7, 8] o.sections.length (fun gi s4 s6 s7 s8 wi => ∃ (j : Nat) (ps : List (ByteArray × Nat)), j ≤ o.sections.length ∧ gi = o.sections.length - j ∧ s6 = .int .i64 (j : Int) ∧ ps = pairsTo l k ++ (pairsAt o k).take j ∧ wi.ownsRow W1.heap.size 9 1 s4 (namesE (addE [] ps)).length ((namesE (addE [] ps)).flatMap strCells) ∧ Below W1.heap.size W1 wi)
        case atStart => exact ⟨0, pairsTo l k, Nat.zero_le _, rfl, rfl, by simp, Hown.out, Hbel.out⟩
        case round =>
          rename World => wi
          obtain ⟨j, ps, hj, rfl, rfl, hps2, hown, hbel⟩ := hrel
          have Hps := Lib.hid hps2
          have Hown2 := Lib.hid hown
          have Hbi := Lib.hid hbel
          have hzi := hbel.size
          have hbwi := Hbw1.out.trans (hbel.mono hzW1)
          have p1 := HP1.out wi hbwi
          have j3 : (0 : Int) ≤ (j : Int) := Int.natCast_nonneg _
          obtain ⟨A5, c5, rfl⟩ := own_slice hown
          by_cases hjl : j < o.sections.length
          · obtain ⟨b5, o5, s, v5, v6, rfl, hb5, e5, h5, h6, q0, q1, q2⟩ := H2.out.section_at hjl
            have p2 := (hbwi.cell (p := ⟨b5, o5 + j * 3, none⟩) hb5).trans q0
            have j4 : (j : Int) < (o.sections.length : Int) := by omega
            have E5 := Lib.hid e5
            have hpl : Hid (ps.length < (pairsTo l l.length).length) := Lib.hid (by rw [hps2]; exact pairs_few E.out e5)
            have hel : (addE [] ps).length = ps.length := by rw [addE_len]; simp
            have hNl : (namesE (addE [] ps)).length ≤ 100000 := by rw [namesE_len, hel]; have := hpl.out; omega
            have Hst : Hid (namesE (addE [] (ps ++ [(s.name, k)])) = (namesE (addE [] ps)).take (posN (namesE (addE [] ps)) s.name) ++ [s.name] ++ (namesE (addE [] ps)).drop (posN (namesE (addE [] ps)) s.name)) := Lib.hid (insE_fst ps (s.name, k))
            have Hps3 : Hid (ps ++ [(s.name, k)] = pairsTo l k ++ (pairsAt o k).take (j + 1)) := Lib.hid (by rw [Hps.out, pairsAt_step E5.out, List.append_assoc])
            have HP5 : Hid (rpStr.SL wi wi.heap.size (namesE (addE [] ps)) (.slice A5 (namesE (addE [] ps)).length c5)) := Lib.hid (SLstr_own hown (Nat.le_refl _))
            generalize namesE (addE [] ps) = N at *
            clear hps2 hown hbel hbwi q0 q1 q2 e5 h5 h6 hel
            go_upto_block 4 with fail
            go_cut [8] (fun s8 wx => s8 = .int .i64 (posN N s.name : Int) ∧ wx = wi)
            case first =>
              go_wp2_with fail
              go_loopg [8] N.length (fun ga s8 wa => ∃ t : Nat, t ≤ N.length ∧ ga = N.length - t ∧ s8 = .int .i64 (t : Int) ∧ (∀ i x, i < t → N[i]? = some x → ltB x s.name = true) ∧ wa = wi)
              case atStart => exact ⟨0, Nat.zero_le _, rfl, rfl, fun i x h => absurd h (Nat.not_lt_zero _), rfl⟩
              case round =>
                obtain ⟨t, ht, rfl, rfl, hlo, rfl⟩ := hrel
                have Hlo := Lib.hid hlo
                have t0 : (0 : Int) ≤ (t : Int) := Int.natCast_nonneg _
                clear hlo
                by_cases htl : t < N.length
                · obtain ⟨g, og, x, rfl, hbg, ex, q0⟩ := HP5.out.str_at htl
                  have t1 : (t : Int) < (N.length : Int) := by omega
                  have Ex := Lib.hid ex
                  have hls := ltB_less x s.name
                  clear ex
                  cases hq : ltB x s.name with
                  | true =>
                    rw [hq] at hls
                    have Hlo2 : Hid (∀ i x, i < t + 1 → N[i]? = some x → ltB x s.name = true) := Lib.hid fun i y hi hy => by
                      rcases Nat.lt_or_ge i t with h1 | h1
                      · exact Hlo.out i y h1 hy
                      · obtain rfl : i = t := by omega
                        obtain rfl : x = y := Option.some.inj (Ex.out.symm.trans hy)
                        exact hq
                    clear hq
                    go_wp2
                    go_roundg (N.length - (t + 1))
                    case measure => omega
                    case rel => exact ⟨t + 1, htl, rfl, by go_num, Hlo2.out, rfl⟩
                  | false =>
                    rw [hq] at hls
                    have hpos : t = posN N s.name := posN_here ht Hlo.out fun y hy => by
                      obtain rfl : x = y := Option.some.inj (Ex.out.symm.trans hy)
                      exact hq
                    have Hpos := Lib.hid hpos
                    clear hq hpos
                    go_wp2
                    go_meet
                    exact ⟨by rw [← Hpos.out], rfl⟩
                · obtain rfl : t = N.length := by omega
                  have t1 : ¬ (N.length : Int) < (N.length : Int) := by omega
                  have hpos : N.length = posN N s.name := posN_here ht Hlo.out fun y hy => by simp at hy
                  have Hpos := Lib.hid hpos
                  clear hpos
                  go_wp2
                  go_meet
                  exact ⟨by rw [← Hpos.out], rfl⟩
            case rest =>
              obtain ⟨rfl, rfl⟩ := hcut
              rename World => wi
              have hpl2 := posN_le N s.name
              generalize posN N s.name = t at *
              have t0 : (0 : Int) ≤ (t : Int) := Int.natCast_nonneg _
              have t1 : (t : Int) ≤ (N.length : Int) := by omega
              have hcap5 : N.length ≤ c5 := own_cap Hown2.out
              have t2 : (t : Int) ≤ (c5 : Int) := by omega
              have t3 : (N.length : Int) ≤ (c5 : Int) := by omega
              have hB0 := Below.refl wi.heap.size wi
              have hB1 := hB0.drew
              have hB2 := hB0.alloc (Nat.le_refl _) (Obj.cells #[.string s.name] 9)
              have hB3 := hB2.drew
              have HSt : Hid (∀ W u, Below wi.heap.size wi W → u = .slice A5 t c5 → rpStr.SL W W.heap.size (N.take t) u) := Lib.hid fun W u hW e => by
                subst e
                exact (HP5.out.up hW hW.size).take_ hpl2
              have Hnew : Hid (∀ (W : World) (B : Nat), W.heap[B]? = some (.cells #[.string s.name] 9 (0, 0)) → rpStr.SL W W.heap.size [s.name] (.slice (some ⟨B, 0, none⟩) 1 1)) := Lib.hid fun W B hW =>
                SLstr_own (xs := [s.name]) (base := 0) ⟨rfl, .inr ⟨B, 1, _, rfl, Nat.zero_le _, hW, Nat.le_refl _, by decide, rfl, rfl⟩⟩ (Nat.le_refl _)
              have HN0 := Lib.hid (heap_alloc_new wi (Obj.cells #[.string s.name] 9))
              have hzi2 : W1.heap.size ≤ wi.heap.size := by omega
              clear p1 p2
              by_cases hA : A5 = none
              · subst hA
                obtain rfl : N = [] := by
                  rcases Nat.eq_zero_or_pos N.length with h0 | hp
                  · exact List.eq_nil_of_length_eq_zero h0
                  · obtain ⟨g, og, x, hA, _⟩ := HP5.out.str_at hp
                    cases hA
                obtain rfl : t = 0 := by simpa using hpl2
                have HSd : Hid (∀ W u, Below wi.heap.size wi W → u = .slice none 0 c5 → rpStr.SL W W.heap.size (([] : List ByteArray).drop 0) u) := Lib.hid fun W u hW e => by
                  subst e
                  exact ⟨none, c5, rfl, Nat.zero_le _, Nat.zero_le _, fun h => absurd h (Nat.lt_irrefl 0)⟩
                go_upto_region 13 with fail
                go_region_held3 (fun _ : World => True) (exact trivial) (first
                  | (refine step_app_strs (w5.alloc (Obj.cells #[.string s.name] 9)) rfl (.tmp 58) (.tmp 60) _ rfl Tryd.underlying23 (base := wi.heap.size) (v := v5) (u := .slice (some ⟨w5.heap.size, 0, none⟩) 1 1) (xs := ([] : List ByteArray).take 0) (ys := [s.name]) (by simp [Act.eval, Act.put]) (own_below hown5 ((Below.refl _ _).alloc (Nat.le_refl _) _)) (by simp [Act.eval, Act.put]) (Hnew.out _ _ (heap_alloc_new _ _)) (by simp <;> omega) (by have := hb5.size; simp <;> omega) ?_; intro v6 w6 hown6 hg6 hc6; have hb6 : Below wi.heap.size wi w6 := (hb5.alloc hb5.size _).trans (hg6.below (fun k hk e => by have := (hown5.lt k e).1; omega) (by have := hb5.size; simp <;> omega)))
                  | (refine step_app_strs w5 rfl (.tmp 58) (.tmp 60) _ rfl Tryd.underlying23 (base := wi.heap.size) (v := v5) (u := .slice (some ⟨wi.heap.size, 0, none⟩) 1 1) (xs := ([] : List ByteArray).take 0) (ys := [s.name]) (by simp [Act.eval, Act.put]) hown5 (by simp [Act.eval, Act.put]) (Hnew.out _ _ HX5.out) (by simp <;> omega) hb5.size ?_; intro v6 w6 hown6 hg6 hc6; have hb6 : Below wi.heap.size wi w6 := hb5.trans (hg6.below (fun k hk e => by have := (hown5.lt k e).1; omega) hb5.size))
                  | (refine step_app_strs w6 rfl (.tmp 61) (.tmp 64) _ rfl Tryd.underlying23 (base := wi.heap.size) (v := v6) (u := .slice none 0 c5) (xs := ([] : List ByteArray).take 0 ++ [s.name]) (ys := ([] : List ByteArray).drop 0) (by simp [Act.eval, Act.put]) hown6 (by simp [Act.eval, Act.put]) (HSd.out _ _ hb6 rfl) (by simp <;> omega) hb6.size ?_; intro v7 w7 hown7 hg7 hc7; have hb7 : Below wi.heap.size wi w7 := hb6.trans (hg7.below (fun k hk e => by have := (hown6.lt k e).1; omega) hb6.size))
                  | (refine step_app_strs _ rfl (.const (.slice none 0 0)) (.tmp 57) _ rfl Tryd.underlying23 (base := wi.heap.size) (v := .slice none 0 0) (u := .slice none 0 c5) (xs := []) (ys := ([] : List ByteArray).take 0) (by simp [Act.eval]) (World.ownsRow_nil _ _ _ _) (by simp [Act.eval, Act.put]) (HSt.out _ _ (by first | with_reducible exact hB0 | with_reducible exact hB1 | with_reducible exact hB2 | with_reducible exact hB3) rfl) (by simp <;> omega) (by first | with_reducible exact hB0.size | with_reducible exact hB1.size | with_reducible exact hB2.size | with_reducible exact hB3.size) ?_; intro v5 w5 hown5 hg5 hc5; have hb5 : Below wi.heap.size wi w5 := (by first | with_reducible exact hB0.trans (hg5.below (fun k _ e => nil_own k e) hB0.size) | with_reducible exact hB1.trans (hg5.below (fun k _ e => nil_own k e) hB1.size) | with_reducible exact hB2.trans (hg5.below (fun k _ e => nil_own k e) hB2.size) | with_reducible exact hB3.trans (hg5.below (fun k _ e => nil_own k e) hB3.size)); first | (have HX5 : Hid (w5.heap[wi.heap.size]? = some (.cells #[.string s.name] 9 (0, 0))) := Lib.hid ((hg5.block wi.heap.size (by simp) (fun e => nil_own _ e)).trans (by exact HN0.out))) | skip))
                all_goals
                  have Hown7 : Hid (w7.ownsRow W1.heap.size 9 1 v7 (namesE (addE [] (ps ++ [(s.name, k)]))).length ((namesE (addE [] (ps ++ [(s.name, k)]))).flatMap strCells)) := Lib.hid (by rw [Hst.out]; exact ownsRow_base hown7 hzi2)
                  have Hb7 := Lib.hid (Hbi.out.trans (hb7.mono hzi2))
                  go_wp2
                  go_roundg (o.sections.length - (j + 1))
                  case measure => omega
                  case rel => exact ⟨j + 1, ps ++ [(s.name, k)], hjl, rfl, by go_num, Hps3.out, Hown7.out, Hb7.out⟩
              · obtain ⟨g, hg⟩ : ∃ g, A5 = some ⟨g, 0, none⟩ := by
                  rcases Hown2.out.2 with ⟨h, _⟩ | ⟨g, _, _, h, _⟩
                  · injection h with h1
                    exact absurd h1 hA
                  · injection h with h1
                    exact ⟨g, h1⟩
                subst hg
                clear hA
                by_cases hct : c5 = t
                · subst hct
                  have hNc : N.length = c5 := by omega
                  have HSd : Hid (∀ W u, Below wi.heap.size wi W → u = .slice (some ⟨g, 0, none⟩) 0 0 → rpStr.SL W W.heap.size (N.drop c5) u) := Lib.hid fun W u hW e => by
                    subst e
                    rw [List.drop_of_length_le (by omega)]
                    exact ⟨_, 0, rfl, Nat.zero_le _, Nat.zero_le _, fun h => absurd h (Nat.lt_irrefl 0)⟩
                  go_upto_region 13 with fail
                  go_region_held3 (fun _ : World => True) (exact trivial) (first
                    | (refine step_app_strs (w5.alloc (Obj.cells #[.string s.name] 9)) rfl (.tmp 58) (.tmp 60) _ rfl Tryd.underlying23 (base := wi.heap.size) (v := v5) (u := .slice (some ⟨w5.heap.size, 0, none⟩) 1 1) (xs := (N).take c5) (ys := [s.name]) (by simp [Act.eval, Act.put]) (own_below hown5 ((Below.refl _ _).alloc (Nat.le_refl _) _)) (by simp [Act.eval, Act.put]) (Hnew.out _ _ (heap_alloc_new _ _)) (by simp <;> omega) (by have := hb5.size; simp <;> omega) ?_; intro v6 w6 hown6 hg6 hc6; have hb6 : Below wi.heap.size wi w6 := (hb5.alloc hb5.size _).trans (hg6.below (fun k hk e => by have := (hown5.lt k e).1; omega) (by have := hb5.size; simp <;> omega)))
                    | (refine step_app_strs w5 rfl (.tmp 58) (.tmp 60) _ rfl Tryd.underlying23 (base := wi.heap.size) (v := v5) (u := .slice (some ⟨wi.heap.size, 0, none⟩) 1 1) (xs := (N).take c5) (ys := [s.name]) (by simp [Act.eval, Act.put]) hown5 (by simp [Act.eval, Act.put]) (Hnew.out _ _ HX5.out) (by simp <;> omega) hb5.size ?_; intro v6 w6 hown6 hg6 hc6; have hb6 : Below wi.heap.size wi w6 := hb5.trans (hg6.below (fun k hk e => by have := (hown5.lt k e).1; omega) hb5.size))
                    | (refine step_app_strs w6 rfl (.tmp 61) (.tmp 64) _ rfl Tryd.underlying23 (base := wi.heap.size) (v := v6) (u := .slice (some ⟨g, 0, none⟩) 0 0) (xs := (N).take c5 ++ [s.name]) (ys := (N).drop c5) (by simp [Act.eval, Act.put]) hown6 (by simp [Act.eval, Act.put]) (HSd.out _ _ hb6 rfl) (by simp <;> omega) hb6.size ?_; intro v7 w7 hown7 hg7 hc7; have hb7 : Below wi.heap.size wi w7 := hb6.trans (hg7.below (fun k hk e => by have := (hown6.lt k e).1; omega) hb6.size))
                    | (refine step_app_strs _ rfl (.const (.slice none 0 0)) (.tmp 57) _ rfl Tryd.underlying23 (base := wi.heap.size) (v := .slice none 0 0) (u := .slice (some ⟨g, 0, none⟩) c5 c5) (xs := []) (ys := (N).take c5) (by simp [Act.eval]) (World.ownsRow_nil _ _ _ _) (by simp [Act.eval, Act.put]) (HSt.out _ _ (by first | with_reducible exact hB0 | with_reducible exact hB1 | with_reducible exact hB2 | with_reducible exact hB3) rfl) (by simp <;> omega) (by first | with_reducible exact hB0.size | with_reducible exact hB1.size | with_reducible exact hB2.size | with_reducible exact hB3.size) ?_; intro v5 w5 hown5 hg5 hc5; have hb5 : Below wi.heap.size wi w5 := (by first | with_reducible exact hB0.trans (hg5.below (fun k _ e => nil_own k e) hB0.size) | with_reducible exact hB1.trans (hg5.below (fun k _ e => nil_own k e) hB1.size) | with_reducible exact hB2.trans (hg5.below (fun k _ e => nil_own k e) hB2.size) | with_reducible exact hB3.trans (hg5.below (fun k _ e => nil_own k e) hB3.size)); first | (have HX5 : Hid (w5.heap[wi.heap.size]? = some (.cells #[.string s.name] 9 (0, 0))) := Lib.hid ((hg5.block wi.heap.size (by simp) (fun e => nil_own _ e)).trans (by exact HN0.out))) | skip))
                  all_goals
                    have Hown7 : Hid (w7.ownsRow W1.heap.size 9 1 v7 (namesE (addE [] (ps ++ [(s.name, k)]))).length ((namesE (addE [] (ps ++ [(s.name, k)]))).flatMap strCells)) := Lib.hid (by rw [Hst.out]; exact ownsRow_base hown7 hzi2)
                    have Hb7 := Lib.hid (Hbi.out.trans (hb7.mono hzi2))
                    go_wp2
                    go_roundg (o.sections.length - (j + 1))
                    case measure => omega
                    case rel => exact ⟨j + 1, ps ++ [(s.name, k)], hjl, rfl, by go_num, Hps3.out, Hown7.out, Hb7.out⟩
                · have HSd : Hid (∀ W u, Below wi.heap.size wi W → u = .slice (some ⟨g, t, none⟩) (N.length - t) (c5 - t) → rpStr.SL W W.heap.size (N.drop t) u) := Lib.hid fun W u hW e => by
                    subst e
                    exact (HP5.out.up hW hW.size).drop_ hpl2 t (fun _ => by simp [rpStr])
                  have t4 : ¬ (c5 : Int) = (t : Int) := by omega
                  go_upto_region 13 with fail
                  go_region_held3 (fun _ : World => True) (exact trivial) (first
                    | (refine step_app_strs (w5.alloc (Obj.cells #[.string s.name] 9)) rfl (.tmp 58) (.tmp 60) _ rfl Tryd.underlying23 (base := wi.heap.size) (v := v5) (u := .slice (some ⟨w5.heap.size, 0, none⟩) 1 1) (xs := (N).take t) (ys := [s.name]) (by simp [Act.eval, Act.put]) (own_below hown5 ((Below.refl _ _).alloc (Nat.le_refl _) _)) (by simp [Act.eval, Act.put]) (Hnew.out _ _ (heap_alloc_new _ _)) (by simp <;> omega) (by have := hb5.size; simp <;> omega) ?_; intro v6 w6 hown6 hg6 hc6; have hb6 : Below wi.heap.size wi w6 := (hb5.alloc hb5.size _).trans (hg6.below (fun k hk e => by have := (hown5.lt k e).1; omega) (by have := hb5.size; simp <;> omega)))
                    | (refine step_app_strs w5 rfl (.tmp 58) (.tmp 60) _ rfl Tryd.underlying23 (base := wi.heap.size) (v := v5) (u := .slice (some ⟨wi.heap.size, 0, none⟩) 1 1) (xs := (N).take t) (ys := [s.name]) (by simp [Act.eval, Act.put]) hown5 (by simp [Act.eval, Act.put]) (Hnew.out _ _ HX5.out) (by simp <;> omega) hb5.size ?_; intro v6 w6 hown6 hg6 hc6; have hb6 : Below wi.heap.size wi w6 := hb5.trans (hg6.below (fun k hk e => by have := (hown5.lt k e).1; omega) hb5.size))
                    | (refine step_app_strs w6 rfl (.tmp 61) (.tmp 64) _ rfl Tryd.underlying23 (base := wi.heap.size) (v := v6) (u := .slice (some ⟨g, t, none⟩) (N.length - t) (c5 - t)) (xs := (N).take t ++ [s.name]) (ys := (N).drop t) (by simp [Act.eval, Act.put]) hown6 (by simp [Act.eval, Act.put]) (HSd.out _ _ hb6 rfl) (by simp <;> omega) hb6.size ?_; intro v7 w7 hown7 hg7 hc7; have hb7 : Below wi.heap.size wi w7 := hb6.trans (hg7.below (fun k hk e => by have := (hown6.lt k e).1; omega) hb6.size))
                    | (refine step_app_strs _ rfl (.const (.slice none 0 0)) (.tmp 57) _ rfl Tryd.underlying23 (base := wi.heap.size) (v := .slice none 0 0) (u := .slice (some ⟨g, 0, none⟩) t c5) (xs := []) (ys := (N).take t) (by simp [Act.eval]) (World.ownsRow_nil _ _ _ _) (by simp [Act.eval, Act.put]) (HSt.out _ _ (by first | with_reducible exact hB0 | with_reducible exact hB1 | with_reducible exact hB2 | with_reducible exact hB3) rfl) (by simp <;> omega) (by first | with_reducible exact hB0.size | with_reducible exact hB1.size | with_reducible exact hB2.size | with_reducible exact hB3.size) ?_; intro v5 w5 hown5 hg5 hc5; have hb5 : Below wi.heap.size wi w5 := (by first | with_reducible exact hB0.trans (hg5.below (fun k _ e => nil_own k e) hB0.size) | with_reducible exact hB1.trans (hg5.below (fun k _ e => nil_own k e) hB1.size) | with_reducible exact hB2.trans (hg5.below (fun k _ e => nil_own k e) hB2.size) | with_reducible exact hB3.trans (hg5.below (fun k _ e => nil_own k e) hB3.size)); first | (have HX5 : Hid (w5.heap[wi.heap.size]? = some (.cells #[.string s.name] 9 (0, 0))) := Lib.hid ((hg5.block wi.heap.size (by simp) (fun e => nil_own _ e)).trans (by exact HN0.out))) | skip))
                  all_goals
                    have Hown7 : Hid (w7.ownsRow W1.heap.size 9 1 v7 (namesE (addE [] (ps ++ [(s.name, k)]))).length ((namesE (addE [] (ps ++ [(s.name, k)]))).flatMap strCells)) := Lib.hid (by rw [Hst.out]; exact ownsRow_base hown7 hzi2)
                    have Hb7 := Lib.hid (Hbi.out.trans (hb7.mono hzi2))
                    go_wp2
                    go_roundg (o.sections.length - (j + 1))
                    case measure => omega
                    case rel => exact ⟨j + 1, ps ++ [(s.name, k)], hjl, rfl, by go_num, Hps3.out, Hown7.out, Hb7.out⟩
          · obtain rfl : j = o.sections.length := by omega
            have hps' : ps = pairsTo l (k + 1) := by
              rw [hps2, pairs_step E.out, List.take_of_length_le (by unfold pairsAt; rw [List.length_map]; exact Nat.le_refl _)]
            have Hps' := Lib.hid hps'
            have j4 : ¬ (o.sections.length : Int) < (o.sections.length : Int) := by omega
            clear hps2 hown hbel hps'
            go_wp2
            go_roundg (l.length - (k + 1))
            case measure => omega
            case rel => exact ⟨k + 1, hlt, rfl, by go_num, by rw [← Hps'.out]; exact Hown2.out, Hbi.out⟩
      · obtain rfl : k = l.length := by omega
        have j2 : ¬ (l.length : Int) < (l.length : Int) := by omega
        go_wp2
        go_meet
        exact ⟨Hown.out, Hbel.out⟩
  case rest =>
    obtain ⟨hown, hbel⟩ := hcut
    rename World => W2
    obtain ⟨A4, c4, rfl⟩ := own_slice hown
    have hz2 := hbel.size
    have hgbs := Hgb2.out.below hbel
    have hbw2 := Hbw1.out.trans (hbel.mono hzW1)
    have hne2 : ∀ k, (Value.slice A4 (namesE (idxL l)).length c4).ownBlock = some k → ¬ (Value.slice A2 cur0.length c2).ownBlock = some k := fun k h1 h2 => by
      have := (hown.lt k h1).1
      have := (Hgb2.out.buf.lt k h2).2
      omega
    have HN : Hid (∀ W, Grew (fun k => (Value.slice A2 cur0.length c2).ownBlock = some k) W2 W → rpStr.SL W W.heap.size (namesE (idxL l)) (.slice A4 (namesE (idxL l)).length c4)) := Lib.hid fun W hW => SLstr_own (own_grew hown hW hne2) (Nat.le_refl _)
    have HO : Hid (∀ W, Grew (fun k => (Value.slice A2 cur0.length c2).ownBlock = some k) W2 W → Below w.heap.size w W) := Lib.hid fun W hW => hbw2.trans (hW.below (fun k hk e => by have := (hgbs.buf.lt k e).1; omega) hbw2.size)
    have Hgb3 : Hid (GB w.heap.size (.slice A2 cur0.length c2) W2 (.slice A2 cur0.length c2) cur0 W2) := Lib.hid ⟨hgbs.buf, Grew.refl _ _, Came.refl _ _, hgbs.base⟩
    have hNl := namesE_len (idxL l)
    have HNg : Hid (∀ (k : Nat) nm, (namesE (idxL l))[k]? = some nm → ∃ ow : Nat, (idxL l)[k]? = some (nm, ow) ∧ ownerL l nm = (ow : Int) ∧ ow < 12 ∧ nm.size ≤ 12) := Lib.hid fun k nm h => by
      unfold namesE at h
      rw [List.getElem?_map, Option.map_eq_some_iff] at h
      obtain ⟨⟨nm', ow⟩, h1, rfl⟩ := h
      have h2 := idx_owner Hok.out (List.mem_of_getElem? h1)
      have h3 := idx_size Hok.out (List.mem_of_getElem? h1)
      exact ⟨ow, h1, h2.1, h3.2, h3.1⟩
    have htot2 := Htot.out
    rw [← hNl] at htot2
    have Htot2 := Lib.hid htot2
    have hcl0 : cur0.length ≤ 160000000 := by have := congrArg List.length htot2; rw [List.length_append] at this; omega
    have HNl := Lib.hid hNl
    generalize namesE (idxL l) = N at *
    have hN480 : N.length ≤ 480 := by omega
    have i2 : (N.length : Int) ≤ 480 := by omega
    clear hown hbel hgbs hbw2 hne2 htot2 Htot hNl
    go_wp2_with fail
    refine numbered_calls N.length _ _ (by omega) (fun w5 v5 hb5 hbuf5 => ?_)
    have hgb5 := Hgb3.out.below hb5
    have Hgb5 := Lib.hid hgb5
    have Hs5 := Lib.hid (hbuf5.SL (Nat.le_refl _))
    have hbz5 := hgb5.base
    have hl5 := numB_len N.length
    have htot3 : (cur0 ++ numB N.length) ++ ((idxL l).flatMap entB ++ l.flatMap objB) = bunB l := by rw [← Htot2.out, List.append_assoc]
    have Htot3 := Lib.hid htot3
    generalize numB N.length = L5 at *
    obtain ⟨A5, c5, rfl⟩ := hbuf5.slice
    clear hb5 hbuf5 hgb5 htot3
    go_wp2_with (at_builtin; refine wpList_app_buf _ rfl _ _ _ rfl Tryd.underlying39 rfl Hgb5.out.buf rfl Hs5.out (by omega) hbz5 ?_)
    intro v6 w6 hb6 hg6 hc6
    have Hgb6 := Lib.hid (Hgb5.out.app hb6 hg6 hc6)
    generalize cur0 ++ L5 = cur1 at *
    clear hb6 hg6 hc6
    go_wp2_with fail
    go_loopg [3, 9] N.length (fun gh s3 s9 wr => ∃ (k : Nat) (cur : List UInt8), k ≤ N.length ∧ gh = N.length - k ∧ s9 = .int .i64 (k : Int) ∧ cur ++ (((idxL l).drop k).flatMap entB ++ l.flatMap objB) = bunB l ∧ GB w.heap.size (.slice A2 cur0.length c2) W2 s3 cur wr)
    case atStart => exact ⟨0, _, Nat.zero_le _, rfl, rfl, Htot3.out, Hgb6.out⟩
    case round =>
      obtain ⟨k, cur, hk, rfl, rfl, hcur, hgb⟩ := hrel
      have hcl : cur.length ≤ 160000000 := by have := congrArg List.length hcur; rw [List.length_append] at this; omega
      have Hcur := Lib.hid hcur
      have Hgb := Lib.hid hgb
      have j1 : (0 : Int) ≤ (k : Int) := Int.natCast_nonneg _
      clear hcur hgb
      by_cases hlt : k < N.length
      · obtain ⟨g, og, nm, rfl, hg, ex, q0⟩ := (HN.out _ Hgb.out.gr).str_at hlt
        obtain ⟨ow, hx, how, ho12, hnsz⟩ := HNg.out k nm ex
        have hst := flat_step entB hx
        have Hst := Lib.hid hst
        have How := Lib.hid how
        have j2 : (k : Int) < (N.length : Int) := by omega
        have HSS : Hid (∀ W, Grew (fun k => (Value.slice A2 cur0.length c2).ownBlock = some k) W2 W → (fun W : World => W.cell? ⟨g, og + k, none⟩ = some (.string nm)) W) := Lib.hid fun W hW => by
          obtain ⟨g', og', nm', e1, _, e2, q1⟩ := (HN.out _ hW).str_at hlt
          injection e1 with e1
          injection e1 with e3 e4
          subst e3 e4
          obtain rfl : nm = nm' := Option.some.inj (ex.symm.trans e2)
          exact q1
        have hS0 := HSS.out wr.drew Hgb.out.gr.drew
        have hSa := HSS.out wr Hgb.out.gr
        have hnm : nm.size ≤ 1099511627776 := by omega
        have hl7 := textB_len nm
        have hl8 := numB_len ow
        have how2 : ow < 9223372036854775808 := by omega
        clear hx hst how q0 ex
        go_wp2
        go_region_held3 (fun W : World => W.cell? ⟨g, og + k, none⟩ = some (.string nm)) (first | with_reducible exact hS0 | with_reducible exact hSa | with_reducible exact hS5 | with_reducible exact hS6 | with_reducible exact hS7 | with_reducible exact hS8 | with_reducible exact hS9) (first
          | (go_at_call 34; with_reducible refine Owner_calls l _ nm w6 (H.out.up (HO.out _ Hgb6.out.gr) (HO.out _ Hgb6.out.gr).size) _ ?_; intro w7 hb7; rw [How.out]; have Hgb7 := Lib.hid (Hgb6.out.below hb7); have hS7 := HSS.out w7 Hgb7.out.gr; clear hb7)
          | (go_at_call 75; with_reducible refine numbered_calls ow w7 _ how2 ?_; intro w8 v8 hb8 hbuf8; have Hgb8 := Lib.hid (Hgb7.out.below hb8); have hS8 := HSS.out w8 Hgb8.out.gr; have Hbuf8 := Lib.hid hbuf8; clear hb8 hbuf8)
          | (refine step_app_buf w8 rfl (.tmp 83) (.tmp 90) _ rfl Tryd.underlying39 (by simp [Act.eval, Act.put]) Hgb8.out.buf (by simp [Act.eval, Act.put]) (Hbuf8.out.SL (Nat.le_refl _)) (by rw [List.length_append]; omega) Hgb8.out.base ?_; intro v9 w9 hb9 hg9 hc9; have Hgb9 := Lib.hid (Hgb8.out.app hb9 hg9 hc9); have hS9 := HSS.out w9 Hgb9.out.gr; clear hb9 hg9 hc9)
          | (refine step_app_buf w5 rfl (.tmp 77) (.tmp 82) _ rfl Tryd.underlying39 (by simp [Act.eval, Act.put]) Hgb5.out.buf (by simp [Act.eval, Act.put]) (Hbuf5.out.SL (Nat.le_refl _)) (by omega) Hgb5.out.base ?_; intro v6 w6 hb6 hg6 hc6; have Hgb6 := Lib.hid (Hgb5.out.app hb6 hg6 hc6); have hS6 := HSS.out w6 Hgb6.out.gr; clear hb6 hg6 hc6)
          | (go_at_call 76; with_reducible refine texted_calls nm _ _ hnm ?_; intro w5 v5 hb5 hbuf5; have hbe5 : Below wr.heap.size wr w5 := (by first | with_reducible exact hb5 | with_reducible exact below_of_drew hb5); have Hgb5 := Lib.hid (Hgb.out.below hbe5); have hS5 := HSS.out w5 Hgb5.out.gr; have Hbuf5 := Lib.hid hbuf5; clear hb5 hbuf5 hbe5))
        all_goals
          go_wp2
          go_roundg (N.length - (k + 1))
          case measure => omega
          case rel => exact ⟨k + 1, _, hlt, rfl, by go_num, by rw [← Hcur.out, Hst.out]; unfold entB; simp only [List.append_assoc], Hgb9.out⟩
      · obtain rfl : k = N.length := by omega
        have j2 : ¬ (N.length : Int) < (N.length : Int) := by omega
        have hcur2 : cur ++ l.flatMap objB = bunB l := by
          have := Hcur.out
          rw [List.drop_of_length_le (by rw [← HNl.out]; exact Nat.le_refl _)] at this
          simpa using this
        have Hcur2 := Lib.hid hcur2
        clear hcur2 Hcur
        go_wp2_with fail
        go_loopg [3, 10] l.length (fun gh s3 s10 wi => ∃ (k : Nat) (cur : List UInt8), k ≤ l.length ∧ gh = l.length - k ∧ s10 = .int .i64 (k : Int) ∧ cur ++ (l.drop k).flatMap objB = bunB l ∧ GB w.heap.size (.slice A2 cur0.length c2) W2 s3 cur wi)
        case atStart => exact ⟨0, _, Nat.zero_le _, rfl, rfl, Hcur2.out, Hgb.out⟩
        case round =>
          rename World => wi
          obtain ⟨k, cv, hk, rfl, rfl, hcv, hgbi⟩ := hrel
          have hcl2 : cv.length ≤ 160000000 := by have := congrArg List.length hcv; rw [List.length_append] at this; omega
          have hbw := HO.out _ hgbi.gr
          have Hcv := Lib.hid hcv
          have Hgbi := Lib.hid hgbi
          have k1 : (0 : Int) ≤ (k : Int) := Int.natCast_nonneg _
          clear hcv hgbi
          by_cases hlt : k < l.length
          · obtain ⟨b, off, o, u1, u2, rfl, hb, e, h1, h2, r0, r1⟩ := H.out.object_at hlt
            have p0 := (hbw.cell (p := ⟨b, off + k * 2, none⟩) hb).trans r0
            have p1 := (hbw.cell (p := ⟨b, off + k * 2 + 1, none⟩) hb).trans r1
            have k2 : (k : Int) < (l.length : Int) := by omega
            have hst := flat_step objB e
            have Hst := Lib.hid hst
            have hoo := (Hok.out.each k o e).ok
            have hwo := Hwide.out o (List.mem_of_getElem? e)
            have hsl : (savedB o).length ≤ 13000002 := by
              have h5 := bodyB_len hoo
              have h6 : (savedB o).length = (bodyB o).length + 2 := by unfold savedB sumB; simp
              omega
            have H1 := Lib.hid (h1.up hbw hbw.size)
            have H2 := Lib.hid (h2.up hbw hbw.size)
            have Hoo := Lib.hid hoo
            have Hwo := Lib.hid hwo
            clear r0 r1 e hst h1 h2 hoo hwo
            go_wp2_with fail
            refine ObjectBytes_calls o _ _ _ H1.out H2.out Hoo.out Hwo.out _ (fun w5 v5 hb5 hbuf5 => ?_)
            have Hgb5 := Lib.hid (Hgbi.out.below hb5)
            have hcv := conv_bytes (P := Tryd.prog) Tryd.underlying39 Tryd.underlying5 Tryd.underlying9 (hbuf5.SL (Nat.le_refl _))
            obtain ⟨A7, c7, rfl⟩ := hbuf5.slice
            have hss : (strL (savedB o)).size ≤ 1099511627776 := by rw [strL_size]; omega
            have hl9 := textB_len (strL (savedB o))
            have hl10 : (strL (savedB o)).size ≤ 13000002 := by rw [strL_size]; exact hsl
            clear hb5 hbuf5 p0 p1
            go_wp2_with fail
            refine texted_calls (strL (savedB o)) _ _ hss (fun w6 v6 hb6 hbuf6 => ?_)
            have Hgb6 := Lib.hid (Hgb5.out.below hb6)
            have Hs6 := Lib.hid (hbuf6.SL (Nat.le_refl _))
            have hbz6 := Hgb6.out.base
            obtain ⟨A8, c8, rfl⟩ := hbuf6.slice
            obtain ⟨A9, c9, h9⟩ := Hgb6.out.buf.slice
            subst h9
            clear hb6 hbuf6 hcv
            go_wp2_with (at_builtin; refine wpList_app_buf _ rfl _ _ _ rfl Tryd.underlying39 rfl Hgb6.out.buf rfl Hs6.out (by omega) hbz6 ?_)
            intro v7 w7 hb7 hg7 hc7
            have Hgb7 := Lib.hid (Hgb6.out.app hb7 hg7 hc7)
            clear hb7 hg7 hc7
            go_wp2
            go_roundg (l.length - (k + 1))
            case measure => omega
            case rel => exact ⟨k + 1, _, hlt, rfl, by go_num, by rw [← Hcv.out, Hst.out]; unfold objB; simp only [List.append_assoc], Hgb7.out⟩
          · obtain rfl : k = l.length := by omega
            have k2 : ¬ (l.length : Int) < (l.length : Int) := by omega
            have hcb : cv = bunB l := by have := Hcv.out; simpa using this
            have Hcb := Lib.hid hcb
            clear hcb
            go_wp2_with fail
            refine summed_calls _ cv w.heap.size _ Hgbi.out.buf (by omega) Hgbi.out.base _ (fun w9 v9 hg9 hb9 => ?_)
            rw [Hcb.out] at hb9
            have hfin := HR.out w9 v9 (hbw.trans (hg9.below (fun k hk e => by have := (Hgbi.out.buf.lt k e).1; omega) Hgbi.out.base)) hb9
            have Hfin := Lib.hid hfin
            clear hg9 hb9 hfin
            go_wp2
            exact Hfin.out
end Go.Proofs.YtfhnmbnniklmiaaDoor
