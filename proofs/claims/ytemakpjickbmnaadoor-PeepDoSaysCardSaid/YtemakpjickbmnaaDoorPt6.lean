/- The document's answer of peep: the first rule that fits, till none does; the law PeepDoSays. -/
import Derived.Test.YtemakpjickbmnaaDoorBase
import Derived.Test.YtemakpjickbmnaaDoorRows
import Derived.IntWalk
import Derived.Outline
import Derived.Deep.LoopGhost
import Derived.Deep.RegionLaw
import Derived.StillTailTactics
import Derived.Test.YtemakpjickbmnaaDoorPt5
import Derived.Test.YtemakpjickbmnaaDoorPkF
import Derived.Test.YtemakpjickbmnaaDoorRefA
import Derived.Test.YtemakpjickbmnaaDoorSameM
namespace Go.Proofs.YtemakpjickbmnaaDoor
open Go.RowKit
set_option linter.unusedSimpArgs false
set_option linter.unusedVariables false

theorem first_alone {l l' : List Mac} {i : Nat} (h : aloneR l i = some l') : firstR l i = some l' := by rw [firstR_eq, h]; rfl
theorem first_pair {l l' : List Mac} {i : Nat} (h1 : aloneR l i = none) (h : pairR l i = some l') : firstR l i = some l' := by rw [firstR_eq, h1, h]; rfl
theorem first_idle {l : List Mac} {i : Nat} (h1 : aloneR l i = none) (h2 : pairR l i = none) (h : idleM (atL l i) = true) : firstR l i = some (l.set i ⟨2, (atL l i).dst, (atL l i).a, 0, 0⟩) := by rw [firstR_eq, h1, h2]; unfold idleR; rw [if_pos h]; rfl
theorem first_none {l : List Mac} {i : Nat} (h1 : aloneR l i = none) (h2 : pairR l i = none) (h : idleM (atL l i) = false) : firstR l i = none := by rw [firstR_eq, h1, h2]; unfold idleR; rw [h]; rfl
set_option maxRecDepth 100000 in
set_option maxHeartbeats 4000000 in
theorem rOnce_calls (v : Value) (l : List Mac) (hok : MacsOk l) (w : World) (h : rpMac.SL w w.heap.size l v) (R : Ending → World → Prop)
    (hT : ∀ l', onceP l = some l' → ∀ w' v', Below w.heap.size w w' → rpMac.SL w' w'.heap.size l' v' → R (.returned (.tuple #[v', .bool true])) w')
    (hF : onceP l = none → ∀ w', Below w.heap.size w w' → R (.returned (.tuple #[v, .bool false])) w') :
    Calls Tryd.prog 41 #[v] w R := by
  have hfew := hok.few
  obtain ⟨A, c, rfl, hmx, hcap, hs⟩ := h.cases_
  have Hs := Lib.hid hs
  have Hok := Lib.hid hok
  have HT := Lib.hid hT
  have HF := Lib.hid hF
  clear hs h hok hT hF
  go_enter Tryd.func41, Tryd.ntmps41
  go_wp2_with fail
  refine Reached_calls _ l Hok.out _ Hs.out _ (fun w4 g4 hb4 hg4 hblk4 => ?_)
  have Hb4 := Lib.hid hb4
  have Hblk4 := Lib.hid hblk4
  have hz4 := hb4.size
  clear hb4 hg4 hblk4
  go_wp2
  go_loopg [5] l.length (fun gh s5 wr => ∃ i : Nat, i ≤ l.length ∧ gh = l.length - i ∧ s5 = .int .i64 (i : Int) ∧ Hid (∀ k, k < i → firstR l k = none) ∧ Hid (Below w4.heap.size w4 wr))
  case atStart => exact ⟨0, Nat.zero_le _, rfl, rfl, Lib.hid (fun k hk => absurd hk (Nat.not_lt_zero _)), Lib.hid (Below.refl _ _)⟩
  case round =>
    obtain ⟨i, hiN, rfl, rfl, Hno, Hbr⟩ := hrel
    have HBr := Lib.hid (Hb4.out.trans (Hbr.out.mono hz4))
    by_cases hi : i < l.length
    · have i0 : (0 : Int) ≤ (i : Int) := by omega
      have i1 : (i : Int) < (l.length : Int) := by omega
      have qR : wr.cell? ⟨g4, i, none⟩ = some (.bool (reachB l i)) := by
        rw [blk_cell' ((Hbr.out.block _ (blk_lt Hblk4.out)).trans Hblk4.out), boolsA_get (by simp [reachW]; exact hi)]
        unfold reachW
        rw [atB_map hi]
      have lG4 : g4 < wr.heap.size := Nat.lt_of_lt_of_le (blk_lt Hblk4.out) Hbr.out.size
      obtain ⟨b6, o6, eA, hheld⟩ := mac_held Hs.out hi
      subst eA
      have Hheld := Lib.hid hheld
      clear hheld
      go_wp2_with fail
      refine alone_calls _ l Hok.out i hi _ (Hs.out.up HBr.out HBr.out.size) _ (fun l' hl' w5 v5 hb5 hs5 => ?_) (fun hal w5 hb5 => ?_)
      · have Hfin := Lib.hid (HT.out l' (onceP_hit hi Hno.out (first_alone hl')) w5 v5 (HBr.out.trans (hb5.mono HBr.out.size)) hs5)
        obtain ⟨A9, c9, rfl, _, _, hx9⟩ := hs5.cases_
        clear hx9 hb5 hl'
        generalize l'.length = N9 at *
        go_wp2
        exact Hfin.out
      · have Hal := Lib.hid hal
        have Hb5 := Lib.hid (Hbr.out.trans (hb5.mono Hbr.out.size))
        have HB5 := Lib.hid (HBr.out.trans (hb5.mono HBr.out.size))
        clear hb5 hal qR lG4
        go_wp2_with fail
        refine nextTo_calls _ l Hok.out i hi _ (Hs.out.up HB5.out HB5.out.size) _ (fun w6 hb6 => ?_)
        have Hb6 := Lib.hid (Hb5.out.trans (hb6.mono Hb5.out.size))
        have HB6 := Lib.hid (HB5.out.trans (hb6.mono HB5.out.size))
        clear hb6
        cases hbs : besB l i
        · have Hpr := Lib.hid (pairR_no hbs)
          clear hbs
          obtain ⟨lb, c0, c1, c2', c3, c4⟩ := Hheld.out w6 HB6.out
          have hidl := fun h => first_idle Hal.out Hpr.out (i := i) h
          have hnon := fun h => first_none Hal.out Hpr.out (i := i) h
          generalize hmm : atL l i = m at *
          clear hmm
          have Hidl := Lib.hid hidl
          have Hnon := Lib.hid hnon
          clear hidl hnon
          go_wp2_with fail
          refine ridle_calls m _ _ (fun w8 hb8 => ?_)
          have Hb8 := Lib.hid (Hb6.out.trans (hb8.mono Hb6.out.size))
          have HB8 := Lib.hid (HB6.out.trans (hb8.mono HB6.out.size))
          clear hb8 lb c0 c1 c2' c3 c4
          obtain ⟨lb, c0, c1, c2', c3, c4⟩ := Hheld.out w8 HB8.out
          cases hd : idleM m
          · have Hn2 := Lib.hid (fun k (hk : k < i + 1) => by
              rcases Nat.lt_or_ge k i with h | h
              · exact Hno.out k h
              · obtain rfl : k = i := by omega
                exact Hnon.out hd : ∀ k, k < i + 1 → firstR l k = none)
            clear hd
            go_wp2
            go_roundg (l.length - (i + 1))
            case measure => omega
            case rel => exact ⟨i + 1, by omega, rfl, by go_num, Hn2, Hb8⟩
          · have HTs := Lib.hid (HT.out _ (onceP_hit hi Hno.out (Hidl.out hd)))
            clear hd
            go_wp2_with fail
            go_still_tail 13, (by kernel_rfl)
            change wpList _ _ _ _ _ w8.drew
            go_wp2_with fail
            have HBd := Lib.hid HB8.out.drew
            refine turned_calls _ l i hi hfew ⟨2, m.dst, m.a, 0, 0⟩ _ (Hs.out.up HBd.out HBd.out.size) _ (fun w9 v9 hb9 hs9 => ?_)
            have Hfin := Lib.hid (HTs.out w9 v9 (HBd.out.trans (hb9.mono HBd.out.size)) hs9)
            obtain ⟨A9, c9, rfl, _, _, hx9⟩ := hs9.cases_
            have hlen : (l.set i (⟨2, m.dst, m.a, 0, 0⟩ : Mac)).length = l.length := List.length_set
            rw [hlen] at Hfin ⊢
            clear hx9 hb9 hlen
            go_wp2
            exact Hfin.out
        · have Hbs := Lib.hid hbs
          clear hbs
          go_wp2_with fail
          refine pair_calls _ l Hok.out i Hbs.out _ (Hs.out.up HB6.out HB6.out.size) _ (fun l' hl' w7 v7 hb7 hs7 => ?_) (fun hpr w7 hb7 => ?_)
          · have Hfin := Lib.hid (HT.out l' (onceP_hit hi Hno.out (first_pair Hal.out hl')) w7 v7 (HB6.out.trans (hb7.mono HB6.out.size)) hs7)
            obtain ⟨A9, c9, rfl, _, _, hx9⟩ := hs7.cases_
            clear hx9 hb7 hl'
            generalize l'.length = N9 at *
            go_wp2
            exact Hfin.out
          · have Hpr := Lib.hid hpr
            have Hb7 := Lib.hid (Hb6.out.trans (hb7.mono Hb6.out.size))
            have HB7 := Lib.hid (HB6.out.trans (hb7.mono HB6.out.size))
            clear hb7 hpr
            obtain ⟨lb, c0, c1, c2', c3, c4⟩ := Hheld.out w7 HB7.out
            have hidl := fun h => first_idle Hal.out Hpr.out (i := i) h
            have hnon := fun h => first_none Hal.out Hpr.out (i := i) h
            generalize hmm : atL l i = m at *
            clear hmm
            have Hidl := Lib.hid hidl
            have Hnon := Lib.hid hnon
            clear hidl hnon
            go_wp2_with fail
            refine ridle_calls m _ _ (fun w8 hb8 => ?_)
            have Hb8 := Lib.hid (Hb7.out.trans (hb8.mono Hb7.out.size))
            have HB8 := Lib.hid (HB7.out.trans (hb8.mono HB7.out.size))
            clear hb8 lb c0 c1 c2' c3 c4
            obtain ⟨lb, c0, c1, c2', c3, c4⟩ := Hheld.out w8 HB8.out
            cases hd : idleM m
            · have Hn2 := Lib.hid (fun k (hk : k < i + 1) => by
                rcases Nat.lt_or_ge k i with h | h
                · exact Hno.out k h
                · obtain rfl : k = i := by omega
                  exact Hnon.out hd : ∀ k, k < i + 1 → firstR l k = none)
              clear hd
              go_wp2
              go_roundg (l.length - (i + 1))
              case measure => omega
              case rel => exact ⟨i + 1, by omega, rfl, by go_num, Hn2, Hb8⟩
            · have HTs := Lib.hid (HT.out _ (onceP_hit hi Hno.out (Hidl.out hd)))
              clear hd
              go_wp2_with fail
              go_still_tail 13, (by kernel_rfl)
              change wpList _ _ _ _ _ w8.drew
              go_wp2_with fail
              have HBd := Lib.hid HB8.out.drew
              refine turned_calls _ l i hi hfew ⟨2, m.dst, m.a, 0, 0⟩ _ (Hs.out.up HBd.out HBd.out.size) _ (fun w9 v9 hb9 hs9 => ?_)
              have Hfin := Lib.hid (HTs.out w9 v9 (HBd.out.trans (hb9.mono HBd.out.size)) hs9)
              obtain ⟨A9, c9, rfl, _, _, hx9⟩ := hs9.cases_
              have hlen : (l.set i (⟨2, m.dst, m.a, 0, 0⟩ : Mac)).length = l.length := List.length_set
              rw [hlen] at Hfin ⊢
              clear hx9 hb9 hlen
              go_wp2
              exact Hfin.out
    · obtain rfl : i = l.length := by omega
      have Hfin := Lib.hid (HF.out (onceP_none Hno.out) _ HBr.out)
      go_wp2
      exact Hfin.out
set_option maxRecDepth 100000 in
set_option maxHeartbeats 4000000 in
theorem rPeepDo_calls (v : Value) (l : List Mac) (hok : MacsOk l) (w : World) (h : rpMac.SL w w.heap.size l v) (R : Ending → World → Prop)
    (hR : ∀ w' v', Below w.heap.size w w' → rpMac.SL w' w'.heap.size (peepL l) v' → R (.returned v') w') :
    Calls Tryd.prog 16 #[v] w R := by
  have HR := Lib.hid hR
  have Hs := Lib.hid h
  have Hok := Lib.hid hok
  clear hR h hok
  go_enter Tryd.func16, Tryd.ntmps16
  go_wp2
  go_loopg [0] (msr l) (fun gh s0 wr => ∃ cur : List Mac, gh = msr cur ∧ Hid (MacsOk cur) ∧ Hid (peepL l = peepL cur) ∧ Hid (rpMac.SL wr wr.heap.size cur s0) ∧ Hid (Below w.heap.size w wr))
  case atStart => exact ⟨l, rfl, Hok, Lib.hid rfl, Hs, Lib.hid (Below.refl _ _)⟩
  case round =>
    obtain ⟨cur, rfl, HokC, Heq, HsC, Hb⟩ := hrel
    obtain ⟨A8, c8, rfl, _, _, hs8⟩ := HsC.out.cases_
    obtain ⟨N8, hN8⟩ : ∃ N, cur.length = N := ⟨_, rfl⟩
    rw [hN8] at hs8 HsC ⊢
    clear hN8
    have Hs8 := Lib.hid hs8
    clear hs8
    go_wp2_with fail
    refine rOnce_calls _ cur HokC.out _ Hs8.out _ (fun l' hl' w5 v5 hb5 hs5 => ?_) (fun hn w5 hb5 => ?_)
    · have h3 := onceP_ok HokC.out hl'
      have Hok2 := Lib.hid h3.1
      have hms := h3.2.1
      have Heq2 := Lib.hid (Heq.out.trans (peepL_some HokC.out hl'))
      have Hs5 := Lib.hid hs5
      have Hb5 := Lib.hid (Hb.out.trans (hb5.mono Hb.out.size))
      obtain ⟨A9, c9, rfl, _, _, hx9⟩ := hs5.cases_
      clear hx9 hb5 hl' h3
      obtain ⟨N9, hN9⟩ : ∃ N, l'.length = N := ⟨_, rfl⟩
      rw [hN9] at Hs5 ⊢
      clear hN9
      go_wp2
      go_roundg (msr l')
      case measure => exact hms
      case rel => exact ⟨l', rfl, Hok2, Heq2, Hs5, Hb5⟩
    · have e : peepL l = cur := Heq.out.trans (peepL_none hn)
      have Hb5 := Lib.hid (Hb.out.trans (hb5.mono Hb.out.size))
      have Hfin := Lib.hid (HR.out w5 _ Hb5.out (by rw [e]; exact Hs8.out.up hb5 hb5.size))
      clear hb5 e hn
      go_wp2
      exact Hfin.out
end Go.Proofs.YtemakpjickbmnaaDoor
