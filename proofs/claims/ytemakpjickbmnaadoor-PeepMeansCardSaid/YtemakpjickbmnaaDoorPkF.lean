/- Package peep: the first rule that fits; rules till none fits. Package peep: rules till none fits. -/
import Derived.Test.YtemakpjickbmnaaDoorBase
import Derived.Test.YtemakpjickbmnaaDoorRows
import Derived.IntWalk
import Derived.Outline
import Derived.Deep.LoopGhost
import Derived.Laws.EntriesVeiled
import Derived.Deep.CutBlock
import Derived.Deep.DeepCutAuto
import Derived.Test.YtemakpjickbmnaaDoorPkD
import Derived.Test.YtemakpjickbmnaaDoorPkE
import Derived.Deep.RegionLaw
import Derived.Test.YtemakpjickbmnaaDoorReadC
/- Package peep: the first rule that fits; rules till none fits. -/
namespace Go.Proofs.YtemakpjickbmnaaDoor
open Go.RowKit
set_option linter.unusedSimpArgs false
set_option linter.unusedVariables false

set_option maxHeartbeats 400000 in
theorem CloneMac_calls (v : Value) (xs : List Mac) (w : World) (h : rpMac.SL w w.heap.size xs v) (hn : xs.length ≤ 4294967296) (R : Ending → World → Prop)
    (hR : ∀ w' v', Below w.heap.size w w' → w'.ownsRow w.heap.size 36 5 v' xs.length (xs.flatMap Mac.cells) → R (.returned v') w') :
    Calls Tryd.prog 57 #[v] w R := by
  obtain ⟨A, c, rfl, hm, hcap, h⟩ := h.cases_
  obtain ⟨i0, hi, hz0, hz1, hz2⟩ := info_parts info_Mac
  have hnil := fun w => Lib.run_eql_slice_nil (P := Tryd.prog) w 23 36 A xs.length c 0 0 Tryd.underlying23
  cases A with
  | none =>
    have hx : xs = [] := by
      rcases Nat.eq_zero_or_pos xs.length with h0 | hp
      · exact List.eq_nil_of_length_eq_zero h0
      · obtain ⟨b, off, _, hA, _⟩ := h.at_ (List.getElem?_eq_getElem hp)
        cases hA
    subst hx
    clear hnil
    have hnil := fun w => Lib.run_eql_slice_nil (P := Tryd.prog) w 23 36 none 0 c 0 0 Tryd.underlying23
    go_enter Tryd.func57, Tryd.ntmps57
    go_wp2
    exact hR _ _ (Below.refl _ _) (World.ownsRow_nil _ _ _ _)
  | some a =>
    have hnews : ∀ j u, (xs.flatMap Mac.cells)[j]? = some u → w.cell? (a.add j) = some u := h.news (fun _ _ _ _ h => rpMac_rep.1 h) (fun _ => rfl) (by decide)
    have hlt : ∀ j u, (xs.flatMap Mac.cells)[j]? = some u → a.block < w.heap.size := fun j u hj => by
      have := World.block_lt_of_cell? w _ (hnews j u hj)
      rwa [addr_block] at this
    have Hn := Lib.hid hnews
    have Hl := Lib.hid hlt
    clear hnews hlt h
    go_enter Tryd.func57, Tryd.ntmps57
    go_wp2_with (at_builtin; refine wpList_append_own _ rfl _ _ 23 rfl w.heap.size 36 i0 _ 5 40 Tryd.underlying23 hi hz0 hz1 hz2 rfl (by decide) (.slice (some ⟨w.heap.size, 0, none⟩) 0 0) 0 [] rfl ?_ a xs.length c (xs.flatMap Mac.cells) rfl (flat_length Mac.cells 5 (fun _ => rfl) xs) ?_ ?_ ?_ ?_ ?_ ?_)
    · exact ⟨rfl, .inr ⟨w.heap.size, 0, #[], rfl, Nat.le_refl _, heap_alloc_new w _, Nat.le_refl _, Nat.zero_le _, rfl, rfl⟩⟩
    · intro j u hj
      have hb := Hl.out j u hj
      rw [World.cell?_alloc_lt _ _ _ (by rw [addr_block]; exact hb)]
      exact Hn.out j u hj
    · exact one_Mac xs
    · unfold maxLen; omega
    · omega
    · simp
    · intro v' w1 hown hgrow _
      go_wp2
      refine hR _ _ ((Below.refl _ _).alloc (Nat.le_refl _) _ |>.grown hgrow (by simp) (fun k hk => by simp [Value.ownBlock] at hk; omega)) ?_
      simpa using hown
/-- The functions of the rules, in order. -/
def ruleF : Nat → FuncId
  | 0 => 95 | 1 => 96 | 2 => 97 | 3 => 98 | 4 => 99 | 5 => 100 | 6 => 101 | 7 => 102 | 8 => 103 | 9 => 104 | _ => 105
theorem rule_calls {w : World} {l : List Mac} {p g cap base : Nat} {vl vr vm : Value} (h : WinO w l p g cap base vl vr vm) (i : Nat) (hi : i < l.length) (j : Nat) (hj : j < 11) (R : Ending → World → Prop)
    (hF : ruleR l i j = none → ∀ w', Below w.heap.size w w' → R (.returned (.bool false)) w')
    (hT : ∀ l', ruleR l i j = some l' → ∀ w', Below base w w' → Left w' base p l' → R (.returned (.bool true)) w') :
    Calls Tryd.prog (ruleF j) #[.pointer (some ⟨p, 0, none⟩), .int .i64 (i : Int)] w R := by
  have hall : j = 0 ∨ j = 1 ∨ j = 2 ∨ j = 3 ∨ j = 4 ∨ j = 5 ∨ j = 6 ∨ j = 7 ∨ j = 8 ∨ j = 9 ∨ j = 10 := by omega
  rcases hall with e | e | e | e | e | e | e | e | e | e | e <;> subst e
  · exact lost_calls h i hi R hF hT
  · exact itself_calls h i hi R hF hT
  · exact short_calls h i hi R hF hT
  · exact far_calls h i hi R hF hT
  · exact vain_calls h i hi R hF hT
  · exact unread_calls h i hi R hF hT
  · exact again_calls h i hi R hF hT
  · exact back_calls h i hi R hF hT
  · exact sure_calls h i hi R hF hT
  · exact fused_calls h i hi R hF hT
  · exact idle_calls h i hi R hF hT
theorem rules_enter (j : Nat) (hj : j < 11) : Enters Tryd.prog (ruleF j) := by
  have hall : j = 0 ∨ j = 1 ∨ j = 2 ∨ j = 3 ∨ j = 4 ∨ j = 5 ∨ j = 6 ∨ j = 7 ∨ j = 8 ∨ j = 9 ∨ j = 10 := by omega
  rcases hall with e | e | e | e | e | e | e | e | e | e | e <;> subst e
  · exact ⟨_, Tryd.func95, by kernel_rfl, rfl⟩
  · exact ⟨_, Tryd.func96, by kernel_rfl, rfl⟩
  · exact ⟨_, Tryd.func97, by kernel_rfl, rfl⟩
  · exact ⟨_, Tryd.func98, by kernel_rfl, rfl⟩
  · exact ⟨_, Tryd.func99, by kernel_rfl, rfl⟩
  · exact ⟨_, Tryd.func100, by kernel_rfl, rfl⟩
  · exact ⟨_, Tryd.func101, by kernel_rfl, rfl⟩
  · exact ⟨_, Tryd.func102, by kernel_rfl, rfl⟩
  · exact ⟨_, Tryd.func103, by kernel_rfl, rfl⟩
  · exact ⟨_, Tryd.func104, by kernel_rfl, rfl⟩
  · exact ⟨_, Tryd.func105, by kernel_rfl, rfl⟩
set_option maxRecDepth 100000 in
set_option maxHeartbeats 2000000 in
theorem once_calls (g cap base : Nat) (l : List Mac) (hok : MacsOk l) (w : World) (hown : w.ownsRow base 36 5 (.slice (some ⟨g, 0, none⟩) l.length cap) l.length (l.flatMap Mac.cells)) (hbase : base ≤ w.heap.size) (hS : Shapes w) (hb0 : 0 < base) (R : Ending → World → Prop)
    (hF : onceP l = none → ∀ w', Below w.heap.size w w' → R (.returned (.tuple #[.slice (some ⟨g, 0, none⟩) l.length cap, .bool false])) w')
    (hT : ∀ l', onceP l = some l' → ∀ w' g' cap', Below base w w' → w'.ownsRow base 36 5 (.slice (some ⟨g', 0, none⟩) l'.length cap') l'.length (l'.flatMap Mac.cells) → R (.returned (.tuple #[.slice (some ⟨g', 0, none⟩) l'.length cap', .bool true])) w') :
    Calls Tryd.prog 58 #[.slice (some ⟨g, 0, none⟩) l.length cap] w R := by
  have HF := Lib.hid hF
  have HT := Lib.hid hT
  have Ho := Lib.hid hown
  have HS := Lib.hid hS
  clear hF hT hown hS
  go_enter Tryd.func58, Tryd.ntmps58
  go_wp2_with fail
  refine look_calls _ l hok _ (SLMac_own Ho.out (Nat.le_refl _)) HS.out _ (fun w1 p vl vr vm hb1 hp hblk hl hr hm => ?_)
  have hW : WinO w1 l p g cap base vl vr vm := ⟨⟨hblk, SLMac_own (own_below Ho.out hb1) (Nat.le_refl _), hl, hr, hm, hok, HS.out.up hb1 HS.out.1⟩, own_below Ho.out hb1, Nat.le_trans hbase hp⟩
  have HW := Lib.hid hW
  have Hb1 := Lib.hid hb1
  have hfew := hok.few
  clear hb1 hblk hl hr hm hW
  go_upto_region 3 with fail
  obtain ⟨W2, hW2⟩ : ∃ W2, W2 = w1.alloc (Obj.cells #[.func (.func 95) #[] #[], .func (.func 96) #[] #[], .func (.func 97) #[] #[], .func (.func 98) #[] #[], .func (.func 99) #[] #[], .func (.func 100) #[] #[], .func (.func 101) #[] #[], .func (.func 102) #[] #[], .func (.func 103) #[] #[], .func (.func 104) #[] #[], .func (.func 105) #[] #[]] 167) := ⟨_, rfl⟩
  rw [← hW2]
  have hb2 : Below w1.heap.size w1 W2 := by rw [hW2]; exact bl0
  have hA : W2.heap[w1.heap.size]? = some (.cells #[.func (.func 95) #[] #[], .func (.func 96) #[] #[], .func (.func 97) #[] #[], .func (.func 98) #[] #[], .func (.func 99) #[] #[], .func (.func 100) #[] #[], .func (.func 101) #[] #[], .func (.func 102) #[] #[], .func (.func 103) #[] #[], .func (.func 104) #[] #[], .func (.func 105) #[] #[]] 167 (0, 0)) := by rw [hW2]; exact heap_alloc_new _ _
  have hlA := blk_lt hA
  have HA : Hid (∀ W', Below W2.heap.size W2 W' → W'.cell? ⟨w1.heap.size, 0, none⟩ = some (.func (.func 95) #[] #[]) ∧ W'.cell? ⟨w1.heap.size, 1, none⟩ = some (.func (.func 96) #[] #[]) ∧ W'.cell? ⟨w1.heap.size, 2, none⟩ = some (.func (.func 97) #[] #[]) ∧ W'.cell? ⟨w1.heap.size, 3, none⟩ = some (.func (.func 98) #[] #[]) ∧ W'.cell? ⟨w1.heap.size, 4, none⟩ = some (.func (.func 99) #[] #[]) ∧ W'.cell? ⟨w1.heap.size, 5, none⟩ = some (.func (.func 100) #[] #[]) ∧ W'.cell? ⟨w1.heap.size, 6, none⟩ = some (.func (.func 101) #[] #[]) ∧ W'.cell? ⟨w1.heap.size, 7, none⟩ = some (.func (.func 102) #[] #[]) ∧ W'.cell? ⟨w1.heap.size, 8, none⟩ = some (.func (.func 103) #[] #[]) ∧ W'.cell? ⟨w1.heap.size, 9, none⟩ = some (.func (.func 104) #[] #[]) ∧ W'.cell? ⟨w1.heap.size, 10, none⟩ = some (.func (.func 105) #[] #[])) := Lib.hid fun W' hb => ⟨(hb.cell (p := ⟨w1.heap.size, 0, none⟩) hlA).trans (by rw [blk_cell' hA]; rfl), (hb.cell (p := ⟨w1.heap.size, 1, none⟩) hlA).trans (by rw [blk_cell' hA]; rfl), (hb.cell (p := ⟨w1.heap.size, 2, none⟩) hlA).trans (by rw [blk_cell' hA]; rfl), (hb.cell (p := ⟨w1.heap.size, 3, none⟩) hlA).trans (by rw [blk_cell' hA]; rfl), (hb.cell (p := ⟨w1.heap.size, 4, none⟩) hlA).trans (by rw [blk_cell' hA]; rfl), (hb.cell (p := ⟨w1.heap.size, 5, none⟩) hlA).trans (by rw [blk_cell' hA]; rfl), (hb.cell (p := ⟨w1.heap.size, 6, none⟩) hlA).trans (by rw [blk_cell' hA]; rfl), (hb.cell (p := ⟨w1.heap.size, 7, none⟩) hlA).trans (by rw [blk_cell' hA]; rfl), (hb.cell (p := ⟨w1.heap.size, 8, none⟩) hlA).trans (by rw [blk_cell' hA]; rfl), (hb.cell (p := ⟨w1.heap.size, 9, none⟩) hlA).trans (by rw [blk_cell' hA]; rfl), (hb.cell (p := ⟨w1.heap.size, 10, none⟩) hlA).trans (by rw [blk_cell' hA]; rfl)⟩
  have hW2' := HW.out.below hb2
  have HW2 := Lib.hid hW2'
  have Hb2 := Lib.hid (Hb1.out.trans (hb2.mono Hb1.out.size))
  have hlp := hW2'.win.cells.lp
  have q0 := hW2'.win.cells.c0
  have hbW := hW2'.base_le
  clear hb2 hA hW2 hW2' HW
  go_wp2_with fail
  go_loopg [17] l.length (fun gh s17 wr => ∃ i : Nat, i ≤ l.length ∧ gh = l.length - i ∧ s17 = .int .i64 (i : Int) ∧ Hid (∀ k, k < i → firstR l k = none) ∧ Hid (Below W2.heap.size W2 wr))
  case atStart => exact ⟨0, Nat.zero_le _, rfl, rfl, Lib.hid (fun k h => absurd h (Nat.not_lt_zero _)), Lib.hid (Below.refl _ _)⟩
  case round =>
    obtain ⟨i, hi, rfl, rfl, Hno, HB⟩ := hrel
    by_cases hlt : i < l.length
    · obtain ⟨a0, a1, a2, a3, a4, a5, a6, a7, a8, a9, a10⟩ := HA.out wr HB.out
      have hlr := Nat.lt_of_lt_of_le hlA HB.out.size
      have i0 : (0 : Int) ≤ (i : Int) := by omega
      have i1 : (i : Int) < (l.length : Int) := by omega
      go_wp2_with fail
      go_loopg [21] 11 (fun gh s21 wx => ∃ j : Nat, j ≤ 11 ∧ gh = 11 - j ∧ s21 = .int .i64 (j : Int) ∧ Hid (∀ k, k < j → ruleR l i k = none) ∧ Hid (Below W2.heap.size W2 wx))
      case atStart => exact ⟨0, Nat.zero_le _, rfl, rfl, Lib.hid (fun k h => absurd h (Nat.not_lt_zero _)), HB⟩
      case round =>
        obtain ⟨j, hj, rfl, rfl, Hnj, HBj⟩ := hrel
        clear a0 a1 a2 a3 a4 a5 a6 a7 a8 a9 a10
        by_cases hjl : j < 11
        · have j0 : (0 : Int) ≤ (j : Int) := by omega
          have j1 : (j : Int) < 11 := by omega
          have hidx : ∀ w, (Instr.index 167 (.agg #[.func (.func 95) #[] #[], .func (.func 96) #[] #[], .func (.func 97) #[] #[], .func (.func 98) #[] #[], .func (.func 99) #[] #[], .func (.func 100) #[] #[], .func (.func 101) #[] #[], .func (.func 102) #[] #[], .func (.func 103) #[] #[], .func (.func 104) #[] #[], .func (.func 105) #[] #[]]) (.int .i64 (j : Int))).run Tryd.prog w = .ok (.func (.func (ruleF j)) #[] #[]) w := by
            have hall : j = 0 ∨ j = 1 ∨ j = 2 ∨ j = 3 ∨ j = 4 ∨ j = 5 ∨ j = 6 ∨ j = 7 ∨ j = 8 ∨ j = 9 ∨ j = 10 := by omega
            rcases hall with e | e | e | e | e | e | e | e | e | e | e <;> subst e <;> intro w <;> kernel_rfl
          have hcf := (rules_enter j hjl).run
          have HWj := Lib.hid (HW2.out.below HBj.out)
          have Hi := Lib.hid hlt
          go_wp2_with fail
          refine rule_calls HWj.out i hlt j hjl _ (fun hn w5 hb5 => ?_) (fun l2 hl2 w5 hb5 hleft => ?_)
          · have Hnj2 : Hid (∀ k, k < j + 1 → ruleR l i k = none) := Lib.hid fun k hk => by
              by_cases e : k = j
              · subst e; exact hn
              · exact Hnj.out k (by omega)
            have HB5 := Lib.hid (HBj.out.trans (hb5.mono HBj.out.size))
            clear hn hb5 hidx hcf
            go_wp2
            go_roundg (11 - (j + 1))
            case measure => omega
            case rel => exact ⟨j + 1, by omega, rfl, by go_num, Hnj2, HB5⟩
          · obtain ⟨g5, cap5, vl5, vr5, vm5, hp5, ho5⟩ := hleft.row
            have c5 : w5.cell? ⟨p, 0, none⟩ = some (.slice (some ⟨g5, 0, none⟩) l2.length cap5) := by rw [blk_cell' hp5]; rfl
            have lp5 := blk_lt hp5
            have H1 := Lib.hid (HT.out l2 (onceP_hit hlt Hno.out (firstR_hit hjl Hnj.out hl2)) w5 g5 cap5 (((Hb2.out.trans (HBj.out.mono Hb2.out.size)).mono hbase).trans hb5) ho5)
            clear hp5 ho5 hleft hb5 hl2 hidx hcf
            go_wp2
            exact H1.out
        · obtain rfl : j = 11 := by omega
          have Hno2 : Hid (∀ k, k < i + 1 → firstR l k = none) := Lib.hid fun k hk => by
            by_cases e : k = i
            · subst e; exact firstR_none Hnj.out
            · exact Hno.out k (by omega)
          go_wp2
          go_roundg (l.length - (i + 1))
          case measure => omega
          case rel => exact ⟨i + 1, hlt, rfl, by go_num, Hno2, HBj⟩
    · obtain rfl : i = l.length := by omega
      have H1 := Lib.hid (HF.out (onceP_none Hno.out) wr (Hb2.out.trans (HB.out.mono Hb2.out.size)))
      go_wp2
      exact H1.out
end Go.Proofs.YtemakpjickbmnaaDoor

/- Package peep: rules till none fits. -/
namespace Go.Proofs.YtemakpjickbmnaaDoor
open Go.RowKit
set_option linter.unusedSimpArgs false
set_option linter.unusedVariables false

set_option maxRecDepth 100000 in
set_option maxHeartbeats 2000000 in
theorem peepOf_calls (v : Value) (l : List Mac) (hok : MacsOk l) (w : World) (h : rpMac.SL w w.heap.size l v) (hS : Shapes w) (R : Ending → World → Prop)
    (hR : ∀ w' v', Below w.heap.size w w' → w'.ownsRow w.heap.size 36 5 v' (peepL l).length ((peepL l).flatMap Mac.cells) → R (.returned v') w') :
    Calls Tryd.prog 35 #[v] w R := by
  have h0 := hS.1
  have hfew := hok.few
  have HS := Lib.hid hS
  have HR := Lib.hid hR
  clear hR hS
  go_enter Tryd.func35, Tryd.ntmps35
  go_wp2_with fail
  refine CloneMac_calls _ l _ h (by omega) _ (fun w1 v1 hb1 ho1 => ?_)
  have Hb1 := Lib.hid hb1
  have Ho1 := Lib.hid ho1
  clear hb1 ho1 h
  go_wp2_with fail
  go_loopg [3, 4] (msr l + 1) (fun gh s3 s4 wr => ∃ (cur : List Mac) (b : Bool), s4 = .bool b ∧ gh = msr cur + b.toNat ∧ Hid (MacsOk cur) ∧ Hid (peepL l = peepL cur) ∧ Hid (b = false → onceP cur = none) ∧ Hid (wr.ownsRow w.heap.size 36 5 s3 cur.length (cur.flatMap Mac.cells)) ∧ Hid (Below w.heap.size w wr))
  case atStart => exact ⟨l, true, rfl, rfl, Lib.hid hok, Lib.hid rfl, Lib.hid (fun h => by cases h), Ho1, Hb1⟩
  case round =>
    obtain ⟨cur, b, rfl, rfl, Hok, Heq, Hend, Ho, HB⟩ := hrel
    obtain ⟨g, cap, rfl, hg1, hg2, hc1, hc2⟩ := own_some Ho.out Hok.out.some_
    cases b
    · have he : peepL l = cur := by rw [Heq.out]; exact peepL_none (Hend.out rfl)
      have H1 := Lib.hid (HR.out wr _ HB.out (by rw [he]; exact Ho.out))
      go_wp2
      exact H1.out
    · have hzz := HB.out.size
      clear Hend
      go_wp2_with fail
      with_reducible refine once_calls g cap w.heap.size cur Hok.out _ Ho.out HB.out.size (HS.out.up HB.out h0) h0 _ (fun hn w5 hb5 => ?_) (fun l2 hl2 w5 g5 cap5 hb5 ho5 => ?_)
      · have Hn := Lib.hid hn
        have Ho5 := Lib.hid (own_below Ho.out hb5)
        have HB5 := Lib.hid (HB.out.trans (hb5.mono hzz))
        clear hn hb5
        go_wp2
        go_roundg (msr cur + 0)
        case measure => simp
        case rel => exact ⟨cur, false, rfl, rfl, Hok, Heq, Lib.hid (fun _ => Hn.out), Ho5, HB5⟩
      · have h3 := onceP_ok Hok.out hl2
        have Hok2 := Lib.hid h3.1
        have hm := h3.2.1
        have Heq2 := Lib.hid (Heq.out.trans (peepL_some Hok.out hl2))
        have Ho5 := Lib.hid ho5
        have HB5 := Lib.hid (HB.out.trans hb5)
        clear hl2 hb5 ho5 h3
        go_wp2
        go_roundg (msr l2 + 1)
        case measure => simp; omega
        case rel => exact ⟨l2, true, rfl, rfl, Hok2, Heq2, Lib.hid (fun h => by cases h), Ho5, HB5⟩
set_option maxRecDepth 100000 in
set_option maxHeartbeats 2000000 in
theorem PeepDo_calls (v : Value) (l : List Mac) (w : World) (h : rpMac.SL w w.heap.size l v) (hS : Shapes w) (R : Ending → World → Prop)
    (hT : MacsOk l → ∀ w' v', Below w.heap.size w w' → w'.ownsRow w.heap.size 36 5 v' (peepL l).length ((peepL l).flatMap Mac.cells) → R (.returned (.tuple #[v', .agg #[.int .i64 0, .int .i64 0]])) w')
    (hF : (macsFault l).1 ≠ 0 → ∀ w', Below w.heap.size w w' → R (.returned (.tuple #[.slice none 0 0, (.agg #[.int .i64 (macsFault l).1, .int .i64 (macsFault l).2])])) w') :
    Calls Tryd.prog 9 #[v] w R := by
  have h0 := hS.1
  have HS := Lib.hid hS
  have HT := Lib.hid hT
  have HF := Lib.hid hF
  have Hs := Lib.hid h
  have hval : macsFault l = (0, 0) ∨ (macsFault l).1 ≠ 0 := by
    by_cases e : macsFault l = (0, 0)
    · exact .inl e
    · right
      intro e1
      exact e (macsFault_zero l e1)
  clear hS hT hF h
  go_enter Tryd.func9, Tryd.ntmps9
  go_wp2_with fail
  refine Check_calls _ l _ (Hs.out.up (by exact bl0) (by simp)) (HS.out.up (by exact bl0) h0) _ ?_
  intro w1 hb1
  have hz : w.heap.size < w1.heap.size := by have := hb1.size; simp at this; omega
  have hE : w1.heap[w.heap.size]? = some (.cells #[.int .i64 0, .int .i64 0] 25 (0, 0)) := (hb1.block _ (by simp)).trans (heap_alloc_new _ _)
  have Hb1 := Lib.hid (show Below w.heap.size w w1 from (by exact bl0 : Below w.heap.size w _).trans (hb1.mono (by simp)))
  have HE := Lib.hid hE
  clear hb1 hE
  rcases hval with e | e
  · have hok := macsOk_iff.1 e
    rw [e]
    have He := Lib.hid e
    clear e
    go_wp2_with fail
    have hbA : Below w1.heap.size w1 (w1.alloc (Obj.cells #[.int .i64 0, .int .i64 0] 25)) := bl0
    refine peepOf_calls _ l hok _ (Hs.out.up (Hb1.out.trans (hbA.mono Hb1.out.size)) (by simp; omega)) (HS.out.up (Hb1.out.trans (hbA.mono Hb1.out.size)) h0) _ (fun w2 v2 hb2 ho2 => ?_)
    have hE2 := (hb2.block _ (by simp; omega)).trans (blk_alloc HE.out (Obj.cells #[.int .i64 0, .int .i64 0] 25))
    have Hb2 := Lib.hid (Hb1.out.trans ((hbA.trans (hb2.mono (by simp))).mono Hb1.out.size))
    have Ho2 := Lib.hid (ownsRow_base (B' := w.heap.size) ho2 (by simp; omega))
    obtain ⟨e0, e1⟩ := cells_blk hE2
    have hl2 := blk_lt hE2
    have f0 : w2.frozen? ⟨w.heap.size, 0, none⟩ = false := by simp [World.frozen?, hE2]
    have f1 : w2.frozen? ⟨w.heap.size, 1, none⟩ = false := by simp [World.frozen?, hE2]
    have HE2 := Lib.hid hE2
    have Hok := Lib.hid hok
    obtain ⟨A2, c2, rfl⟩ := own_slice Ho2.out
    obtain ⟨N, hN⟩ : ∃ N, (peepL l).length = N := ⟨_, rfl⟩
    rw [hN] at Ho2 ⊢
    have HN := Lib.hid hN
    clear hb2 hE2 ho2 hok hN
    go_wp2
    refine bodyPost_ret (v := .tuple #[.slice A2 N c2, .agg #[.int .i64 0, .int .i64 0]]) (res_slice_Fault (by rfl) (by rfl) (by rfl) (cells_blk (T := 25) (by exact (blkp HE2.out)))) rfl ?_
    refine HT.out Hok.out _ _ ((Hb2.out.setCell (p := ⟨w.heap.size, 0, none⟩) (Nat.le_refl _) _).setCell (p := ⟨w.heap.size, 1, none⟩) (Nat.le_refl _) _) ?_
    rw [HN.out]
    have n1 := row_not' Ho2.out HE2.out (by decide)
    have o1 := own_setCell_other (p := ⟨w.heap.size, 0, none⟩) Ho2.out n1 (.int .i64 0)
    exact own_setCell_other (p := ⟨w.heap.size, 1, none⟩) o1 n1 (.int .i64 0)
  · have HFe := Lib.hid (HF.out e)
    generalize macsFault l = ff at *
    obtain ⟨fc, fa⟩ := ff
    have jc : (fc != 0) = true := by simpa using e
    have hE2 := blk_alloc HE.out (Obj.cells #[.int .i64 fc, .int .i64 fa] 25)
    obtain ⟨e0, e1⟩ := cells_blk HE.out
    have f0 : w1.frozen? ⟨w.heap.size, 0, none⟩ = false := by simp [World.frozen?, HE.out]
    have f1 : w1.frozen? ⟨w.heap.size, 1, none⟩ = false := by simp [World.frozen?, HE.out]
    have HE2 := Lib.hid hE2
    clear hE2 e
    go_wp2_with fail
    go_region_law (fail)
    all_goals
      go_wp2
      refine bodyPost_ret (v := .tuple #[.slice none 0 0, .agg #[.int .i64 fc, .int .i64 fa]]) (res_slice_Fault (by rfl) (by rfl) (by rfl) (cells_blk (T := 25) (by exact (blkp HE.out)))) rfl ?_
      refine HFe.out _ ?_
      have hb := Hb1.out
      exact bl0
end Go.Proofs.YtemakpjickbmnaaDoor
