/- Package peep: the first rule that fits; rules till none fits. -/
import Derived.Test.YtkcmijnaheapdaaDoorBase
import Derived.Test.YtkcmijnaheapdaaDoorRows
import Derived.IntWalk
import Derived.Outline
import Derived.Deep.LoopGhost
import Derived.Laws.EntriesVeiled
import Derived.Deep.CutBlock
import Derived.Deep.DeepCutAuto
import Derived.Test.YtkcmijnaheapdaaDoorPk12
import Derived.Test.YtkcmijnaheapdaaDoorPk13
import Derived.Test.YtkcmijnaheapdaaDoorPk14
import Derived.Test.YtkcmijnaheapdaaDoorPk15
namespace Go.Proofs.YtkcmijnaheapdaaDoor
open Go.RowKit
set_option linter.unusedSimpArgs false
set_option linter.unusedVariables false

set_option maxHeartbeats 400000 in
theorem CloneMac_calls (v : Value) (xs : List Mac) (w : World) (h : rpMac.SL w w.heap.size xs v) (hn : xs.length ≤ 4294967296) (R : Ending → World → Prop)
    (hR : ∀ w' v', Below w.heap.size w w' → w'.ownsRow w.heap.size 44 5 v' xs.length (xs.flatMap Mac.cells) → R (.returned v') w') :
    Calls Tryd.prog 82 #[v] w R := by
  obtain ⟨A, c, rfl, hm, hcap, h⟩ := h.cases_
  obtain ⟨i0, hi, hz0, hz1, hz2⟩ := info_parts info_Mac
  have hnil := fun w => Lib.run_eql_slice_nil (P := Tryd.prog) w 45 44 A xs.length c 0 0 Tryd.underlying45
  cases A with
  | none =>
    have hx : xs = [] := by
      rcases Nat.eq_zero_or_pos xs.length with h0 | hp
      · exact List.eq_nil_of_length_eq_zero h0
      · obtain ⟨b, off, _, hA, _⟩ := h.at_ (List.getElem?_eq_getElem hp)
        cases hA
    subst hx
    clear hnil
    have hnil := fun w => Lib.run_eql_slice_nil (P := Tryd.prog) w 45 44 none 0 c 0 0 Tryd.underlying45
    go_enter Tryd.func82, Tryd.ntmps82
    go_wp2
    exact hR _ _ (Below.refl _ _) (World.ownsRow_nil _ _ _ _)
  | some a =>
    have hnews : ∀ j u, (xs.flatMap Mac.cells)[j]? = some u → w.cell? (a.add j) = some u := h.news (fun _ _ _ _ h => rpMac_rep.1 h) (fun _ => rfl) (by decide)
    have hlt : ∀ j u, (xs.flatMap Mac.cells)[j]? = some u → a.block < w.heap.size := fun j u hj => by
      have := World.block_lt_of_cell? w _ (hnews j u hj)
      rwa [addr_block] at this
    have Hn := Lib.hid hnews
    have Hl := Lib.hid hlt
    clear hnews hlt h
    go_enter Tryd.func82, Tryd.ntmps82
    go_wp2_with (at_builtin; refine wpList_append_own _ rfl _ _ 45 rfl w.heap.size 44 i0 _ 5 40 Tryd.underlying45 hi hz0 hz1 hz2 rfl (by decide) (.slice (some ⟨w.heap.size, 0, none⟩) 0 0) 0 [] rfl ?_ a xs.length c (xs.flatMap Mac.cells) rfl (flat_length Mac.cells 5 (fun _ => rfl) xs) ?_ ?_ ?_ ?_ ?_ ?_)
    · exact ⟨rfl, .inr ⟨w.heap.size, 0, #[], rfl, Nat.le_refl _, heap_alloc_new w _, Nat.le_refl _, Nat.zero_le _, rfl, rfl⟩⟩
    · intro j u hj
      have hb := Hl.out j u hj
      rw [World.cell?_alloc_lt _ _ _ (by rw [addr_block]; exact hb)]
      exact Hn.out j u hj
    · exact one_Mac xs
    · unfold maxLen; omega
    · omega
    · simp
    · intro v' w1 hown hgrow _
      go_wp2
      refine hR _ _ ((Below.refl _ _).alloc (Nat.le_refl _) _ |>.grown hgrow (by simp) (fun k hk => by simp [Value.ownBlock] at hk; omega)) ?_
      simpa using hown
/-- The functions of the rules, in order. -/
def ruleF : Nat → FuncId
  | 0 => 110 | 1 => 111 | 2 => 112 | 3 => 113 | 4 => 114 | 5 => 115 | 6 => 116 | 7 => 117 | 8 => 118 | 9 => 119 | _ => 120
theorem rule_calls {w : World} {l : List Mac} {p g cap base : Nat} {vl vr vm : Value} (h : WinO w l p g cap base vl vr vm) (i : Nat) (hi : i < l.length) (j : Nat) (hj : j < 11) (R : Ending → World → Prop)
    (hF : ruleR l i j = none → ∀ w', Below w.heap.size w w' → R (.returned (.bool false)) w')
    (hT : ∀ l', ruleR l i j = some l' → ∀ w', Below base w w' → Left w' base p l' → R (.returned (.bool true)) w') :
    Calls Tryd.prog (ruleF j) #[.pointer (some ⟨p, 0, none⟩), .int .i64 (i : Int)] w R := by
  have hall : j = 0 ∨ j = 1 ∨ j = 2 ∨ j = 3 ∨ j = 4 ∨ j = 5 ∨ j = 6 ∨ j = 7 ∨ j = 8 ∨ j = 9 ∨ j = 10 := by omega
  rcases hall with e | e | e | e | e | e | e | e | e | e | e <;> subst e
  · exact lost_calls h i hi R hF hT
  · exact itself_calls h i hi R hF hT
  · exact short_calls h i hi R hF hT
  · exact far_calls h i hi R hF hT
  · exact vain_calls h i hi R hF hT
  · exact unread_calls h i hi R hF hT
  · exact again_calls h i hi R hF hT
  · exact back_calls h i hi R hF hT
  · exact sure_calls h i hi R hF hT
  · exact fused_calls h i hi R hF hT
  · exact idle_calls h i hi R hF hT
theorem rules_enter (j : Nat) (hj : j < 11) : Enters Tryd.prog (ruleF j) := by
  have hall : j = 0 ∨ j = 1 ∨ j = 2 ∨ j = 3 ∨ j = 4 ∨ j = 5 ∨ j = 6 ∨ j = 7 ∨ j = 8 ∨ j = 9 ∨ j = 10 := by omega
  rcases hall with e | e | e | e | e | e | e | e | e | e | e <;> subst e
  · exact ⟨_, Tryd.func110, by kernel_rfl, rfl⟩
  · exact ⟨_, Tryd.func111, by kernel_rfl, rfl⟩
  · exact ⟨_, Tryd.func112, by kernel_rfl, rfl⟩
  · exact ⟨_, Tryd.func113, by kernel_rfl, rfl⟩
  · exact ⟨_, Tryd.func114, by kernel_rfl, rfl⟩
  · exact ⟨_, Tryd.func115, by kernel_rfl, rfl⟩
  · exact ⟨_, Tryd.func116, by kernel_rfl, rfl⟩
  · exact ⟨_, Tryd.func117, by kernel_rfl, rfl⟩
  · exact ⟨_, Tryd.func118, by kernel_rfl, rfl⟩
  · exact ⟨_, Tryd.func119, by kernel_rfl, rfl⟩
  · exact ⟨_, Tryd.func120, by kernel_rfl, rfl⟩
set_option maxRecDepth 100000 in
set_option maxHeartbeats 2000000 in
theorem once_calls (g cap base : Nat) (l : List Mac) (hok : MacsOk l) (w : World) (hown : w.ownsRow base 44 5 (.slice (some ⟨g, 0, none⟩) l.length cap) l.length (l.flatMap Mac.cells)) (hbase : base ≤ w.heap.size) (hS : Shapes w) (hb0 : 0 < base) (R : Ending → World → Prop)
    (hF : onceP l = none → ∀ w', Below w.heap.size w w' → R (.returned (.tuple #[.slice (some ⟨g, 0, none⟩) l.length cap, .bool false])) w')
    (hT : ∀ l', onceP l = some l' → ∀ w' g' cap', Below base w w' → w'.ownsRow base 44 5 (.slice (some ⟨g', 0, none⟩) l'.length cap') l'.length (l'.flatMap Mac.cells) → R (.returned (.tuple #[.slice (some ⟨g', 0, none⟩) l'.length cap', .bool true])) w') :
    Calls Tryd.prog 83 #[.slice (some ⟨g, 0, none⟩) l.length cap] w R := by
  have HF := Lib.hid hF
  have HT := Lib.hid hT
  have Ho := Lib.hid hown
  have HS := Lib.hid hS
  clear hF hT hown hS
  go_enter Tryd.func83, Tryd.ntmps83
  go_wp2_with fail
  refine look_calls _ l hok _ (SLMac_own Ho.out (Nat.le_refl _)) HS.out _ (fun w1 p vl vr vm hb1 hp hblk hl hr hm => ?_)
  have hW : WinO w1 l p g cap base vl vr vm := ⟨⟨hblk, SLMac_own (own_below Ho.out hb1) (Nat.le_refl _), hl, hr, hm, hok, HS.out.up hb1 HS.out.1⟩, own_below Ho.out hb1, Nat.le_trans hbase hp⟩
  have HW := Lib.hid hW
  have Hb1 := Lib.hid hb1
  have hfew := hok.few
  clear hb1 hblk hl hr hm hW
  go_upto_region 3 with fail
  obtain ⟨W2, hW2⟩ : ∃ W2, W2 = w1.alloc (Obj.cells #[.func (.func 110) #[] #[], .func (.func 111) #[] #[], .func (.func 112) #[] #[], .func (.func 113) #[] #[], .func (.func 114) #[] #[], .func (.func 115) #[] #[], .func (.func 116) #[] #[], .func (.func 117) #[] #[], .func (.func 118) #[] #[], .func (.func 119) #[] #[], .func (.func 120) #[] #[]] 183) := ⟨_, rfl⟩
  rw [← hW2]
  have hb2 : Below w1.heap.size w1 W2 := by rw [hW2]; exact bl0
  have hA : W2.heap[w1.heap.size]? = some (.cells #[.func (.func 110) #[] #[], .func (.func 111) #[] #[], .func (.func 112) #[] #[], .func (.func 113) #[] #[], .func (.func 114) #[] #[], .func (.func 115) #[] #[], .func (.func 116) #[] #[], .func (.func 117) #[] #[], .func (.func 118) #[] #[], .func (.func 119) #[] #[], .func (.func 120) #[] #[]] 183 (0, 0)) := by rw [hW2]; exact heap_alloc_new _ _
  have hlA := blk_lt hA
  have HA : Hid (∀ W', Below W2.heap.size W2 W' → W'.cell? ⟨w1.heap.size, 0, none⟩ = some (.func (.func 110) #[] #[]) ∧ W'.cell? ⟨w1.heap.size, 1, none⟩ = some (.func (.func 111) #[] #[]) ∧ W'.cell? ⟨w1.heap.size, 2, none⟩ = some (.func (.func 112) #[] #[]) ∧ W'.cell? ⟨w1.heap.size, 3, none⟩ = some (.func (.func 113) #[] #[]) ∧ W'.cell? ⟨w1.heap.size, 4, none⟩ = some (.func (.func 114) #[] #[]) ∧ W'.cell? ⟨w1.heap.size, 5, none⟩ = some (.func (.func 115) #[] #[]) ∧ W'.cell? ⟨w1.heap.size, 6, none⟩ = some (.func (.func 116) #[] #[]) ∧ W'.cell? ⟨w1.heap.size, 7, none⟩ = some (.func (.func 117) #[] #[]) ∧ W'.cell? ⟨w1.heap.size, 8, none⟩ = some (.func (.func 118) #[] #[]) ∧ W'.cell? ⟨w1.heap.size, 9, none⟩ = some (.func (.func 119) #[] #[]) ∧ W'.cell? ⟨w1.heap.size, 10, none⟩ = some (.func (.func 120) #[] #[])) := Lib.hid fun W' hb => ⟨(hb.cell (p := ⟨w1.heap.size, 0, none⟩) hlA).trans (by rw [blk_cell' hA]; rfl), (hb.cell (p := ⟨w1.heap.size, 1, none⟩) hlA).trans (by rw [blk_cell' hA]; rfl), (hb.cell (p := ⟨w1.heap.size, 2, none⟩) hlA).trans (by rw [blk_cell' hA]; rfl), (hb.cell (p := ⟨w1.heap.size, 3, none⟩) hlA).trans (by rw [blk_cell' hA]; rfl), (hb.cell (p := ⟨w1.heap.size, 4, none⟩) hlA).trans (by rw [blk_cell' hA]; rfl), (hb.cell (p := ⟨w1.heap.size, 5, none⟩) hlA).trans (by rw [blk_cell' hA]; rfl), (hb.cell (p := ⟨w1.heap.size, 6, none⟩) hlA).trans (by rw [blk_cell' hA]; rfl), (hb.cell (p := ⟨w1.heap.size, 7, none⟩) hlA).trans (by rw [blk_cell' hA]; rfl), (hb.cell (p := ⟨w1.heap.size, 8, none⟩) hlA).trans (by rw [blk_cell' hA]; rfl), (hb.cell (p := ⟨w1.heap.size, 9, none⟩) hlA).trans (by rw [blk_cell' hA]; rfl), (hb.cell (p := ⟨w1.heap.size, 10, none⟩) hlA).trans (by rw [blk_cell' hA]; rfl)⟩
  have hW2' := HW.out.below hb2
  have HW2 := Lib.hid hW2'
  have Hb2 := Lib.hid (Hb1.out.trans (hb2.mono Hb1.out.size))
  have hlp := hW2'.win.cells.lp
  have q0 := hW2'.win.cells.c0
  have hbW := hW2'.base_le
  clear hb2 hA hW2 hW2' HW
  go_wp2_with fail
  go_loopg [17] l.length (fun gh s17 wr => ∃ i : Nat, i ≤ l.length ∧ gh = l.length - i ∧ s17 = .int .i64 (i : Int) ∧ Hid (∀ k, k < i → firstR l k = none) ∧ Hid (Below W2.heap.size W2 wr))
  case atStart => exact ⟨0, Nat.zero_le _, rfl, rfl, Lib.hid (fun k h => absurd h (Nat.not_lt_zero _)), Lib.hid (Below.refl _ _)⟩
  case round =>
    obtain ⟨i, hi, rfl, rfl, Hno, HB⟩ := hrel
    by_cases hlt : i < l.length
    · obtain ⟨a0, a1, a2, a3, a4, a5, a6, a7, a8, a9, a10⟩ := HA.out wr HB.out
      have hlr := Nat.lt_of_lt_of_le hlA HB.out.size
      have i0 : (0 : Int) ≤ (i : Int) := by omega
      have i1 : (i : Int) < (l.length : Int) := by omega
      go_wp2_with fail
      go_loopg [21] 11 (fun gh s21 wx => ∃ j : Nat, j ≤ 11 ∧ gh = 11 - j ∧ s21 = .int .i64 (j : Int) ∧ Hid (∀ k, k < j → ruleR l i k = none) ∧ Hid (Below W2.heap.size W2 wx))
      case atStart => exact ⟨0, Nat.zero_le _, rfl, rfl, Lib.hid (fun k h => absurd h (Nat.not_lt_zero _)), HB⟩
      case round =>
        obtain ⟨j, hj, rfl, rfl, Hnj, HBj⟩ := hrel
        clear a0 a1 a2 a3 a4 a5 a6 a7 a8 a9 a10
        by_cases hjl : j < 11
        · have j0 : (0 : Int) ≤ (j : Int) := by omega
          have j1 : (j : Int) < 11 := by omega
          have hidx : ∀ w, (Instr.index 183 (.agg #[.func (.func 110) #[] #[], .func (.func 111) #[] #[], .func (.func 112) #[] #[], .func (.func 113) #[] #[], .func (.func 114) #[] #[], .func (.func 115) #[] #[], .func (.func 116) #[] #[], .func (.func 117) #[] #[], .func (.func 118) #[] #[], .func (.func 119) #[] #[], .func (.func 120) #[] #[]]) (.int .i64 (j : Int))).run Tryd.prog w = .ok (.func (.func (ruleF j)) #[] #[]) w := by
            have hall : j = 0 ∨ j = 1 ∨ j = 2 ∨ j = 3 ∨ j = 4 ∨ j = 5 ∨ j = 6 ∨ j = 7 ∨ j = 8 ∨ j = 9 ∨ j = 10 := by omega
            rcases hall with e | e | e | e | e | e | e | e | e | e | e <;> subst e <;> intro w <;> kernel_rfl
          have hcf := (rules_enter j hjl).run
          have HWj := Lib.hid (HW2.out.below HBj.out)
          have Hi := Lib.hid hlt
          go_wp2_with fail
          refine rule_calls HWj.out i hlt j hjl _ (fun hn w5 hb5 => ?_) (fun l2 hl2 w5 hb5 hleft => ?_)
          · have Hnj2 : Hid (∀ k, k < j + 1 → ruleR l i k = none) := Lib.hid fun k hk => by
              by_cases e : k = j
              · subst e; exact hn
              · exact Hnj.out k (by omega)
            have HB5 := Lib.hid (HBj.out.trans (hb5.mono HBj.out.size))
            clear hn hb5 hidx hcf
            go_wp2
            go_roundg (11 - (j + 1))
            case measure => omega
            case rel => exact ⟨j + 1, by omega, rfl, by go_num, Hnj2, HB5⟩
          · obtain ⟨g5, cap5, vl5, vr5, vm5, hp5, ho5⟩ := hleft.row
            have c5 : w5.cell? ⟨p, 0, none⟩ = some (.slice (some ⟨g5, 0, none⟩) l2.length cap5) := by rw [blk_cell' hp5]; rfl
            have lp5 := blk_lt hp5
            have H1 := Lib.hid (HT.out l2 (onceP_hit hlt Hno.out (firstR_hit hjl Hnj.out hl2)) w5 g5 cap5 (((Hb2.out.trans (HBj.out.mono Hb2.out.size)).mono hbase).trans hb5) ho5)
            clear hp5 ho5 hleft hb5 hl2 hidx hcf
            go_wp2
            exact H1.out
        · obtain rfl : j = 11 := by omega
          have Hno2 : Hid (∀ k, k < i + 1 → firstR l k = none) := Lib.hid fun k hk => by
            by_cases e : k = i
            · subst e; exact firstR_none Hnj.out
            · exact Hno.out k (by omega)
          go_wp2
          go_roundg (l.length - (i + 1))
          case measure => omega
          case rel => exact ⟨i + 1, hlt, rfl, by go_num, Hno2, HBj⟩
    · obtain rfl : i = l.length := by omega
      have H1 := Lib.hid (HF.out (onceP_none Hno.out) wr (Hb2.out.trans (HB.out.mono Hb2.out.size)))
      go_wp2
      exact H1.out
end Go.Proofs.YtkcmijnaheapdaaDoor
