/- PeepReach's walk. -/
import Derived.Test.YtemakpjickbmnaaDoorBase
import Derived.Test.YtemakpjickbmnaaDoorRows
import Derived.IntWalk
import Derived.Outline
import Derived.Deep.LoopGhost
import Derived.Deep.RegionLaw
import Derived.Test.YtemakpjickbmnaaDoorPkF
import Derived.Test.YtemakpjickbmnaaDoorKitX
import Derived.Test.YtemakpjickbmnaaDoorKitPm
import Derived.Test.YtemakpjickbmnaaDoorPrB
namespace Go.Proofs.YtemakpjickbmnaaDoor
open Go.RowKit
set_option linter.unusedSimpArgs false
set_option linter.unusedVariables false

set_option maxRecDepth 100000 in
set_option maxHeartbeats 2000000 in
theorem PeepReach_calls (raw : List Int) (v : Value) (w : World) (h : rpInt.SL w w.heap.size raw v) (hi : ∀ x ∈ raw, I64 x) (hS : Shapes w) (R : Ending → World → Prop) (hR : ∀ w', Below w.heap.size w w' → R (.returned (.bool true)) w') :
    Calls Tryd.prog 3 #[v] w R := by
  have h0 := hS.1
  have HS := Lib.hid hS
  have HR := Lib.hid hR
  clear hR hS
  go_enter Tryd.func3, Tryd.ntmps3
  go_wp2_with fail
  refine CodeOf_calls raw _ 30 3 _ h hi (by omega) (by omega) _ (fun w1 v1 hb1 ho1 => ?_)
  have hf := code_fault (l := raw) (n := 30) (r := 3) (by omega)
  have hok := macsOk_iff.1 hf
  generalize codeOf raw 30 3 = L at *
  have Hok := Lib.hid hok
  have Ho1 := Lib.hid ho1
  have Hb1 := Lib.hid hb1
  have Hf := Lib.hid hf
  clear hb1 ho1 h hf hok
  go_wp2_with fail
  refine PeepDo_calls _ L _ (SLMac_own Ho1.out (Nat.le_refl _)) (HS.out.up Hb1.out h0) _ (fun _ w2 v2 hb2 ho2 => ?_) (fun e => absurd (by rw [Hf.out]) e)
  have hok2 := peepL_ok Hok.out
  have Hdone := Lib.hid (peepL_done Hok.out)
  generalize peepL L = M at *
  obtain ⟨g2, c2, rfl, hg2a, hg2b, hc2a, hc2b⟩ := own_some ho2 hok2.some_
  have hpos := hok2.some_
  have hfew := hok2.few
  have Hok2 := Lib.hid hok2
  have hb2' := Hb1.out.trans (hb2.mono Hb1.out.size)
  have Hb2 := Lib.hid hb2'
  have Hsl2 := Lib.hid (SLMac_own ho2 (Nat.le_refl _))
  have Hcode2 := Lib.hid (macsOk_iff.2 hok2)
  have hz2 := hb2'.size
  clear hb2 ho2 hok2 hb2' Ho1 Hb1 Hf Hok hi
  obtain ⟨N2, hN2⟩ : ∃ N2, M.length = N2 := ⟨_, rfl⟩
  have HN2 := Lib.hid hN2
  rw [hN2] at hpos hfew Hsl2 ⊢
  clear hN2
  go_wp2_with fail
  refine RefMacCheck_calls _ M _ (Hsl2.out.up (by exact bl0) (by simp)) _ (fun w3 hb3 => ?_)
  rw [Hcode2.out]
  have hb3' : Below w2.heap.size w2 w3 := (by exact bl0 : Below w2.heap.size w2 (w2.alloc (Obj.cells #[.int .i64 0, .int .i64 0] 25))).trans (hb3.mono (by simp))
  have Hb3 := Lib.hid (Hb2.out.trans (hb3'.mono hz2))
  have Hsl3 := Lib.hid (Hsl2.out.up hb3' hb3'.size)
  clear hb3 hb3' Hsl2 Hb2
  have hz3 := Hb3.out.size
  have hfd : ∀ w, (Instr.field 25 (.agg #[.int .i64 0, .int .i64 0]) 0).run Tryd.prog w = .ok (.int .i64 0) w := fun _ => by kernel_rfl
  go_wp2_with fail
  refine Reached_calls _ M Hok2.out _ Hsl3.out _ (fun w4 g4 hb4 hg4 hblk4 => ?_)
  rw [HN2.out]
  have Hsl4 := Lib.hid (Hsl3.out.up hb4 hb4.size)
  have Hb4 := Lib.hid (Hb3.out.trans (hb4.mono hz3))
  have Hblk4 := Lib.hid hblk4
  have hz4 := Hb4.out.size
  clear hb4 hblk4 Hsl3 Hb3 hg4
  go_wp2_with fail
  refine MacLive_calls _ M Hok2.out _ Hsl4.out _ (fun w5 v5 hb5 hsl5 => ?_)
  obtain ⟨A5, c5, rfl, hm5, hc5, hs5⟩ := hsl5.cases_
  have hLL : (liveL M).length = N2 := by rw [← HN2.out]; simp [liveL, liveTo]
  rw [hLL] at hs5 ⊢
  have HLL := Lib.hid hLL
  clear hLL
  have Hl5 := Lib.hid hs5
  have Hsl5 := Lib.hid (Hsl4.out.up hb5 hb5.size)
  have Hblk5 := Lib.hid ((hb5.block _ (blk_lt Hblk4.out)).trans Hblk4.out)
  have Hb5 := Lib.hid (Hb4.out.trans (hb5.mono hz4))
  clear hb5 hsl5 hs5 Hsl4 Hblk4 Hb4
  have hw5 := Hb5.out.size
  go_wp2
  go_loopg [8] N2 (fun gh s8 wr => ∃ i : Nat, i ≤ N2 ∧ gh = N2 - i ∧ s8 = .int .i64 (i : Int) ∧ Hid (Below w5.heap.size w5 wr))
  case atStart => exact ⟨0, Nat.zero_le _, rfl, rfl, Lib.hid (by exact bl0)⟩
  case round =>
    obtain ⟨i, hiN, rfl, rfl, Hbr⟩ := hrel
    by_cases hi : i < N2
    · have hiM : i < M.length := by rw [HN2.out]; exact hi
      have i0 : (0 : Int) ≤ (i : Int) := by omega
      have i1 : (i : Int) < (N2 : Int) := by omega
      have hm := Hok2.out.at_ hiM
      have hrc := left_reached Hdone.out hiM
      have hsh := left_short Hdone.out hiM
      have hit := left_itself Hdone.out hiM
      have hlv := left_live Hdone.out hiM
      obtain ⟨b6, o6, eA, hheld⟩ := mac_held (by rw [HN2.out]; exact Hsl5.out) hiM
      injection eA with eA
      injection eA with e1 e2 e3
      subst e1 e2
      have qR : wr.cell? ⟨g4, i, none⟩ = some (.bool true) := by
        rw [blk_cell' ((Hbr.out.block _ (blk_lt Hblk5.out)).trans Hblk5.out), boolsA_get (by simp [reachW]; exact hiM)]
        unfold reachW
        rw [atB_map hiM, hrc]
      simp only [Nat.zero_add] at hheld
      obtain ⟨lb, c0, c1, c2, c3, c4⟩ := hheld wr Hbr.out
      have lG4 : g4 < wr.heap.size := Nat.lt_of_lt_of_le (blk_lt Hblk5.out) Hbr.out.size
      have Hheld := Lib.hid hheld
      generalize atL M i = m at *
      cases hj : jumpsM m
      · have hop : m.op < 37 ∨ 43 < m.op := by
          have : ¬ (37 ≤ m.op ∧ m.op ≤ 43) := fun e => by rw [jumps_op.2 e] at hj; cases hj
          omega
        have d0 := hm.dst0
        have d1 := hm.dst1
        have hv : (¬ (37 : Int) ≤ m.op ∧ (m.op == 2) = true ∧ (m.dst == m.a) = false) ∨ (¬ (37 : Int) ≤ m.op ∧ (m.op == 2) = false) ∨ ((37 : Int) ≤ m.op ∧ ¬ m.op ≤ 43 ∧ (m.op == 2) = false) := by
          rcases hop with h | h
          · by_cases h2 : m.op = 2
            · have : ¬ m.dst = m.a := fun e => hit ⟨h2, e⟩
              exact .inl ⟨by omega, by simpa using h2, by simpa using this⟩
            · exact .inr (.inl ⟨by omega, by simpa using h2⟩)
          · exact .inr (.inr ⟨by omega, by omega, by simp; omega⟩)
        have Hlv := Lib.hid hlv
        have Hheld := Lib.hid hheld
        clear hlv hit hsh hj hrc hheld hop
        rcases hv with ⟨a1, a2, a3⟩ | ⟨a1, a2⟩ | ⟨a1, a2, a3⟩
        all_goals
          go_wp2_with fail
          go_quiet (fail)
          go_wp2_with fail
          refine Quiet_calls m _ hm _ _ (fun w7 hb7 => ?_)
          have Hb7 := Lib.hid ((below_drewN Hbr.out _).trans (hb7.mono Hbr.out.size))
          clear hb7 c0 c1 c2 c3 c4 lb
          obtain ⟨lb, c0, c1, c2, c3, c4⟩ := Hheld.out w7 Hb7.out
          cases hq : quietM m
          · clear hq Hlv
            go_wp2
            go_roundg (N2 - (i + 1))
            case measure => omega
            case rel => exact ⟨i + 1, by omega, rfl, by go_num, Hb7⟩
          · by_cases hn : i + 1 < N2
            · have hlive := Hlv.out hq (by rw [HN2.out]; exact hn)
              have hi1M : i + 1 < (liveL M).length := by rw [HLL.out]; exact hn
              obtain ⟨bL, oL, u, eL, hbL, qL, hrow⟩ := Hl5.out.slice_at hi1M
              rw [liveL_at hi1M] at hrow
              obtain ⟨Ar, cr, eu, hmr, hcr, hsr⟩ := hrow.cases_
              have hany : (liveRow M (i + 1)).any (fun x => x == m.dst) = true := by
                have h1 := liveRow_has M (i + 1) m.dst.toNat (by omega)
                rw [hlive, decide_eq_true_eq] at h1
                rw [List.any_eq_true]
                exact ⟨_, h1, by simp; omega⟩
              have Hany := Lib.hid hany
              have Hsr := Lib.hid hsr
              subst eu
              subst eL
              have QL : Hid (∀ W, Below w5.heap.size w5 W → bL < W.heap.size ∧ W.cell? ⟨bL, oL + (i + 1), none⟩ = some (.slice Ar (liveRow M (i + 1)).length cr)) := Lib.hid fun W hW => ⟨Nat.lt_of_lt_of_le hbL hW.size, (hW.cell (p := ⟨bL, oL + (i + 1), none⟩) hbL).trans qL⟩
              have i2 : (i : Int) + 1 < (N2 : Int) := by omega
              have i3 : (0 : Int) ≤ (i : Int) + 1 := by omega
              have i4 : ((i : Int) + 1).toNat = i + 1 := by omega
              clear hany hsr hrow hlive Hlv qL hi1M hq
              generalize liveRow M (i + 1) = row at *
              obtain ⟨NR, hNR⟩ : ∃ NR, row.length = NR := ⟨_, rfl⟩
              rw [hNR] at QL Hsr
              have HNR := Lib.hid hNR
              clear hNR
              obtain ⟨lbL, qL⟩ := QL.out w7 Hb7.out
              go_wp2
              go_loopg [10, 11] NR (fun gh s10 s11 wx => ∃ k : Nat, k ≤ NR ∧ gh = NR - k ∧ s10 = .bool ((row.take k).any (fun x => x == m.dst)) ∧ s11 = .int .i64 (k : Int) ∧ Hid (Below w5.heap.size w5 wx))
              case atStart => exact ⟨0, Nat.zero_le _, rfl, rfl, rfl, Hb7⟩
              case round =>
                obtain ⟨k, hk, rfl, rfl, rfl, Hb8⟩ := hrel
                clear c0 c1 c2 c3 c4 lb lbL qL
                obtain ⟨lbL, qL⟩ := QL.out wr Hb8.out
                obtain ⟨lb, c0, c1, c2, c3, c4⟩ := Hheld.out wr Hb8.out
                by_cases hkr : k < NR
                · have hkl : k < row.length := by rw [HNR.out]; exact hkr
                  obtain ⟨br, od, rfl, hbr, q0⟩ := Hsr.out.int_at (k := k) hkl
                  have q1 := (Hb8.out.cell (p := ⟨br, od + k, none⟩) hbr).trans q0
                  have lbr := Nat.lt_of_lt_of_le hbr Hb8.out.size
                  have hst := any_take_snoc (p := fun x => x == m.dst) hkl
                  rw [show row.getD k 0 = row[k] from by rw [List.getD_eq_getElem?_getD, List.getElem?_eq_getElem hkl]; rfl] at q1
                  have j1 : (k : Int) < (NR : Int) := by omega
                  have j0 : (0 : Int) ≤ (k : Int) := by omega
                  have Hst := Lib.hid hst
                  clear q0 hst
                  generalize row[k] = x at *
                  cases hb : (row.take k).any (fun x => x == m.dst)
                  · cases hx : x == m.dst
                    · have H2 := Lib.hid (show (row.take (k + 1)).any (fun x => x == m.dst) = false by rw [Hst.out, hb]; exact hx)
                      clear hb Hst
                      go_wp2_with fail
                      go_quiet (fail)
                      go_wp2
                      go_roundg (NR - (k + 1))
                      case measure => omega
                      case rel => exact ⟨k + 1, by omega, rfl, by rw [H2.out], by go_num, Lib.hid (below_drewN Hb8.out _)⟩
                    · have H2 := Lib.hid (show (row.take (k + 1)).any (fun x => x == m.dst) = true by rw [Hst.out, hb]; exact hx)
                      clear hb Hst
                      go_wp2_with fail
                      go_quiet (fail)
                      go_wp2
                      go_roundg (NR - (k + 1))
                      case measure => omega
                      case rel => exact ⟨k + 1, by omega, rfl, by rw [H2.out], by go_num, Lib.hid (below_drewN Hb8.out _)⟩
                  · have H2 := Lib.hid (show (row.take (k + 1)).any (fun x => x == m.dst) = true by rw [Hst.out, hb]; rfl)
                    clear hb Hst
                    go_wp2_with fail
                    go_quiet (fail)
                    go_wp2
                    go_roundg (NR - (k + 1))
                    case measure => omega
                    case rel => exact ⟨k + 1, by omega, rfl, by rw [H2.out], by go_num, Lib.hid (below_drewN Hb8.out _)⟩
                · obtain rfl : k = NR := by omega
                  have hend : (row.take k).any (fun x => x == m.dst) = true := by rw [← HNR.out, List.take_length]; exact Hany.out
                  rw [hend]
                  clear hend
                  go_wp2
                  go_roundg (N2 - (i + 1))
                  case measure => omega
                  case rel => exact ⟨i + 1, by omega, rfl, by go_num, Hb8⟩
            · clear hq Hlv
              go_wp2
              go_roundg (N2 - (i + 1))
              case measure => omega
              case rel => exact ⟨i + 1, by omega, rfl, by go_num, Hb7⟩
      · have hop := jumps_op.1 hj
        have a1 : (37 : Int) ≤ m.op := hop.1
        have a2 : m.op ≤ 43 := hop.2
        have a3 : (m.n == (i : Int) + 1) = false := by
          have : ¬ m.n = (i : Int) + 1 := fun e => hsh ⟨hj, e⟩
          simpa using this
        have a4 : (m.op == 2) = false := by simp; omega
        clear hsh hit hop hj hrc hheld
        have hq : quietM m = false := by
          unfold quietM
          rw [if_neg (by omega), if_neg (by omega), if_neg (by omega), decide_eq_false (show ¬ (5 ≤ m.op ∧ m.op ≤ 32) by omega)]
          rfl
        have Hq := Lib.hid hq
        clear hq hlv
        go_wp2_with fail
        go_quiet (fail)
        go_wp2_with fail
        refine Quiet_calls m _ hm _ _ (fun w7 hb7 => ?_)
        rw [Hq.out]
        have Hb7 := Lib.hid ((below_drewN Hbr.out _).trans (hb7.mono Hbr.out.size))
        clear hb7
        go_wp2
        go_roundg (N2 - (i + 1))
        case measure => omega
        case rel => exact ⟨i + 1, by omega, rfl, by go_num, Hb7⟩
    · obtain rfl : i = N2 := by omega
      have Hfin := Lib.hid (HR.out _ (Hb5.out.trans (Hbr.out.mono hw5)))
      go_wp2
      exact Hfin.out
end Go.Proofs.YtemakpjickbmnaaDoor
