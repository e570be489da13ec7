/- The document's rules of an instruction and what stands next to it. -/
import Derived.Test.YtemakpjickbmnaaDoorBase
import Derived.Test.YtemakpjickbmnaaDoorRows
import Derived.IntWalk
import Derived.Outline
import Derived.Deep.LoopGhost
import Derived.Deep.CutBlock
import Derived.Deep.DeepCutAuto
import Derived.Test.YtemakpjickbmnaaDoorPt4
import Derived.Test.YtemakpjickbmnaaDoorPt3
namespace Go.Proofs.YtemakpjickbmnaaDoor
open Go.RowKit
set_option linter.unusedSimpArgs false
set_option linter.unusedVariables false

theorem ifsM_n (m o : Mac) : (ifsM m o).n = o.n := by
  unfold ifsM
  repeat' split
  all_goals rfl
theorem bne_dec (a b : Int) : (a != b) = !decide (a = b) := by
  rw [Bool.eq_iff_iff]; simp
theorem beq_dec (a b : Int) : (a == b) = decide (a = b) := by
  rw [Bool.eq_iff_iff]; simp
set_option maxRecDepth 100000 in
set_option maxHeartbeats 4000000 in
theorem pair_calls (v : Value) (l : List Mac) (hok : MacsOk l) (i : Nat) (hbs : besB l i = true) (w : World) (h : rpMac.SL w w.heap.size l v) (R : Ending → World → Prop)
    (hT : ∀ l', pairR l i = some l' → ∀ w' v', Below w.heap.size w w' → rpMac.SL w' w'.heap.size l' v' → R (.returned (.tuple #[v', .bool true])) w')
    (hF : pairR l i = none → ∀ w', Below w.heap.size w w' → R (.returned (.tuple #[v, .bool false])) w') :
    Calls Tryd.prog 65 #[v, .int .i64 (i : Int)] w R := by
  have hi1 := (besB_iff.1 hbs).1
  have hi : i < l.length := by omega
  have hfew := hok.few
  have hm := hok.at_ hi
  have ho := hok.at_ hi1
  have Hj5 := Lib.hid hok.jumps5000
  have Hok := Lib.hid hok
  have hlast : ((atL l (i + 1)).op = 38 ∨ (atL l (i + 1)).op = 39) → i + 1 + 1 < l.length := fun e => op_not_last hok hi1 (by omega) (by omega)
  obtain ⟨A, c, rfl, hmx, hcap, hs⟩ := h.cases_
  have Hs := Lib.hid hs
  have i0 : (0 : Int) ≤ (i : Int) := by omega
  have i1 : (i : Int) < (l.length : Int) := by omega
  have i2 : (i : Int) + 1 < (l.length : Int) := by omega
  have i3 : (0 : Int) ≤ (i : Int) + 1 := by omega
  have i4 : ((i : Int) + 1).toNat = i + 1 := by omega
  obtain ⟨b6, o6, eA, hheld⟩ := mac_held hs hi
  subst eA
  obtain ⟨lb, c0, c1, c2', c3, c4⟩ := hheld _ (Below.refl _ _)
  obtain ⟨b7, o7, eA, hheld2⟩ := mac_held hs hi1
  injection eA with eA
  injection eA with e1 e2
  subst e1 e2
  obtain ⟨_, d0, d1, d2, d3, d4⟩ := hheld2 _ (Below.refl _ _)
  rw [pair_eq hok hbs] at hT hF
  generalize atL l i = m at *
  generalize atL l (i + 1) = o at *
  obtain ⟨W1, hW1⟩ : ∃ W1, W1 = w.alloc (Obj.cells #[.int .i64 m.op, .int .i64 m.dst, .int .i64 m.a, .int .i64 m.b, .int .i64 m.n] 36) := ⟨_, rfl⟩
  have hbW1 : Below w.heap.size w W1 := by subst hW1; exact bl0
  obtain ⟨lb1, d0, d1, d2, d3, d4⟩ := hheld2 W1 hbW1
  have hz1 : W1.heap.size = w.heap.size + 1 := by subst hW1; simp
  obtain ⟨W2, hW2⟩ : ∃ W2, W2 = W1.alloc (Obj.cells #[.int .i64 o.op, .int .i64 o.dst, .int .i64 o.a, .int .i64 o.b, .int .i64 o.n] 36) := ⟨_, rfl⟩
  have hbW2 : Below W1.heap.size W1 W2 := by subst hW2; exact bl0
  have hB2 : Below w.heap.size w W2 := hbW1.trans (hbW2.mono (by omega))
  have hM : W2.heap[w.heap.size]? = some (.cells #[.int .i64 m.op, .int .i64 m.dst, .int .i64 m.a, .int .i64 m.b, .int .i64 m.n] 36 (0, 0)) := by subst hW2; subst hW1; exact blk_alloc (heap_alloc_new _ _) _
  have hO : W2.heap[W1.heap.size]? = some (.cells #[.int .i64 o.op, .int .i64 o.dst, .int .i64 o.a, .int .i64 o.b, .int .i64 o.n] 36 (0, 0)) := by rw [hW2]; exact heap_alloc_new _ _
  have HK : Hid (∀ W, Below W2.heap.size W2 W → (w.heap.size < W.heap.size ∧ W.cell? ⟨w.heap.size, 0, none⟩ = some (.int .i64 m.op) ∧ W.cell? ⟨w.heap.size, 1, none⟩ = some (.int .i64 m.dst) ∧ W.cell? ⟨w.heap.size, 2, none⟩ = some (.int .i64 m.a) ∧ W.cell? ⟨w.heap.size, 3, none⟩ = some (.int .i64 m.b) ∧ W.cell? ⟨w.heap.size, 4, none⟩ = some (.int .i64 m.n)) ∧
      (W1.heap.size < W.heap.size ∧ W.cell? ⟨W1.heap.size, 0, none⟩ = some (.int .i64 o.op) ∧ W.cell? ⟨W1.heap.size, 1, none⟩ = some (.int .i64 o.dst) ∧ W.cell? ⟨W1.heap.size, 2, none⟩ = some (.int .i64 o.a) ∧ W.cell? ⟨W1.heap.size, 3, none⟩ = some (.int .i64 o.b) ∧ W.cell? ⟨W1.heap.size, 4, none⟩ = some (.int .i64 o.n))) := Lib.hid fun W hW => by
    have h1 := (hW.block _ (blk_lt hM)).trans hM
    have h2 := (hW.block _ (blk_lt hO)).trans hO
    refine ⟨⟨blk_lt h1, ?_, ?_, ?_, ?_, ?_⟩, ⟨blk_lt h2, ?_, ?_, ?_, ?_, ?_⟩⟩ <;> simp [World.cell?, h1, h2]
  have HW2 := Lib.hid hW2.symm
  have HW1 := Lib.hid hW1.symm
  have HB2 := Lib.hid hB2
  have Hlast := Lib.hid hlast
  obtain ⟨⟨l0, p0, p1, p2, p3, p4⟩, ⟨l1, q0, q1, q2, q3, q4⟩⟩ := HK.out W2 (Below.refl _ _)
  clear hs h hheld hheld2 hok hW1 hW2 hM hO hbW2 hB2 hlast hz1
  obtain ⟨b3, hb3⟩ : ∃ b3 : Bool, b3 = decide (m.op = 36 ∧ o.op = 35 ∧ o.n = m.n) := ⟨_, rfl⟩
  obtain ⟨b5, hb5⟩ : ∃ b5 : Bool, b5 = decide (m.op = 2 ∧ o.op = 2 ∧ o.dst = m.a ∧ o.a = m.dst) := ⟨_, rfl⟩
  obtain ⟨b7', hb7⟩ : ∃ b7 : Bool, b7 = decide (¬ (o.op = 38 ∨ o.op = 39) ∨ ¬ o.a = m.dst) := ⟨_, rfl⟩
  have H3 := Lib.hid hb3
  have H5 := Lib.hid hb5
  have H7 := Lib.hid hb7
  have HT := Lib.hid hT
  have HF := Lib.hid hF
  clear hb3 hb5 hb7 hT hF
  go_enter Tryd.func65, Tryd.ntmps65
  go_upto_region 2 with fail
  rw [HW1.out]
  go_upto_region 3 with fail
  rw [HW2.out]
  go_cut [31] (fun s wx => s = .bool b3 ∧ wx = W2)
  case first =>
    by_cases e1 : m.op = 36
    · have j1 : (m.op == 36) = true := by simpa using e1
      by_cases e2 : o.op = 35
      · have j2 : (o.op == 35) = true := by simpa using e2
        by_cases e3 : o.n = m.n
        · have j3 : (o.n == m.n) = true := by simpa using e3
          have hb : b3 = true := by rw [H3.out, decide_eq_true ⟨e1, e2, e3⟩]
          subst hb
          clear e1 e2 e3
          go_wp2
          go_meet
          exact ⟨rfl, rfl⟩
        · have j3 : (o.n == m.n) = false := by simpa using e3
          have hb : b3 = false := by rw [H3.out, decide_eq_false (fun e => e3 e.2.2)]
          subst hb
          clear e1 e2 e3
          go_wp2
          go_meet
          exact ⟨rfl, rfl⟩
      · have j2 : (o.op == 35) = false := by simpa using e2
        have hb : b3 = false := by rw [H3.out, decide_eq_false (fun e => e2 e.2.1)]
        subst hb
        clear e1 e2
        go_wp2
        go_meet
        exact ⟨rfl, rfl⟩
    · have j1 : (m.op == 36) = false := by simpa using e1
      have hb : b3 = false := by rw [H3.out, decide_eq_false (fun e => e1 e.1)]
      subst hb
      clear e1
      go_wp2
      go_meet
      exact ⟨rfl, rfl⟩
  case rest =>
    obtain ⟨rfl, rfl⟩ := hcut
    cases b3
    · have n3 : ¬ (m.op = 36 ∧ o.op = 35 ∧ o.n = m.n) := by simpa using H3.out
      have HT2 := HT.out
      have HF2 := HF.out
      rw [if_neg n3] at HT2 HF2
      have HT := Lib.hid HT2
      have HF := Lib.hid HF2
      clear n3 HT2 HF2
      go_upto_region 5 with fail
      go_cut [62] (fun s wx => s = .bool b5 ∧ wx = wc)
      case first =>
        by_cases e1 : m.op = 2
        · have j1 : (m.op == 2) = true := by simpa using e1
          by_cases e2 : o.op = 2
          · have j2 : (o.op == 2) = true := by simpa using e2
            by_cases e3 : o.dst = m.a
            · have j3 : (o.dst == m.a) = true := by simpa using e3
              by_cases e4 : o.a = m.dst
              · have j4 : (o.a == m.dst) = true := by simpa using e4
                have hb : b5 = true := by rw [H5.out, decide_eq_true ⟨e1, e2, e3, e4⟩]
                subst hb
                clear e1 e2 e3 e4
                go_wp2
                go_meet
                exact ⟨rfl, rfl⟩
              · have j4 : (o.a == m.dst) = false := by simpa using e4
                have hb : b5 = false := by rw [H5.out, decide_eq_false (fun e => e4 e.2.2.2)]
                subst hb
                clear e1 e2 e3 e4
                go_wp2
                go_meet
                exact ⟨rfl, rfl⟩
            · have j3 : (o.dst == m.a) = false := by simpa using e3
              have hb : b5 = false := by rw [H5.out, decide_eq_false (fun e => e3 e.2.2.1)]
              subst hb
              clear e1 e2 e3
              go_wp2
              go_meet
              exact ⟨rfl, rfl⟩
          · have j2 : (o.op == 2) = false := by simpa using e2
            have hb : b5 = false := by rw [H5.out, decide_eq_false (fun e => e2 e.2.1)]
            subst hb
            clear e1 e2
            go_wp2
            go_meet
            exact ⟨rfl, rfl⟩
        · have j1 : (m.op == 2) = false := by simpa using e1
          have hb : b5 = false := by rw [H5.out, decide_eq_false (fun e => e1 e.1)]
          subst hb
          clear e1
          go_wp2
          go_meet
          exact ⟨rfl, rfl⟩
      case rest =>
        obtain ⟨rfl, rfl⟩ := hcut
        cases b5
        · have n5 : ¬ (m.op = 2 ∧ o.op = 2 ∧ o.dst = m.a ∧ o.a = m.dst) := by simpa using H5.out
          have HT2 := HT.out
          have HF2 := HF.out
          rw [if_neg n5] at HT2 HF2
          have HT := Lib.hid HT2
          have HF := Lib.hid HF2
          clear n5 HT2 HF2
          go_upto_region 7 with fail
          go_cut [81] (fun s wx => s = .bool b7' ∧ wx = wc)
          case first =>
            by_cases e1 : o.op = 38
            · have j1 : (o.op != 38) = false := by simp [e1]
              by_cases e3 : o.a = m.dst
              · have j3 : (o.a != m.dst) = false := by simp [e3]
                have hb : b7' = false := by rw [H7.out]; simp [e1, e3]
                subst hb
                clear e1 e3
                go_wp2
                go_meet
                exact ⟨rfl, rfl⟩
              · have j3 : (o.a != m.dst) = true := by simp [e3]
                have hb : b7' = true := by rw [H7.out]; simp [e3]
                subst hb
                clear e1 e3
                go_wp2
                go_meet
                exact ⟨rfl, rfl⟩
            · have j1 : (o.op != 38) = true := by simp [e1]
              by_cases e2 : o.op = 39
              · have j2 : (o.op != 39) = false := by simp [e2]
                by_cases e3 : o.a = m.dst
                · have j3 : (o.a != m.dst) = false := by simp [e3]
                  have hb : b7' = false := by rw [H7.out]; simp [e2, e3]
                  subst hb
                  clear e1 e2 e3
                  go_wp2
                  go_meet
                  exact ⟨rfl, rfl⟩
                · have j3 : (o.a != m.dst) = true := by simp [e3]
                  have hb : b7' = true := by rw [H7.out]; simp [e3]
                  subst hb
                  clear e1 e2 e3
                  go_wp2
                  go_meet
                  exact ⟨rfl, rfl⟩
              · have j2 : (o.op != 39) = true := by simp [e2]
                have hb : b7' = true := by rw [H7.out]; simp [e1, e2]
                subst hb
                clear e1 e2
                go_wp2
                go_meet
                exact ⟨rfl, rfl⟩
          case rest =>
            obtain ⟨rfl, rfl⟩ := hcut
            cases b7'
            · have n7 : ¬ (¬ (o.op = 38 ∨ o.op = 39) ∨ ¬ o.a = m.dst) := by have := H7.out; simpa using this
              have hask : o.op = 38 ∨ o.op = 39 := Classical.byContradiction fun e => n7 (.inl e)
              have HT2 := HT.out
              have HF2 := HF.out
              rw [if_neg n7] at HT2 HF2
              clear n7 HT HF
              by_cases h1 : m.op = 1
              · have j1 : (m.op == 1) = true := by simpa using h1
                rw [if_pos h1] at HT2 HF2
                clear h1
                rcases hask with h8 | h8
                · have j8 : (o.op == 38) = true := by simpa using h8
                  by_cases hz : m.n = 0
                  · have jz : (m.n != 0) = false := by simp [hz]
                    have HTg := Lib.hid (HT2 (goneL l (i + 1)) (by rw [if_pos (by simp [hz, h8])]))
                    clear HT2 HF2 hz h8
                    go_wp2_with fail
                    rw [show ((i : Int) + 1) = ((i + 1 : Nat) : Int) from by omega]
                    refine gone_calls _ l (i + 1) hi1 hfew Hj5.out _ (Hs.out.up HB2.out HB2.out.size) _ (fun w9 v9 hb9 hs9 => ?_)
                    have Hfin := Lib.hid (HTg.out w9 v9 (HB2.out.trans (hb9.mono HB2.out.size)) hs9)
                    obtain ⟨A9, c9, rfl, _, _, hx9⟩ := hs9.cases_
                    clear hx9 hb9
                    generalize (goneL l (i + 1)).length = N9 at *
                    go_wp2
                    exact Hfin.out
                  · have jz : (m.n != 0) = true := by simp [hz]
                    have HTs := Lib.hid (HT2 (l.set (i + 1) ⟨37, 0, 0, 0, o.n⟩) (by rw [if_neg (by simp [hz, h8])]))
                    clear HT2 HF2 hz h8
                    go_wp2_with fail
                    rw [show ((i : Int) + 1) = ((i + 1 : Nat) : Int) from by omega]
                    refine turned_calls _ l (i + 1) hi1 hfew ⟨37, 0, 0, 0, o.n⟩ _ (Hs.out.up HB2.out HB2.out.size) _ (fun w9 v9 hb9 hs9 => ?_)
                    have Hfin := Lib.hid (HTs.out w9 v9 (HB2.out.trans (hb9.mono HB2.out.size)) hs9)
                    obtain ⟨A9, c9, rfl, _, _, hx9⟩ := hs9.cases_
                    have hlen : (l.set (i + 1) (⟨37, 0, 0, 0, o.n⟩ : Mac)).length = l.length := List.length_set
                    rw [hlen] at Hfin ⊢
                    clear hx9 hb9 hlen
                    go_wp2
                    exact Hfin.out
                · have j8 : (o.op == 38) = false := by simp [h8]
                  by_cases hz : m.n = 0
                  · have jz : (m.n != 0) = false := by simp [hz]
                    have HTs := Lib.hid (HT2 (l.set (i + 1) ⟨37, 0, 0, 0, o.n⟩) (by rw [if_neg (by simp [hz, h8])]))
                    clear HT2 HF2 hz h8
                    go_wp2_with fail
                    rw [show ((i : Int) + 1) = ((i + 1 : Nat) : Int) from by omega]
                    refine turned_calls _ l (i + 1) hi1 hfew ⟨37, 0, 0, 0, o.n⟩ _ (Hs.out.up HB2.out HB2.out.size) _ (fun w9 v9 hb9 hs9 => ?_)
                    have Hfin := Lib.hid (HTs.out w9 v9 (HB2.out.trans (hb9.mono HB2.out.size)) hs9)
                    obtain ⟨A9, c9, rfl, _, _, hx9⟩ := hs9.cases_
                    have hlen : (l.set (i + 1) (⟨37, 0, 0, 0, o.n⟩ : Mac)).length = l.length := List.length_set
                    rw [hlen] at Hfin ⊢
                    clear hx9 hb9 hlen
                    go_wp2
                    exact Hfin.out
                  · have jz : (m.n != 0) = true := by simp [hz]
                    have HTg := Lib.hid (HT2 (goneL l (i + 1)) (by rw [if_pos (by simp [hz, h8])]))
                    clear HT2 HF2 hz h8
                    go_wp2_with fail
                    rw [show ((i : Int) + 1) = ((i + 1 : Nat) : Int) from by omega]
                    refine gone_calls _ l (i + 1) hi1 hfew Hj5.out _ (Hs.out.up HB2.out HB2.out.size) _ (fun w9 v9 hb9 hs9 => ?_)
                    have Hfin := Lib.hid (HTg.out w9 v9 (HB2.out.trans (hb9.mono HB2.out.size)) hs9)
                    obtain ⟨A9, c9, rfl, _, _, hx9⟩ := hs9.cases_
                    clear hx9 hb9
                    generalize (goneL l (i + 1)).length = N9 at *
                    go_wp2
                    exact Hfin.out
              · have j1 : (m.op == 1) = false := by simpa using h1
                rw [if_neg h1] at HT2 HF2
                clear h1
                by_cases h15 : (15 : Int) ≤ m.op
                · by_cases h18 : m.op ≤ 18
                  · obtain ⟨d, hd⟩ : ∃ d : Nat, m.dst = (d : Int) := ⟨m.dst.toNat, by have := hm.dst0; omega⟩
                    have hd16 : d < 16 := by have := hm.dst1; omega
                    rw [hd, Int.toNat_natCast] at HT2 HF2
                    have hjb := ho.jump (by omega) (by omega)
                    have hi2 := Hlast.out hask
                    have HT := Lib.hid HT2
                    have HF := Lib.hid HF2
                    have Hask := Lib.hid hask
                    rw [hd] at p1
                    clear HT2 HF2 hd hask
                    go_wp2_with fail
                    rw [show ((i : Int) + 1) = ((i + 1 : Nat) : Int) from by omega]
                    refine rbehind_calls _ l Hok.out (i + 1) hi1 d hd16 _ (Hs.out.up HB2.out HB2.out.size) _ (fun w7 hb7 => ?_)
                    have Hb7 := Lib.hid hb7
                    have HB7 := Lib.hid (HB2.out.trans (hb7.mono HB2.out.size))
                    clear hb7 l0 p0 p1 p2 p3 p4 l1 q0 q1 q2 q3 q4
                    obtain ⟨⟨l0, p0, p1, p2, p3, p4⟩, ⟨l1, q0, q1, q2, q3, q4⟩⟩ := HK.out w7 Hb7.out
                    cases hbe : behB l (i + 1) d
                    · have HTs := Lib.hid (HT.out (goneL (l.set (i + 1) (ifsM m o)) i) (by rw [hbe, if_pos ⟨⟨h15, h18⟩, rfl⟩]))
                      clear hbe HT HF
                      go_wp2_with fail
                      refine ifs_calls m o h15 h18 Hask.out _ _ (fun w8 hb8 => ?_)
                      have HB8 := Lib.hid (HB7.out.trans (hb8.mono HB7.out.size))
                      have hxn : (ifsM m o).n = o.n := ifsM_n m o
                      clear hb8
                      generalize ifsM m o = x at *
                      rw [← hxn] at hjb
                      clear hxn
                      go_wp2_with fail
                      rw [show ((i : Int) + 1) = ((i + 1 : Nat) : Int) from by omega]
                      refine turned_calls _ l (i + 1) hi1 hfew x _ (Hs.out.up HB8.out HB8.out.size) _ (fun w9 v9 hb9 hs9 => ?_)
                      have HB9 := Lib.hid (HB8.out.trans (hb9.mono HB8.out.size))
                      have hlen : (l.set (i + 1) x).length = l.length := List.length_set
                      have Hj9 : Hid (∀ y ∈ l.set (i + 1) x, jumpsM y = true → 0 ≤ y.n ∧ y.n ≤ 5000) := Lib.hid fun y hy hj => by
                        rcases List.mem_or_eq_of_mem_set hy with e | e
                        · exact Hj5.out y e hj
                        · rw [e]; omega
                      obtain ⟨A9, c9, rfl, hm9, hc9, hx9⟩ := hs9.cases_
                      have Hs9 := Lib.hid hx9
                      clear hx9 hb9 hjb
                      generalize hL9 : l.set (i + 1) x = L9 at *
                      clear hL9
                      rw [hlen] at Hs9 ⊢
                      go_wp2_with fail
                      refine gone_calls _ L9 i (by omega) (by omega) Hj9.out _ Hs9.out _ (fun wz vz hbz hsz => ?_)
                      have Hfin := Lib.hid (HTs.out wz vz (HB9.out.trans (hbz.mono HB9.out.size)) hsz)
                      obtain ⟨Az, cz, rfl, _, _, hxz⟩ := hsz.cases_
                      clear hxz hbz
                      generalize (goneL L9 i).length = N9 at *
                      go_wp2
                      exact Hfin.out
                    · have HFn := Lib.hid (HF.out (by rw [hbe, if_neg (by simp)]) _ HB7.out)
                      clear hbe HT HF
                      go_wp2
                      exact HFn.out
                  · have HFn := Lib.hid (HF2 (by rw [if_neg (fun e => h18 e.1.2)]) _ HB2.out)
                    clear HT2 HF2
                    go_wp2
                    exact HFn.out
                · have HFn := Lib.hid (HF2 (by rw [if_neg (fun e => h15 e.1.1)]) _ HB2.out)
                  clear HT2 HF2
                  go_wp2
                  exact HFn.out
            · have y7 : ¬ (o.op = 38 ∨ o.op = 39) ∨ ¬ o.a = m.dst := by have := H7.out; simpa using this
              have HFn := Lib.hid (HF.out (by rw [if_pos y7]) _ HB2.out)
              clear y7
              go_wp2
              exact HFn.out
        · have y5 : m.op = 2 ∧ o.op = 2 ∧ o.dst = m.a ∧ o.a = m.dst := by simpa using H5.out
          have HTg := Lib.hid (HT.out (goneL l (i + 1)) (by rw [if_pos y5]))
          clear y5
          go_wp2_with fail
          rw [show ((i : Int) + 1) = ((i + 1 : Nat) : Int) from by omega]
          refine gone_calls _ l (i + 1) hi1 hfew Hj5.out _ (Hs.out.up HB2.out HB2.out.size) _ (fun w9 v9 hb9 hs9 => ?_)
          have Hfin := Lib.hid (HTg.out w9 v9 (HB2.out.trans (hb9.mono HB2.out.size)) hs9)
          obtain ⟨A9, c9, rfl, _, _, hx9⟩ := hs9.cases_
          clear hx9 hb9
          generalize (goneL l (i + 1)).length = N9 at *
          go_wp2
          exact Hfin.out
    · have y3 : m.op = 36 ∧ o.op = 35 ∧ o.n = m.n := by simpa using H3.out
      have HTs := Lib.hid (HT.out (l.set (i + 1) ⟨2, o.dst, m.a, 0, 0⟩) (by rw [if_pos y3]))
      clear y3
      go_wp2_with fail
      rw [show ((i : Int) + 1) = ((i + 1 : Nat) : Int) from by omega]
      refine turned_calls _ l (i + 1) hi1 hfew ⟨2, o.dst, m.a, 0, 0⟩ _ (Hs.out.up HB2.out HB2.out.size) _ (fun w9 v9 hb9 hs9 => ?_)
      have Hfin := Lib.hid (HTs.out w9 v9 (HB2.out.trans (hb9.mono HB2.out.size)) hs9)
      obtain ⟨A9, c9, rfl, _, _, hx9⟩ := hs9.cases_
      have hlen : (l.set (i + 1) (⟨2, o.dst, m.a, 0, 0⟩ : Mac)).length = l.length := List.length_set
      rw [hlen] at Hfin ⊢
      clear hx9 hb9 hlen
      go_wp2
      exact Hfin.out
end Go.Proofs.YtemakpjickbmnaaDoor
