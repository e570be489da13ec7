/- The document's rules of an instruction alone. (printed by genpt4.py) -/
import Derived.Test.YtemakpjickbmnaaDoorBase
import Derived.Test.YtemakpjickbmnaaDoorRows
import Derived.IntWalk
import Derived.Outline
import Derived.Deep.LoopGhost
import Derived.Deep.RegionLaw
import Derived.Test.YtemakpjickbmnaaDoorPt1
import Derived.Test.YtemakpjickbmnaaDoorPt2
namespace Go.Proofs.YtemakpjickbmnaaDoor
open Go.RowKit
set_option linter.unusedSimpArgs false
set_option linter.unusedVariables false

theorem quiet_no36 {m : Mac} (h : quietM m = true) : (m.op == 36) = false := by
  have : m.op ≠ 36 := fun e => by
    unfold quietM at h
    rw [if_neg (by omega), if_neg (by omega), if_neg (by omega), decide_eq_false (show ¬ (5 ≤ m.op ∧ m.op ≤ 32) by omega)] at h
    simp at h
  simpa using this
/-- What a variable that holds an instruction says, in worlds that keep it. -/
theorem mac_var (w : World) (m : Mac) : ∀ W, Below (w.alloc (Obj.cells #[.int .i64 m.op, .int .i64 m.dst, .int .i64 m.a, .int .i64 m.b, .int .i64 m.n] 36)).heap.size (w.alloc (Obj.cells #[.int .i64 m.op, .int .i64 m.dst, .int .i64 m.a, .int .i64 m.b, .int .i64 m.n] 36)) W →
    w.heap.size < W.heap.size ∧ W.cell? ⟨w.heap.size, 0, none⟩ = some (.int .i64 m.op) ∧ W.cell? ⟨w.heap.size, 1, none⟩ = some (.int .i64 m.dst) ∧ W.cell? ⟨w.heap.size, 2, none⟩ = some (.int .i64 m.a) ∧ W.cell? ⟨w.heap.size, 3, none⟩ = some (.int .i64 m.b) ∧ W.cell? ⟨w.heap.size, 4, none⟩ = some (.int .i64 m.n) ∧ W.frozen? ⟨w.heap.size, 4, none⟩ = false := fun W hW => by
  have hb := (hW.block w.heap.size (by simp)).trans (heap_alloc_new w _)
  refine ⟨blk_lt hb, ?_, ?_, ?_, ?_, ?_, ?_⟩ <;> simp [World.cell?, World.frozen?, hb]
set_option maxRecDepth 100000 in
set_option maxHeartbeats 4000000 in
theorem alone_calls (v : Value) (l : List Mac) (hok : MacsOk l) (i : Nat) (hi : i < l.length) (w : World) (h : rpMac.SL w w.heap.size l v) (R : Ending → World → Prop)
    (hT : ∀ l', aloneR l i = some l' → ∀ w' v', Below w.heap.size w w' → rpMac.SL w' w'.heap.size l' v' → R (.returned (.tuple #[v', .bool true])) w')
    (hF : aloneR l i = none → ∀ w', Below w.heap.size w w' → R (.returned (.tuple #[v, .bool false])) w') :
    Calls Tryd.prog 63 #[v, .int .i64 (i : Int), .bool (reachB l i)] w R := by
  have hfew := hok.few
  have hm := hok.at_ hi
  have Hj5 := Lib.hid hok.jumps5000
  have Hok := Lib.hid hok
  obtain ⟨A, c, rfl, hmx, hcap, hs⟩ := h.cases_
  have Hs := Lib.hid hs
  have i0 : (0 : Int) ≤ (i : Int) := by omega
  have i1 : (i : Int) < (l.length : Int) := by omega
  obtain ⟨b6, o6, eA, hheld⟩ := mac_held hs hi
  subst eA
  obtain ⟨lb, c0, c1, c2', c3, c4⟩ := hheld _ (Below.refl _ _)
  rw [alone_eq hok hi] at hT hF
  have hled := fun (hj : jumpsM (atL l i) = true) (e : 0 ≤ ledI l (atL l i).n) => (hm.jump (jumps_op.1 hj).1 (jumps_op.1 hj).2)
  have hjn := fun hj : jumpsM (atL l i) = true => hm.jump (jumps_op.1 hj).1 (jumps_op.1 hj).2
  generalize atL l i = m at *
  have HM := Lib.hid (mac_var w m)
  have HbA := Lib.hid (show Below w.heap.size w (w.alloc (Obj.cells #[.int .i64 m.op, .int .i64 m.dst, .int .i64 m.a, .int .i64 m.b, .int .i64 m.n] 36)) by exact bl0)
  clear hs h hheld hok hled
  cases hr : reachB l i
  · have HTg := Lib.hid (hT (goneL l i) (by rw [hr, if_pos rfl]))
    clear hT hF hr
    go_enter Tryd.func63, Tryd.ntmps63
    go_wp2_with fail
    refine gone_calls _ l i hi hfew Hj5.out _ (Hs.out.up HbA.out HbA.out.size) _ (fun w9 v9 hb9 hs9 => ?_)
    have Hfin := Lib.hid (HTg.out w9 v9 (HbA.out.trans (hb9.mono HbA.out.size)) hs9)
    obtain ⟨A9, c9, rfl, _, _, hx9⟩ := hs9.cases_
    clear hx9 hb9
    generalize (goneL l i).length = N9 at *
    go_wp2
    exact Hfin.out
  rw [hr] at hT hF
  simp only [Bool.true_eq_false, if_false] at hT hF
  clear hr
  by_cases h2 : m.op = 2
  · have j2 : (m.op == 2) = true := by simpa using h2
    by_cases hda : m.dst = m.a
    · have jd : (m.dst == m.a) = true := by simpa using hda
      have HTg := Lib.hid (hT (goneL l i) (by rw [if_pos ⟨h2, hda⟩]))
      clear hT hF h2 hda
      go_enter Tryd.func63, Tryd.ntmps63
      go_wp2_with fail
      refine gone_calls _ l i hi hfew Hj5.out _ (Hs.out.up HbA.out HbA.out.size) _ (fun w9 v9 hb9 hs9 => ?_)
      have Hfin := Lib.hid (HTg.out w9 v9 (HbA.out.trans (hb9.mono HbA.out.size)) hs9)
      obtain ⟨A9, c9, rfl, _, _, hx9⟩ := hs9.cases_
      clear hx9 hb9
      generalize (goneL l i).length = N9 at *
      go_wp2
      exact Hfin.out
    · have jd : (m.dst == m.a) = false := by simpa using hda
      have hj : jumpsM m = false := by unfold jumpsM; rw [h2]; rfl
      have hq : quietM m = true := by unfold quietM; rw [if_pos (by omega)]
      have j36 := quiet_no36 hq
      rw [if_neg (fun e => hda e.2), hj, hq] at hT hF
      simp only [Bool.false_eq_true, if_false, true_and] at hT hF
      have Hj := Lib.hid hj
      have Hq := Lib.hid hq
      clear h2 hda hj hq
      obtain ⟨d, hd⟩ : ∃ d : Nat, m.dst = (d : Int) := ⟨m.dst.toNat, by have := hm.dst0; omega⟩
      have hd16 : d < 16 := by have := hm.dst1; omega
      rw [hd, Int.toNat_natCast] at hT hF
      have Hd := Lib.hid hd
      clear hd
      go_enter Tryd.func63, Tryd.ntmps63
      go_wp2_with fail
      refine jumping_calls m _ _ (fun w5 hb5 => ?_)
      rw [Hj.out]
      have Hb5 := Lib.hid hb5
      obtain ⟨lm, p0, p1, p2, p3, p4, pf⟩ := HM.out w5 Hb5.out
      clear hb5
      go_wp2_with fail
      refine jumping_calls m _ _ (fun w6 hb6 => ?_)
      rw [Hj.out]
      have Hb6 := Lib.hid (Hb5.out.trans (hb6.mono Hb5.out.size))
      clear hb6 lm p0 p1 p2 p3 p4 pf
      obtain ⟨lm, p0, p1, p2, p3, p4, pf⟩ := HM.out w6 Hb6.out
      go_wp2_with fail
      refine Quiet_calls m _ hm _ _ (fun w7 hb7 => ?_)
      have Hb7 := Lib.hid (Hb6.out.trans (hb7.mono Hb6.out.size))
      have HB7 := Lib.hid (HbA.out.trans (Hb7.out.mono (by simp)))
      clear hb7 lm p0 p1 p2 p3 p4 pf
      obtain ⟨lm, p0, p1, p2, p3, p4, pf⟩ := HM.out w7 Hb7.out
      rw [Hq.out]
      rw [Hd.out] at p1
      go_wp2_with fail
      refine rbehind_calls _ l Hok.out i hi d hd16 _ (Hs.out.up HB7.out HB7.out.size) _ (fun w8 hb8 => ?_)
      have Hb8 := Lib.hid (Hb7.out.trans (hb8.mono Hb7.out.size))
      have HB8 := Lib.hid (HbA.out.trans (Hb8.out.mono (by simp)))
      clear hb8 lm p0 p1 p2 p3 p4 pf
      obtain ⟨lm, p0, p1, p2, p3, p4, pf⟩ := HM.out w8 Hb8.out
      cases hbe : behB l i d
      · have HTg := Lib.hid (hT (goneL l i) (by rw [hbe]; simp))
        clear hT hF hbe
        go_wp2_with fail
        refine gone_calls _ l i hi hfew Hj5.out _ (Hs.out.up HB8.out HB8.out.size) _ (fun w9 v9 hb9 hs9 => ?_)
        have Hfin := Lib.hid (HTg.out w9 v9 (HB8.out.trans (hb9.mono HB8.out.size)) hs9)
        obtain ⟨A9, c9, rfl, _, _, hx9⟩ := hs9.cases_
        clear hx9 hb9
        generalize (goneL l i).length = N9 at *
        go_wp2
        exact Hfin.out
      · have HFn := Lib.hid (hF (by rw [hbe]; first | (simp; done) | (simp; intro e; simp [e] at j36)))
        clear hT hF hbe
        have Hfin := Lib.hid (HFn.out _ HB8.out)
        go_wp2
        exact Hfin.out
  · have j2 : (m.op == 2) = false := by simpa using h2
    rw [if_neg (fun e => h2 e.1)] at hT hF
    clear h2
    cases hj : jumpsM m
    · rw [hj] at hT hF
      simp only [Bool.false_eq_true, if_false] at hT hF
      have Hj := Lib.hid hj
      clear hj hjn
      go_enter Tryd.func63, Tryd.ntmps63
      go_wp2_with fail
      refine jumping_calls m _ _ (fun w5 hb5 => ?_)
      rw [Hj.out]
      have Hb5 := Lib.hid hb5
      obtain ⟨lm, p0, p1, p2, p3, p4, pf⟩ := HM.out w5 Hb5.out
      clear hb5
      go_wp2_with fail
      refine jumping_calls m _ _ (fun w6 hb6 => ?_)
      rw [Hj.out]
      have Hb6 := Lib.hid (Hb5.out.trans (hb6.mono Hb5.out.size))
      clear hb6 lm p0 p1 p2 p3 p4 pf
      obtain ⟨lm, p0, p1, p2, p3, p4, pf⟩ := HM.out w6 Hb6.out
      go_wp2_with fail
      refine Quiet_calls m _ hm _ _ (fun w7 hb7 => ?_)
      have Hb7 := Lib.hid (Hb6.out.trans (hb7.mono Hb6.out.size))
      have HB7 := Lib.hid (HbA.out.trans (Hb7.out.mono (by simp)))
      clear hb7 lm p0 p1 p2 p3 p4 pf
      obtain ⟨lm, p0, p1, p2, p3, p4, pf⟩ := HM.out w7 Hb7.out
      cases hq : quietM m
      · rw [hq] at hT hF
        simp only [Bool.false_eq_true, false_and, if_false] at hT hF
        clear hq
        by_cases h36 : m.op = 36
        · have j36 : (m.op == 36) = true := by simpa using h36
          simp only [h36, true_and] at hT hF
          clear h36
          have HT := Lib.hid hT
          have HF := Lib.hid hF
          clear hT hF
          go_wp2
          go_loopg [10, 11] l.length (fun gh s10 s11 wx => ∃ k : Nat, k ≤ l.length ∧ gh = l.length - k ∧ s10 = .bool ((l.take k).any (fun o => decide (o.op = 35) && decide (o.n = m.n))) ∧ s11 = .int .i64 (k : Int) ∧ Hid (Below w7.heap.size w7 wx))
          case atStart => exact ⟨0, Nat.zero_le _, rfl, rfl, rfl, Lib.hid (Below.refl _ _)⟩
          case round =>
            obtain ⟨k, hk, rfl, rfl, rfl, Hb8⟩ := hrel
            have Hb8m := Lib.hid (Hb7.out.trans (Hb8.out.mono Hb7.out.size))
            have HB8 := Lib.hid (HbA.out.trans (Hb8m.out.mono (by simp)))
            clear lm p0 p1 p2 p3 p4 pf lb c0 c1 c2' c3 c4
            obtain ⟨lm, p0, p1, p2, p3, p4, pf⟩ := HM.out wr Hb8m.out
            by_cases hkr : k < l.length
            · obtain ⟨b8, o8, eA, hheld⟩ := mac_held Hs.out hkr
              injection eA with eA
              injection eA with e1 e2
              subst e1 e2
              obtain ⟨lb, c0, c1, c2', c3, c4⟩ := hheld wr HB8.out
              have hst := anyM_take_snoc (p := fun o => decide (o.op = 35) && decide (o.n = m.n)) hkr
              have k0 : (0 : Int) ≤ (k : Int) := by omega
              have k1 : (k : Int) < (l.length : Int) := by omega
              generalize atL l k = x at *
              have Hst := Lib.hid hst
              clear hst hheld
              cases hb : (l.take k).any (fun o => decide (o.op = 35) && decide (o.n = m.n))
              · by_cases h35 : x.op = 35
                · have j35 : (x.op == 35) = true := by simpa using h35
                  by_cases hn : x.n = m.n
                  · have jn : (x.n == m.n) = true := by simpa using hn
                    have H2 := Lib.hid (show (l.take (k + 1)).any (fun o => decide (o.op = 35) && decide (o.n = m.n)) = true by rw [Hst.out, hb, h35, hn]; simp)
                    clear hb Hst h35 hn
                    go_wp2_with fail
                    go_quiet (fail)
                    go_wp2
                    go_roundg (l.length - (k + 1))
                    case measure => omega
                    case rel => exact ⟨k + 1, by omega, rfl, by rw [H2.out], by go_num, Lib.hid (below_drewN Hb8.out _)⟩
                  · have jn : (x.n == m.n) = false := by simpa using hn
                    have H2 := Lib.hid (show (l.take (k + 1)).any (fun o => decide (o.op = 35) && decide (o.n = m.n)) = false by rw [Hst.out, hb, decide_eq_false hn]; simp)
                    clear hb Hst h35 hn
                    go_wp2_with fail
                    go_quiet (fail)
                    go_wp2
                    go_roundg (l.length - (k + 1))
                    case measure => omega
                    case rel => exact ⟨k + 1, by omega, rfl, by rw [H2.out], by go_num, Lib.hid (below_drewN Hb8.out _)⟩
                · have j35 : (x.op == 35) = false := by simpa using h35
                  have H2 := Lib.hid (show (l.take (k + 1)).any (fun o => decide (o.op = 35) && decide (o.n = m.n)) = false by rw [Hst.out, hb, decide_eq_false h35]; rfl)
                  clear hb Hst h35
                  go_wp2_with fail
                  go_quiet (fail)
                  go_wp2
                  go_roundg (l.length - (k + 1))
                  case measure => omega
                  case rel => exact ⟨k + 1, by omega, rfl, by rw [H2.out], by go_num, Lib.hid (below_drewN Hb8.out _)⟩
              · have H2 := Lib.hid (show (l.take (k + 1)).any (fun o => decide (o.op = 35) && decide (o.n = m.n)) = true by rw [Hst.out, hb]; rfl)
                clear hb Hst
                go_wp2_with fail
                go_quiet (fail)
                go_wp2
                go_roundg (l.length - (k + 1))
                case measure => omega
                case rel => exact ⟨k + 1, by omega, rfl, by rw [H2.out], by go_num, Lib.hid (below_drewN Hb8.out _)⟩
            · obtain rfl : k = l.length := by omega
              have e : (l.take l.length).any (fun o => decide (o.op = 35) && decide (o.n = m.n)) = getB l m.n := by rw [List.take_length]; rfl
              rw [e]
              clear e
              cases hg : getB l m.n
              · have HTg := Lib.hid (HT.out (goneL l i) (by rw [hg]; simp))
                clear hg
                go_wp2_with fail
                refine gone_calls _ l i hi hfew Hj5.out _ (Hs.out.up HB8.out HB8.out.size) _ (fun w9 v9 hb9 hs9 => ?_)
                have Hfin := Lib.hid (HTg.out w9 v9 (HB8.out.trans (hb9.mono HB8.out.size)) hs9)
                obtain ⟨A9, c9, rfl, _, _, hx9⟩ := hs9.cases_
                clear hx9 hb9
                generalize (goneL l i).length = N9 at *
                go_wp2
                exact Hfin.out
              · have HFn := Lib.hid (HF.out (by rw [hg]; simp))
                clear hg
                have Hfin := Lib.hid (HFn.out _ HB8.out)
                go_wp2
                exact Hfin.out
        · have j36 : (m.op == 36) = false := by simpa using h36
          have HFn := Lib.hid (hF (by rw [if_neg (fun e => h36 e.1)]))
          clear hT hF h36
          have Hfin := Lib.hid (HFn.out _ HB7.out)
          go_wp2
          exact Hfin.out
      · rw [hq] at hT hF
        have j36 := quiet_no36 hq
        simp only [true_and] at hT hF
        clear hq
        obtain ⟨d, hd⟩ : ∃ d : Nat, m.dst = (d : Int) := ⟨m.dst.toNat, by have := hm.dst0; omega⟩
        have hd16 : d < 16 := by have := hm.dst1; omega
        rw [hd, Int.toNat_natCast] at hT hF
        rw [hd] at p1
        have h36 : ¬ m.op = 36 := by simpa using j36
        simp only [h36, false_and, if_false] at hT hF
        clear hd h36
        go_wp2_with fail
        refine rbehind_calls _ l Hok.out i hi d hd16 _ (Hs.out.up HB7.out HB7.out.size) _ (fun w8 hb8 => ?_)
        have Hb8 := Lib.hid (Hb7.out.trans (hb8.mono Hb7.out.size))
        have HB8 := Lib.hid (HbA.out.trans (Hb8.out.mono (by simp)))
        clear hb8 lm p0 p1 p2 p3 p4 pf
        obtain ⟨lm, p0, p1, p2, p3, p4, pf⟩ := HM.out w8 Hb8.out
        cases hbe : behB l i d
        · have HTg := Lib.hid (hT (goneL l i) (by rw [hbe]; simp))
          clear hT hF hbe
          go_wp2_with fail
          refine gone_calls _ l i hi hfew Hj5.out _ (Hs.out.up HB8.out HB8.out.size) _ (fun w9 v9 hb9 hs9 => ?_)
          have Hfin := Lib.hid (HTg.out w9 v9 (HB8.out.trans (hb9.mono HB8.out.size)) hs9)
          obtain ⟨A9, c9, rfl, _, _, hx9⟩ := hs9.cases_
          clear hx9 hb9
          generalize (goneL l i).length = N9 at *
          go_wp2
          exact Hfin.out
        · have HFn := Lib.hid (hF (by rw [hbe]; first | (simp; done) | (simp; intro e; simp [e] at j36)))
          clear hT hF hbe
          have Hfin := Lib.hid (HFn.out _ HB8.out)
          go_wp2
          exact Hfin.out
    · rw [hj] at hT hF
      have hq := jump_quiet hj
      have hjn' := hjn hj
      have j36 : (m.op == 36) = false := by have := jumps_op.1 hj; simp; omega
      simp only [if_true] at hT hF
      have Hj := Lib.hid hj
      have Hq := Lib.hid hq
      clear hj hq hjn
      go_enter Tryd.func63, Tryd.ntmps63
      go_wp2_with fail
      refine jumping_calls m _ _ (fun w5 hb5 => ?_)
      rw [Hj.out]
      have Hb5 := Lib.hid hb5
      have HB5 := Lib.hid (HbA.out.trans (hb5.mono (by simp)))
      obtain ⟨lm, p0, p1, p2, p3, p4, pf⟩ := HM.out w5 Hb5.out
      clear hb5
      by_cases hn : m.n = (i : Int) + 1
      · have jn : (m.n == (i : Int) + 1) = true := by simpa using hn
        have HTg := Lib.hid (hT (goneL l i) (by rw [if_pos hn]))
        clear hT hF hn
        go_wp2_with fail
        refine gone_calls _ l i hi hfew Hj5.out _ (Hs.out.up HB5.out HB5.out.size) _ (fun w9 v9 hb9 hs9 => ?_)
        have Hfin := Lib.hid (HTg.out w9 v9 (HB5.out.trans (hb9.mono HB5.out.size)) hs9)
        obtain ⟨A9, c9, rfl, _, _, hx9⟩ := hs9.cases_
        clear hx9 hb9
        generalize (goneL l i).length = N9 at *
        go_wp2
        exact Hfin.out
      · have jn : (m.n == (i : Int) + 1) = false := by simpa using hn
        simp only [hn, if_false] at hT hF
        clear hn
        go_wp2_with fail
        refine jumping_calls m _ _ (fun w6 hb6 => ?_)
        rw [Hj.out]
        have Hb6 := Lib.hid (Hb5.out.trans (hb6.mono Hb5.out.size))
        have HB6 := Lib.hid (HbA.out.trans (Hb6.out.mono (by simp)))
        clear hb6 lm p0 p1 p2 p3 p4 pf
        obtain ⟨lm, p0, p1, p2, p3, p4, pf⟩ := HM.out w6 Hb6.out
        go_wp2_with fail
        refine led_calls _ l Hok.out m.n hjn'.1 hjn'.2 _ (Hs.out.up HB6.out HB6.out.size) _ ?_
        generalize ledI l m.n = t at *
        by_cases ht : 0 ≤ t
        · by_cases hne : t = m.n
          · have jne : (t != m.n) = false := by simp [hne]
            have HFn := Lib.hid (hF (by rw [if_neg (fun e => e.2 hne)]))
            clear hT hF hne
            go_wp2_with fail
            refine Quiet_calls m _ hm _ _ (fun w7 hb7 => ?_)
            have Hb7 := Lib.hid (Hb6.out.trans (hb7.mono Hb6.out.size))
            have HB7 := Lib.hid (HbA.out.trans (Hb7.out.mono (by simp)))
            clear hb7 lm p0 p1 p2 p3 p4 pf
            obtain ⟨lm, p0, p1, p2, p3, p4, pf⟩ := HM.out w7 Hb7.out
            rw [Hq.out]
            have Hfin := Lib.hid (HFn.out _ HB7.out)
            go_wp2
            exact Hfin.out
          · have jne : (t != m.n) = true := by simp [hne]
            have HTs := Lib.hid (hT (l.set i (withN m t)) (by rw [if_pos ⟨ht, hne⟩]))
            clear hT hF hne
            go_wp2_with fail
            have HBs := Lib.hid (HB6.out.setCell (p := ⟨w.heap.size, 4, none⟩) (Nat.le_refl _) (.int .i64 t))
            refine turned_calls _ l i hi hfew ⟨m.op, m.dst, m.a, m.b, t⟩ _ (Hs.out.up HBs.out HBs.out.size) _ (fun w9 v9 hb9 hs9 => ?_)
            have Hfin := Lib.hid (HTs.out w9 v9 (HBs.out.trans (hb9.mono HBs.out.size)) hs9)
            obtain ⟨A9, c9, rfl, _, _, hx9⟩ := hs9.cases_
            have hlen : (l.set i (⟨m.op, m.dst, m.a, m.b, t⟩ : Mac)).length = l.length := List.length_set
            rw [hlen] at Hfin ⊢
            clear hx9 hb9 hlen
            go_wp2
            exact Hfin.out
        · have HFn := Lib.hid (hF (by rw [if_neg (fun e => ht e.1)]))
          clear hT hF
          go_wp2_with fail
          refine Quiet_calls m _ hm _ _ (fun w7 hb7 => ?_)
          have Hb7 := Lib.hid (Hb6.out.trans (hb7.mono Hb6.out.size))
          have HB7 := Lib.hid (HbA.out.trans (Hb7.out.mono (by simp)))
          clear hb7 lm p0 p1 p2 p3 p4 pf
          obtain ⟨lm, p0, p1, p2, p3, p4, pf⟩ := HM.out w7 Hb7.out
          rw [Hq.out]
          have Hfin := Lib.hid (HFn.out _ HB7.out)
          go_wp2
          exact Hfin.out
end Go.Proofs.YtemakpjickbmnaaDoor
