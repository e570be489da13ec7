/- object.section: what is wrong with a section, but its name. The document's answer: what is wrong with a section, but its name. -/
import Derived.Test.YtegnemfjcmhncaaDoorBase
import Derived.Test.YtegnemfjcmhncaaDoorRows
import Derived.IntWalk
import Derived.Deep.LoopGhost
import Derived.Deep.CutBlock
import Derived.Deep.DeepCutAuto
import Derived.Test.YtegnemfjcmhncaaDoorGlobA
import Derived.Test.YtegnemfjcmhncaaDoorRefB
/- object.section: what is wrong with a section, but its name. -/
namespace Go.Proofs.YtegnemfjcmhncaaDoor
open Go.RowKit
set_option linter.unusedSimpArgs false
set_option linter.unusedVariables false

def calls44 (l : List Mac) : Nat := (l.filter fun m => m.op == 44).length
theorem calls44_step {l : List Mac} {k : Nat} {m : Mac} (h : l[k]? = some m) : calls44 (l.take (k + 1)) = calls44 (l.take k) + if m.op = 44 then 1 else 0 := by
  obtain ⟨hk, e⟩ := List.getElem?_eq_some_iff.1 h
  unfold calls44
  rw [List.take_succ_eq_append_getElem hk, List.filter_append, List.length_append, e]
  congr 1
  by_cases h44 : m.op = 44 <;> simp [h44]
theorem calls44_le (l : List Mac) (k : Nat) : calls44 (l.take k) ≤ k := by
  have h1 := List.length_filter_le (fun m : Mac => m.op == 44) (l.take k)
  have h2 : (l.take k).length ≤ k := List.length_take_le _ _
  unfold calls44
  omega
theorem mendsFrom_step {l : List Mac} {ms : List Mend} {k : Nat} {m : Mend} (h : ms[k]? = some m) : mendsFrom l ms (ms.length - k) k =
    if m.at_ < 0 ∨ (l.length : Int) ≤ m.at_ then 3
    else if (l.getD m.at_.toNat ⟨0, 0, 0, 0, 0⟩).op ≠ 44 then 4
    else if (l.getD m.at_.toNat ⟨0, 0, 0, 0, 0⟩).n ≠ 0 ∨ (0 < k ∧ m.at_ ≤ (ms.getD (k - 1) ⟨0, ByteArray.empty⟩).at_) then 5
    else if goodName m.name = false then 12
    else mendsFrom l ms (ms.length - (k + 1)) (k + 1) := by
  have hk := (List.getElem?_eq_some_iff.1 h).1
  rw [show ms.length - k = (ms.length - (k + 1)) + 1 from by omega, mendsFrom, h]
theorem mendsFrom_end (l : List Mac) (ms : List Mend) : mendsFrom l ms (ms.length - ms.length) ms.length = if calls44 l = ms.length then 0 else 9 := by
  rw [Nat.sub_self, mendsFrom]
  rfl
theorem mac_getD {l : List Mac} {k : Nat} {m : Mac} (h : l[k]? = some m) : l.getD k ⟨0, 0, 0, 0, 0⟩ = m := by
  rw [List.getD_eq_getElem?_getD, h]
  rfl

set_option maxRecDepth 100000 in
set_option maxHeartbeats 4000000 in
theorem section_calls (s : Section) (v1 v2 : Value) (w : World) (h1 : rpByte.SL w w.heap.size s.code v1) (h2 : rpMend.SL w w.heap.size s.mends v2) (hS : Shapes w) (R : Ending → World → Prop)
    (hR : ∀ w', Below w.heap.size w w' → R (.returned (.int .i64 (secF s))) w') :
    Calls Tryd.prog 138 #[.agg #[.string s.name, v1, v2]] w R := by
  have h0 := hS.1
  have HS := Lib.hid hS
  have HR := Lib.hid hR
  have H1 := Lib.hid h1
  have H2 := Lib.hid h2
  clear hS hR h1 h2
  go_enter Tryd.func138, Tryd.ntmps138
  go_wp2_with fail
  have hb0 : Below w.heap.size w (w.alloc (Obj.cells #[.string s.name, v1, v2] 58)) := (Below.refl _ _).alloc (Nat.le_refl _) _
  refine Read_calls v1 s.code _ (by simpa using H1.out.up (B' := w.heap.size + 1) hb0 (by omega)) (HS.out.up (hb0) h0) _ (fun l hl w1 u hb1 hul => ?_) (fun hl w1 c a hc hb1 => ?_)
  · have hs : secF s = mendsFrom l s.mends s.mends.length 0 := by rw [secF, hl]
    have Hsf := Lib.hid hs
    have hz1 : w.heap.size < w1.heap.size := by have := hb1.size; simp at this; omega
    have b0 : w1.cell? ⟨w.heap.size, 0, none⟩ = some (.string s.name) := by rw [hb1.cell (by simp)]; simp
    have b1 : w1.cell? ⟨w.heap.size, 1, none⟩ = some v1 := by rw [hb1.cell (by simp)]; simp
    have b2 : w1.cell? ⟨w.heap.size, 2, none⟩ = some v2 := by rw [hb1.cell (by simp)]; simp
    have hbw : Below w.heap.size w w1 := hb0.trans (hb1.mono (by simp))
    have hm1 : rpMend.SL w1 w1.heap.size s.mends v2 := H2.out.up hbw hbw.size
    obtain ⟨A, n, rfl, hm, hcap, hul⟩ := hul.cases_
    obtain ⟨A2, n2, rfl, hm2, hcap2, hm1⟩ := hm1.cases_
    have Hl := Lib.hid hul
    have Hm := Lib.hid hm1
    have Hbw := Lib.hid hbw
    have hq : ∀ w, (binOp .neq 36 (.agg #[.int .i64 0, .int .i64 0]) (.agg #[.int .i64 0, .int .i64 0])).run Tryd.prog w = .ok (.bool false) w := fun w => neq_Fault 0 0 0 0 w
    clear hl hs hb0 hb1 hbw hul hm1
    go_upto_block 0 with fail
    go_cut [5] (fun s5 wx => s5 = .int .i64 (calls44 l : Int) ∧ Below w1.heap.size w1 wx)
    case first =>
      go_wp2_with fail
      go_loopg [5, 7, 21] l.length (fun g s5 s7 i wr => ∃ k : Nat, k ≤ l.length ∧ g = l.length - k ∧ i = .int .i64 k ∧ s5 = .int .i64 (calls44 (l.take k) : Int) ∧ Below w1.heap.size w1 wr)
      case atStart => exact ⟨0, Nat.zero_le _, rfl, rfl, rfl, bl0⟩
      case round =>
        obtain ⟨k, hk, rfl, rfl, rfl, hbel⟩ := hrel
        have hcl := calls44_le l k
        have hz := hbel.size
        have i1 : (0 : Int) ≤ (k : Int) := Int.natCast_nonneg _
        by_cases hlt : k < l.length
        · obtain ⟨b, off, m, rfl, hb, e, q0, q1, q2, q3, q4⟩ := Hl.out.mac_at hlt
          have p0 := (hbel.cell (p := ⟨b, off + k * 5, none⟩) hb).trans q0
          have p1 := (hbel.cell (p := ⟨b, off + k * 5 + 1, none⟩) hb).trans q1
          have p2 := (hbel.cell (p := ⟨b, off + k * 5 + 2, none⟩) hb).trans q2
          have p3 := (hbel.cell (p := ⟨b, off + k * 5 + 3, none⟩) hb).trans q3
          have p4 := (hbel.cell (p := ⟨b, off + k * 5 + 4, none⟩) hb).trans q4
          have Hst := Lib.hid (calls44_step e)
          have Hb := Lib.hid hbel
          have i2 : (k : Int) < (l.length : Int) := by omega
          have hb' : b < wr.heap.size := by omega
          generalize calls44 (l.take k) = cc at *
          have c0 : (0 : Int) ≤ (cc : Int) := Int.natCast_nonneg _
          have c1 : (cc : Int) + 1 ≤ 9223372036854775807 := by omega
          clear q0 q1 q2 q3 q4 e hbel
          by_cases h44 : m.op = 44
          · have hst := Lib.hid (Hst.out.trans (by rw [if_pos h44]))
            have hbo : (m.op == 44) = true := by simp [h44]
            have Hh := Lib.hid h44
            clear h44 Hst
            go_wp2
            go_roundg (l.length - (k + 1))
            case measure => omega
            case rel => exact ⟨k + 1, hlt, rfl, by go_num, by rw [hst.out]; go_num, Hb.out.alloc (by omega) _⟩
          · have hst := Lib.hid (Hst.out.trans (by rw [if_neg h44]))
            have hbo : (m.op == 44) = false := by simp [h44]
            clear h44 Hst
            go_wp2
            go_roundg (l.length - (k + 1))
            case measure => omega
            case rel => exact ⟨k + 1, hlt, rfl, by go_num, by rw [hst.out]; rfl, Hb.out.alloc (by omega) _⟩
        · obtain rfl : k = l.length := by omega
          have Hb := Lib.hid hbel
          clear hbel hcl
          rw [List.take_length]
          go_wp2
          go_meet
          exact ⟨rfl, Hb.out⟩
    case rest =>
      obtain ⟨rfl, hbel⟩ := hcut
      have c0 := calls44_le l l.length
      rw [List.take_length] at c0
      have hzc := hbel.size
      have b0' : wc.cell? ⟨w.heap.size, 0, none⟩ = some (.string s.name) := by rw [hbel.cell hz1]; exact b0
      have b1' : wc.cell? ⟨w.heap.size, 1, none⟩ = some v1 := by rw [hbel.cell hz1]; exact b1
      have b2' : wc.cell? ⟨w.heap.size, 2, none⟩ = some (.slice A2 s.mends.length n2) := by rw [hbel.cell hz1]; exact b2
      have Hbc := Lib.hid hbel
      generalize hcalls : calls44 l = cc at *
      have Hcalls := Lib.hid hcalls
      clear hbel hcalls
      go_wp2
      go_loopg [8, 9, 34, 39, 47, 55, 79] s.mends.length (fun g s8 s9 i s39 s47 s55 s79 wr => ∃ k : Nat, k ≤ s.mends.length ∧ g = s.mends.length - k ∧ i = .int .i64 k ∧ mendsFrom l s.mends (s.mends.length - k) k = secF s ∧ Below w1.heap.size w1 wr)
      case atStart => exact ⟨0, Nat.zero_le _, rfl, rfl, Hsf.out.symm, Hbc.out⟩
      case round =>
        obtain ⟨k, hk, rfl, rfl, ht, hbel⟩ := hrel
        have hz := hbel.size
        have i1 : (0 : Int) ≤ (k : Int) := Int.natCast_nonneg _
        have d2 : wr.cell? ⟨w.heap.size, 2, none⟩ = some (.slice A2 s.mends.length n2) := by rw [hbel.cell hz1]; exact b2
        have hzw : w.heap.size < wr.heap.size := by omega
        have Ht := Lib.hid ht
        have Hb := Lib.hid hbel
        clear ht
        by_cases hlt : k < s.mends.length
        · obtain ⟨b, off, m, rfl, hb, e, q0, q1⟩ := Hm.out.mend_at hlt
          have p0 := (hbel.cell (p := ⟨b, off + k * 2, none⟩) hb).trans q0
          have p1 := (hbel.cell (p := ⟨b, off + k * 2 + 1, none⟩) hb).trans q1
          have i2 : (k : Int) < (s.mends.length : Int) := by omega
          have hb' : b < wr.heap.size := by omega
          have Hst := Lib.hid (mendsFrom_step (l := l) e)
          have HT : Hid (∀ f : Int, mendsFrom l s.mends (s.mends.length - k) k = f → ∀ w', Below w.heap.size w w' → R (.returned (.int .i64 f)) w') := Lib.hid fun f e => by
            subst e
            rw [Ht.out]
            exact HR.out
          have HB : Hid (∀ w', Below w1.heap.size w1 w' → Below w.heap.size w w') := Lib.hid fun w' h => Hbw.out.trans (h.mono (by omega))
          by_cases hw : m.at_ < 0 ∨ (l.length : Int) ≤ m.at_
          · have hret := Lib.hid (HT.out 3 (by rw [Hst.out, if_pos hw]))
            have hd : Hid (decide (0 ≤ m.at_ ∧ m.at_ ≤ (l.length : Int) - 1) = false) := Lib.hid (decide_eq_false (by omega))
            clear hw q0 q1 e hbel
            go_wp2_with fail
            refine Within_calls _ _ _ _ _ ?_
            rw [hd.out]
            go_wp2
            exact hret.out _ (HB.out _ (Hb.out.alloc (by omega) _))
          have hA := Lib.hid (Hst.out.trans (if_neg hw))
          obtain ⟨j, hj⟩ : ∃ j : Nat, m.at_ = (j : Int) := ⟨m.at_.toNat, by omega⟩
          have hjl : j < l.length := by omega
          obtain ⟨b3, off3, mc, rfl, hb3, e3, r0, r1, r2, r3, r4⟩ := Hl.out.mac_at hjl
          have t0 := (hbel.cell (p := ⟨b3, off3 + j * 5, none⟩) hb3).trans r0
          have t4 := (hbel.cell (p := ⟨b3, off3 + j * 5 + 4, none⟩) hb3).trans r4
          have hb3' : b3 < wr.heap.size := by omega
          have hd : Hid (decide (0 ≤ m.at_ ∧ m.at_ ≤ (l.length : Int) - 1) = true) := Lib.hid (decide_eq_true (by omega))
          rw [show m.at_.toNat = j from by omega, mac_getD e3] at hA
          have hprev : 0 < k → ∃ pm : Mend, s.mends[k - 1]? = some pm ∧ wr.cell? ⟨b, off + (k - 1) * 2, none⟩ = some (.int .i64 pm.at_) := fun hk0 => by
            obtain ⟨b4, off4, pm, hA4, hb4, e4, q4, _⟩ := Hm.out.mend_at (k := k - 1) (by omega)
            simp only [Option.some.injEq, Addr.mk.injEq, and_true] at hA4
            obtain ⟨rfl, rfl⟩ := hA4
            exact ⟨pm, e4, (hbel.cell (p := ⟨b, off + (k - 1) * 2, none⟩) hb4).trans q4⟩
          have Hprev := Lib.hid hprev
          rw [hj] at hA hd p0
          have j0 : (0 : Int) ≤ (j : Int) := Int.natCast_nonneg _
          have j1 : (j : Int) < (l.length : Int) := by omega
          obtain ⟨mn, hmn⟩ : ∃ mn, mn = m.name := ⟨_, rfl⟩
          rw [← hmn] at p1 hA
          clear hprev q0 q1 e hbel Hst hw hj hmn r0 r1 r2 r3 r4 e3 hjl
          by_cases hop : mc.op = 44
          rotate_left
          · have hret := Lib.hid (HT.out 4 (hA.out.trans (if_pos hop)))
            have ho : (mc.op != 44) = true := by simp [hop]
            clear hop
            go_wp2_with fail
            refine Within_calls _ _ _ _ _ ?_
            rw [hd.out]
            go_wp2
            exact hret.out _ (HB.out _ (Hb.out.alloc (by omega) _))
          have ho : (mc.op != 44) = false := by simp [hop]
          have hB := Lib.hid (hA.out.trans (if_neg (by simp [hop])))
          have Hop := Lib.hid hop
          clear hop hA
          by_cases hn : mc.n = 0
          rotate_left
          · have hret := Lib.hid (HT.out 5 (hB.out.trans (if_pos (.inl hn))))
            have hnb : (mc.n != 0) = true := by simp [hn]
            clear hn
            go_wp2_with fail
            refine Within_calls _ _ _ _ _ ?_
            rw [hd.out]
            go_wp2
            go_quiet (fail)
            go_wp2
            exact hret.out _ (HB.out _ (below_drewN (Hb.out.alloc (by omega) _) _))
          have hnb : (mc.n != 0) = false := by simp [hn]
          have Hn := Lib.hid hn
          clear hn
          by_cases hk0 : k = 0
          · have hC := Lib.hid (hB.out.trans (if_neg (by simp [Hn.out, hk0])))
            have hki : ¬ (0 : Int) < (k : Int) := by omega
            have hkd : decide (0 < k) = false := decide_eq_false (by omega)
            have Hk0 := Lib.hid hk0
            clear hB hk0
            cases hgn : goodName mn
            · have hret := Lib.hid (HT.out 12 (hC.out.trans (if_pos hgn)))
              have Hgn := Lib.hid hgn
              clear hgn
              go_wp2_with fail
              refine Within_calls _ _ _ _ _ ?_
              rw [hd.out]
              go_wp2
              go_quiet (fail)
              go_wp2_with (go_at_call 89; refine Name_calls _ _ _ ?_; rw [Hgn.out])
              exact hret.out _ (HB.out _ (below_drewN (Hb.out.alloc (by omega) _) _))
            · have hE := Lib.hid (hC.out.trans (if_neg (by rw [hgn]; simp)))
              have Hgn := Lib.hid hgn
              clear hgn
              go_wp2_with fail
              refine Within_calls _ _ _ _ _ ?_
              rw [hd.out]
              go_wp2
              go_quiet (fail)
              go_wp2_with (go_at_call 89; refine Name_calls _ _ _ ?_; rw [Hgn.out])
              go_roundg (s.mends.length - (k + 1))
              case measure => omega
              case rel => exact ⟨k + 1, hlt, rfl, by go_num, by rw [← Ht.out, hE.out], below_drewN (Hb.out.alloc (by omega) _) _⟩
          · have hki : (0 : Int) < (k : Int) := by omega
            obtain ⟨pm, e4, p4⟩ := Hprev.out (by omega)
            have k1 : (0 : Int) ≤ (k : Int) - 1 := by omega
            have k2 : ((k : Int) - 1) < (s.mends.length : Int) := by omega
            have k3 : ((k : Int) - 1).toNat = k - 1 := by omega
            have k4 : (1 : Int) ≤ (k : Int) := by omega
            have hpd : s.mends.getD (k - 1) ⟨0, ByteArray.empty⟩ = pm := by rw [List.getD_eq_getElem?_getD, e4]; rfl
            rw [hpd] at hB
            have hkn : 0 < k := by omega
            have hkd : decide (0 < k) = true := decide_eq_true hkn
            clear e4 hpd
            by_cases hle : (j : Int) ≤ pm.at_
            · have hret := Lib.hid (HT.out 5 (hB.out.trans (if_pos (.inr ⟨by omega, hle⟩))))
              clear hk0
              go_wp2_with fail
              refine Within_calls _ _ _ _ _ ?_
              rw [hd.out]
              go_wp2
              go_quiet (fail)
              go_wp2
              exact hret.out _ (HB.out _ (below_drewN (Hb.out.alloc (by omega) _) _))
            · have hC := Lib.hid (hB.out.trans (if_neg (by rw [Hn.out]; simp; omega)))
              clear hk0 hB
              cases hgn : goodName mn
              · have hret := Lib.hid (HT.out 12 (hC.out.trans (if_pos hgn)))
                have Hgn := Lib.hid hgn
                clear hgn
                go_wp2_with fail
                refine Within_calls _ _ _ _ _ ?_
                rw [hd.out]
                go_wp2
                go_quiet (fail)
                go_wp2_with (go_at_call 89; refine Name_calls _ _ _ ?_; rw [Hgn.out])
                exact hret.out _ (HB.out _ (below_drewN (Hb.out.alloc (by omega) _) _))
              · have hE := Lib.hid (hC.out.trans (if_neg (by rw [hgn]; simp)))
                have Hgn := Lib.hid hgn
                clear hgn
                go_wp2_with fail
                refine Within_calls _ _ _ _ _ ?_
                rw [hd.out]
                go_wp2
                go_quiet (fail)
                go_wp2_with (go_at_call 89; refine Name_calls _ _ _ ?_; rw [Hgn.out])
                go_roundg (s.mends.length - (k + 1))
                case measure => omega
                case rel => exact ⟨k + 1, hlt, rfl, by go_num, by rw [← Ht.out, hE.out], below_drewN (Hb.out.alloc (by omega) _) _⟩
        · obtain rfl : k = s.mends.length := by omega
          rw [mendsFrom_end, Hcalls.out] at Ht
          have hret := Lib.hid HR.out
          rw [← Ht.out] at hret
          have HB : Hid (∀ w', Below w1.heap.size w1 w' → Below w.heap.size w w') := Lib.hid fun w' h => Hbw.out.trans (h.mono (by omega))
          clear hbel
          by_cases hcc : cc = s.mends.length
          · rw [if_pos hcc] at hret
            have hcb : ((s.mends.length : Int) != (cc : Int)) = false := by simp; omega
            clear hcc
            go_wp2
            exact hret.out _ (HB.out _ Hb.out)
          · rw [if_neg hcc] at hret
            have hcb : ((s.mends.length : Int) != (cc : Int)) = true := by simp; omega
            clear hcc
            go_wp2
            exact hret.out _ (HB.out _ Hb.out)
  · have hno := Lib.hid (HR.out)
    rw [show secF s = 1 from by rw [secF, hl]] at hno
    have hz1 : w.heap.size < w1.heap.size := by have := hb1.size; simp at this; omega
    have hq : ∀ w, (binOp .neq 36 (.agg #[.int .i64 c, .int .i64 a]) (.agg #[.int .i64 0, .int .i64 0])).run Tryd.prog w = .ok (.bool true) w := fun w => by
      rw [neq_Fault]
      simp [hc]
    clear HR hl
    have Hb1 := Lib.hid (hb0.trans (hb1.mono (by simp)))
    clear hb1 hb0
    go_wp2
    exact hno.out _ (Hb1.out.alloc (by omega) _)
end Go.Proofs.YtegnemfjcmhncaaDoor

/- The document's answer: what is wrong with a section, but its name. -/
namespace Go.Proofs.YtegnemfjcmhncaaDoor
open Go.RowKit
set_option linter.unusedSimpArgs false
set_option linter.unusedVariables false

end Go.Proofs.YtegnemfjcmhncaaDoor
