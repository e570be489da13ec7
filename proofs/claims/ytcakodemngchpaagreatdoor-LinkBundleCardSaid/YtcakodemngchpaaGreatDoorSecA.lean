/- object.section: what is wrong with a section, but its name. The document's answer: what is wrong with a section, but its name. object.Check: what is wrong with an object. The document's answer: which section has a name. The document's answer: what is wrong with an object. -/
import Derived.Test.YtcakodemngchpaaGreatDoorBase
import Derived.Test.YtcakodemngchpaaGreatDoorRows
import Derived.IntWalk
import Derived.Deep.LoopGhost
import Derived.Deep.CutBlock
import Derived.Deep.DeepCutAuto
import Derived.Test.YtcakodemngchpaaGreatDoorGlobA
import Derived.Test.YtcakodemngchpaaGreatDoorRefB
/- object.section: what is wrong with a section, but its name. -/
namespace Go.Proofs.YtcakodemngchpaaGreatDoor
open Go.RowKit
set_option linter.unusedSimpArgs false
set_option linter.unusedVariables false

def calls44 (l : List Mac) : Nat := (l.filter fun m => m.op == 44).length
theorem calls44_step {l : List Mac} {k : Nat} {m : Mac} (h : l[k]? = some m) : calls44 (l.take (k + 1)) = calls44 (l.take k) + if m.op = 44 then 1 else 0 := by
  obtain ⟨hk, e⟩ := List.getElem?_eq_some_iff.1 h
  unfold calls44
  rw [List.take_succ_eq_append_getElem hk, List.filter_append, List.length_append, e]
  congr 1
  by_cases h44 : m.op = 44 <;> simp [h44]
theorem calls44_le (l : List Mac) (k : Nat) : calls44 (l.take k) ≤ k := by
  have h1 := List.length_filter_le (fun m : Mac => m.op == 44) (l.take k)
  have h2 : (l.take k).length ≤ k := List.length_take_le _ _
  unfold calls44
  omega
theorem mendsFrom_step {l : List Mac} {ms : List Mend} {k : Nat} {m : Mend} (h : ms[k]? = some m) : mendsFrom l ms (ms.length - k) k =
    if m.at_ < 0 ∨ (l.length : Int) ≤ m.at_ then 3
    else if (l.getD m.at_.toNat ⟨0, 0, 0, 0, 0⟩).op ≠ 44 then 4
    else if (l.getD m.at_.toNat ⟨0, 0, 0, 0, 0⟩).n ≠ 0 ∨ (0 < k ∧ m.at_ ≤ (ms.getD (k - 1) ⟨0, ByteArray.empty⟩).at_) then 5
    else if goodName m.name = false then 12
    else mendsFrom l ms (ms.length - (k + 1)) (k + 1) := by
  have hk := (List.getElem?_eq_some_iff.1 h).1
  rw [show ms.length - k = (ms.length - (k + 1)) + 1 from by omega, mendsFrom, h]
theorem mendsFrom_end (l : List Mac) (ms : List Mend) : mendsFrom l ms (ms.length - ms.length) ms.length = if calls44 l = ms.length then 0 else 9 := by
  rw [Nat.sub_self, mendsFrom]
  rfl
theorem mac_getD {l : List Mac} {k : Nat} {m : Mac} (h : l[k]? = some m) : l.getD k ⟨0, 0, 0, 0, 0⟩ = m := by
  rw [List.getD_eq_getElem?_getD, h]
  rfl

set_option maxRecDepth 100000 in
set_option maxHeartbeats 4000000 in
theorem section_calls (s : Section) (v1 v2 : Value) (w : World) (h1 : rpByte.SL w w.heap.size s.code v1) (h2 : rpMend.SL w w.heap.size s.mends v2) (hS : Shapes w) (R : Ending → World → Prop)
    (hR : ∀ w', Below w.heap.size w w' → R (.returned (.int .i64 (secF s))) w') :
    Calls Tryz.prog 58 #[.agg #[.string s.name, v1, v2]] w R := by
  have h0 := hS.1
  have HS := Lib.hid hS
  have HR := Lib.hid hR
  have H1 := Lib.hid h1
  have H2 := Lib.hid h2
  clear hS hR h1 h2
  go_enter Tryz.func58, Tryz.ntmps58
  go_wp2_with fail
  have hb0 : Below w.heap.size w (w.alloc (Obj.cells #[.string s.name, v1, v2] 58)) := (Below.refl _ _).alloc (Nat.le_refl _) _
  refine Read_calls v1 s.code _ (by simpa using H1.out.up (B' := w.heap.size + 1) hb0 (by omega)) (HS.out.up (hb0) h0) _ (fun l hl w1 u hb1 hul => ?_) (fun hl w1 c a hc hb1 => ?_)
  · have hs : secF s = mendsFrom l s.mends s.mends.length 0 := by rw [secF, hl]
    have Hsf := Lib.hid hs
    have hz1 : w.heap.size < w1.heap.size := by have := hb1.size; simp at this; omega
    have b0 : w1.cell? ⟨w.heap.size, 0, none⟩ = some (.string s.name) := by rw [hb1.cell (by simp)]; simp
    have b1 : w1.cell? ⟨w.heap.size, 1, none⟩ = some v1 := by rw [hb1.cell (by simp)]; simp
    have b2 : w1.cell? ⟨w.heap.size, 2, none⟩ = some v2 := by rw [hb1.cell (by simp)]; simp
    have hbw : Below w.heap.size w w1 := hb0.trans (hb1.mono (by simp))
    have hm1 : rpMend.SL w1 w1.heap.size s.mends v2 := H2.out.up hbw hbw.size
    obtain ⟨A, n, rfl, hm, hcap, hul⟩ := hul.cases_
    obtain ⟨A2, n2, rfl, hm2, hcap2, hm1⟩ := hm1.cases_
    have Hl := Lib.hid hul
    have Hm := Lib.hid hm1
    have Hbw := Lib.hid hbw
    have hq : ∀ w, (binOp .neq 27 (.agg #[.int .i64 0, .int .i64 0]) (.agg #[.int .i64 0, .int .i64 0])).run Tryz.prog w = .ok (.bool false) w := fun w => neq_Fault 0 0 0 0 w
    clear hl hs hb0 hb1 hbw hul hm1
    go_upto_block 0 with fail
    go_cut [5] (fun s5 wx => s5 = .int .i64 (calls44 l : Int) ∧ Below w1.heap.size w1 wx)
    case first =>
      go_wp2_with fail
      go_loopg [5, 7, 21] l.length (fun g s5 s7 i wr => ∃ k : Nat, k ≤ l.length ∧ g = l.length - k ∧ i = .int .i64 k ∧ s5 = .int .i64 (calls44 (l.take k) : Int) ∧ Below w1.heap.size w1 wr)
      case atStart => exact ⟨0, Nat.zero_le _, rfl, rfl, rfl, bl0⟩
      case round =>
        obtain ⟨k, hk, rfl, rfl, rfl, hbel⟩ := hrel
        have hcl := calls44_le l k
        have hz := hbel.size
        have i1 : (0 : Int) ≤ (k : Int) := Int.natCast_nonneg _
        by_cases hlt : k < l.length
        · obtain ⟨b, off, m, rfl, hb, e, q0, q1, q2, q3, q4⟩ := Hl.out.mac_at hlt
          have p0 := (hbel.cell (p := ⟨b, off + k * 5, none⟩) hb).trans q0
          have p1 := (hbel.cell (p := ⟨b, off + k * 5 + 1, none⟩) hb).trans q1
          have p2 := (hbel.cell (p := ⟨b, off + k * 5 + 2, none⟩) hb).trans q2
          have p3 := (hbel.cell (p := ⟨b, off + k * 5 + 3, none⟩) hb).trans q3
          have p4 := (hbel.cell (p := ⟨b, off + k * 5 + 4, none⟩) hb).trans q4
          have Hst := Lib.hid (calls44_step e)
          have Hb := Lib.hid hbel
          have i2 : (k : Int) < (l.length : Int) := by omega
          have hb' : b < wr.heap.size := by omega
          generalize calls44 (l.take k) = cc at *
          have c0 : (0 : Int) ≤ (cc : Int) := Int.natCast_nonneg _
          have c1 : (cc : Int) + 1 ≤ 9223372036854775807 := by omega
          clear q0 q1 q2 q3 q4 e hbel
          by_cases h44 : m.op = 44
          · have hst := Lib.hid (Hst.out.trans (by rw [if_pos h44]))
            have hbo : (m.op == 44) = true := by simp [h44]
            have Hh := Lib.hid h44
            clear h44 Hst
            go_wp2
            go_roundg (l.length - (k + 1))
            case measure => omega
            case rel => exact ⟨k + 1, hlt, rfl, by go_num, by rw [hst.out]; go_num, Hb.out.alloc (by omega) _⟩
          · have hst := Lib.hid (Hst.out.trans (by rw [if_neg h44]))
            have hbo : (m.op == 44) = false := by simp [h44]
            clear h44 Hst
            go_wp2
            go_roundg (l.length - (k + 1))
            case measure => omega
            case rel => exact ⟨k + 1, hlt, rfl, by go_num, by rw [hst.out]; rfl, Hb.out.alloc (by omega) _⟩
        · obtain rfl : k = l.length := by omega
          have Hb := Lib.hid hbel
          clear hbel hcl
          rw [List.take_length]
          go_wp2
          go_meet
          exact ⟨rfl, Hb.out⟩
    case rest =>
      obtain ⟨rfl, hbel⟩ := hcut
      have c0 := calls44_le l l.length
      rw [List.take_length] at c0
      have hzc := hbel.size
      have b0' : wc.cell? ⟨w.heap.size, 0, none⟩ = some (.string s.name) := by rw [hbel.cell hz1]; exact b0
      have b1' : wc.cell? ⟨w.heap.size, 1, none⟩ = some v1 := by rw [hbel.cell hz1]; exact b1
      have b2' : wc.cell? ⟨w.heap.size, 2, none⟩ = some (.slice A2 s.mends.length n2) := by rw [hbel.cell hz1]; exact b2
      have Hbc := Lib.hid hbel
      generalize hcalls : calls44 l = cc at *
      have Hcalls := Lib.hid hcalls
      clear hbel hcalls
      go_wp2
      go_loopg [8, 9, 34, 39, 47, 55, 79] s.mends.length (fun g s8 s9 i s39 s47 s55 s79 wr => ∃ k : Nat, k ≤ s.mends.length ∧ g = s.mends.length - k ∧ i = .int .i64 k ∧ mendsFrom l s.mends (s.mends.length - k) k = secF s ∧ Below w1.heap.size w1 wr)
      case atStart => exact ⟨0, Nat.zero_le _, rfl, rfl, Hsf.out.symm, Hbc.out⟩
      case round =>
        obtain ⟨k, hk, rfl, rfl, ht, hbel⟩ := hrel
        have hz := hbel.size
        have i1 : (0 : Int) ≤ (k : Int) := Int.natCast_nonneg _
        have d2 : wr.cell? ⟨w.heap.size, 2, none⟩ = some (.slice A2 s.mends.length n2) := by rw [hbel.cell hz1]; exact b2
        have hzw : w.heap.size < wr.heap.size := by omega
        have Ht := Lib.hid ht
        have Hb := Lib.hid hbel
        clear ht
        by_cases hlt : k < s.mends.length
        · obtain ⟨b, off, m, rfl, hb, e, q0, q1⟩ := Hm.out.mend_at hlt
          have p0 := (hbel.cell (p := ⟨b, off + k * 2, none⟩) hb).trans q0
          have p1 := (hbel.cell (p := ⟨b, off + k * 2 + 1, none⟩) hb).trans q1
          have i2 : (k : Int) < (s.mends.length : Int) := by omega
          have hb' : b < wr.heap.size := by omega
          have Hst := Lib.hid (mendsFrom_step (l := l) e)
          have HT : Hid (∀ f : Int, mendsFrom l s.mends (s.mends.length - k) k = f → ∀ w', Below w.heap.size w w' → R (.returned (.int .i64 f)) w') := Lib.hid fun f e => by
            subst e
            rw [Ht.out]
            exact HR.out
          have HB : Hid (∀ w', Below w1.heap.size w1 w' → Below w.heap.size w w') := Lib.hid fun w' h => Hbw.out.trans (h.mono (by omega))
          by_cases hw : m.at_ < 0 ∨ (l.length : Int) ≤ m.at_
          · have hret := Lib.hid (HT.out 3 (by rw [Hst.out, if_pos hw]))
            have hd : Hid (decide (0 ≤ m.at_ ∧ m.at_ ≤ (l.length : Int) - 1) = false) := Lib.hid (decide_eq_false (by omega))
            clear hw q0 q1 e hbel
            go_wp2_with fail
            refine Within_calls _ _ _ _ _ ?_
            rw [hd.out]
            go_wp2
            exact hret.out _ (HB.out _ (Hb.out.alloc (by omega) _))
          have hA := Lib.hid (Hst.out.trans (if_neg hw))
          obtain ⟨j, hj⟩ : ∃ j : Nat, m.at_ = (j : Int) := ⟨m.at_.toNat, by omega⟩
          have hjl : j < l.length := by omega
          obtain ⟨b3, off3, mc, rfl, hb3, e3, r0, r1, r2, r3, r4⟩ := Hl.out.mac_at hjl
          have t0 := (hbel.cell (p := ⟨b3, off3 + j * 5, none⟩) hb3).trans r0
          have t4 := (hbel.cell (p := ⟨b3, off3 + j * 5 + 4, none⟩) hb3).trans r4
          have hb3' : b3 < wr.heap.size := by omega
          have hd : Hid (decide (0 ≤ m.at_ ∧ m.at_ ≤ (l.length : Int) - 1) = true) := Lib.hid (decide_eq_true (by omega))
          rw [show m.at_.toNat = j from by omega, mac_getD e3] at hA
          have hprev : 0 < k → ∃ pm : Mend, s.mends[k - 1]? = some pm ∧ wr.cell? ⟨b, off + (k - 1) * 2, none⟩ = some (.int .i64 pm.at_) := fun hk0 => by
            obtain ⟨b4, off4, pm, hA4, hb4, e4, q4, _⟩ := Hm.out.mend_at (k := k - 1) (by omega)
            simp only [Option.some.injEq, Addr.mk.injEq, and_true] at hA4
            obtain ⟨rfl, rfl⟩ := hA4
            exact ⟨pm, e4, (hbel.cell (p := ⟨b, off + (k - 1) * 2, none⟩) hb4).trans q4⟩
          have Hprev := Lib.hid hprev
          rw [hj] at hA hd p0
          have j0 : (0 : Int) ≤ (j : Int) := Int.natCast_nonneg _
          have j1 : (j : Int) < (l.length : Int) := by omega
          obtain ⟨mn, hmn⟩ : ∃ mn, mn = m.name := ⟨_, rfl⟩
          rw [← hmn] at p1 hA
          clear hprev q0 q1 e hbel Hst hw hj hmn r0 r1 r2 r3 r4 e3 hjl
          by_cases hop : mc.op = 44
          rotate_left
          · have hret := Lib.hid (HT.out 4 (hA.out.trans (if_pos hop)))
            have ho : (mc.op != 44) = true := by simp [hop]
            clear hop
            go_wp2_with fail
            refine Within_calls _ _ _ _ _ ?_
            rw [hd.out]
            go_wp2
            exact hret.out _ (HB.out _ (Hb.out.alloc (by omega) _))
          have ho : (mc.op != 44) = false := by simp [hop]
          have hB := Lib.hid (hA.out.trans (if_neg (by simp [hop])))
          have Hop := Lib.hid hop
          clear hop hA
          by_cases hn : mc.n = 0
          rotate_left
          · have hret := Lib.hid (HT.out 5 (hB.out.trans (if_pos (.inl hn))))
            have hnb : (mc.n != 0) = true := by simp [hn]
            clear hn
            go_wp2_with fail
            refine Within_calls _ _ _ _ _ ?_
            rw [hd.out]
            go_wp2
            go_quiet (fail)
            go_wp2
            exact hret.out _ (HB.out _ (below_drewN (Hb.out.alloc (by omega) _) _))
          have hnb : (mc.n != 0) = false := by simp [hn]
          have Hn := Lib.hid hn
          clear hn
          by_cases hk0 : k = 0
          · have hC := Lib.hid (hB.out.trans (if_neg (by simp [Hn.out, hk0])))
            have hki : ¬ (0 : Int) < (k : Int) := by omega
            have hkd : decide (0 < k) = false := decide_eq_false (by omega)
            have Hk0 := Lib.hid hk0
            clear hB hk0
            cases hgn : goodName mn
            · have hret := Lib.hid (HT.out 12 (hC.out.trans (if_pos hgn)))
              have Hgn := Lib.hid hgn
              clear hgn
              go_wp2_with fail
              refine Within_calls _ _ _ _ _ ?_
              rw [hd.out]
              go_wp2
              go_quiet (fail)
              go_wp2_with (go_at_call 57; refine Name_calls _ _ _ ?_; rw [Hgn.out])
              exact hret.out _ (HB.out _ (below_drewN (Hb.out.alloc (by omega) _) _))
            · have hE := Lib.hid (hC.out.trans (if_neg (by rw [hgn]; simp)))
              have Hgn := Lib.hid hgn
              clear hgn
              go_wp2_with fail
              refine Within_calls _ _ _ _ _ ?_
              rw [hd.out]
              go_wp2
              go_quiet (fail)
              go_wp2_with (go_at_call 57; refine Name_calls _ _ _ ?_; rw [Hgn.out])
              go_roundg (s.mends.length - (k + 1))
              case measure => omega
              case rel => exact ⟨k + 1, hlt, rfl, by go_num, by rw [← Ht.out, hE.out], below_drewN (Hb.out.alloc (by omega) _) _⟩
          · have hki : (0 : Int) < (k : Int) := by omega
            obtain ⟨pm, e4, p4⟩ := Hprev.out (by omega)
            have k1 : (0 : Int) ≤ (k : Int) - 1 := by omega
            have k2 : ((k : Int) - 1) < (s.mends.length : Int) := by omega
            have k3 : ((k : Int) - 1).toNat = k - 1 := by omega
            have k4 : (1 : Int) ≤ (k : Int) := by omega
            have hpd : s.mends.getD (k - 1) ⟨0, ByteArray.empty⟩ = pm := by rw [List.getD_eq_getElem?_getD, e4]; rfl
            rw [hpd] at hB
            have hkn : 0 < k := by omega
            have hkd : decide (0 < k) = true := decide_eq_true hkn
            clear e4 hpd
            by_cases hle : (j : Int) ≤ pm.at_
            · have hret := Lib.hid (HT.out 5 (hB.out.trans (if_pos (.inr ⟨by omega, hle⟩))))
              clear hk0
              go_wp2_with fail
              refine Within_calls _ _ _ _ _ ?_
              rw [hd.out]
              go_wp2
              go_quiet (fail)
              go_wp2
              exact hret.out _ (HB.out _ (below_drewN (Hb.out.alloc (by omega) _) _))
            · have hC := Lib.hid (hB.out.trans (if_neg (by rw [Hn.out]; simp; omega)))
              clear hk0 hB
              cases hgn : goodName mn
              · have hret := Lib.hid (HT.out 12 (hC.out.trans (if_pos hgn)))
                have Hgn := Lib.hid hgn
                clear hgn
                go_wp2_with fail
                refine Within_calls _ _ _ _ _ ?_
                rw [hd.out]
                go_wp2
                go_quiet (fail)
                go_wp2_with (go_at_call 57; refine Name_calls _ _ _ ?_; rw [Hgn.out])
                exact hret.out _ (HB.out _ (below_drewN (Hb.out.alloc (by omega) _) _))
              · have hE := Lib.hid (hC.out.trans (if_neg (by rw [hgn]; simp)))
                have Hgn := Lib.hid hgn
                clear hgn
                go_wp2_with fail
                refine Within_calls _ _ _ _ _ ?_
                rw [hd.out]
                go_wp2
                go_quiet (fail)
                go_wp2_with (go_at_call 57; refine Name_calls _ _ _ ?_; rw [Hgn.out])
                go_roundg (s.mends.length - (k + 1))
                case measure => omega
                case rel => exact ⟨k + 1, hlt, rfl, by go_num, by rw [← Ht.out, hE.out], below_drewN (Hb.out.alloc (by omega) _) _⟩
        · obtain rfl : k = s.mends.length := by omega
          rw [mendsFrom_end, Hcalls.out] at Ht
          have hret := Lib.hid HR.out
          rw [← Ht.out] at hret
          have HB : Hid (∀ w', Below w1.heap.size w1 w' → Below w.heap.size w w') := Lib.hid fun w' h => Hbw.out.trans (h.mono (by omega))
          clear hbel
          by_cases hcc : cc = s.mends.length
          · rw [if_pos hcc] at hret
            have hcb : ((s.mends.length : Int) != (cc : Int)) = false := by simp; omega
            clear hcc
            go_wp2
            exact hret.out _ (HB.out _ Hb.out)
          · rw [if_neg hcc] at hret
            have hcb : ((s.mends.length : Int) != (cc : Int)) = true := by simp; omega
            clear hcc
            go_wp2
            exact hret.out _ (HB.out _ Hb.out)
  · have hno := Lib.hid (HR.out)
    rw [show secF s = 1 from by rw [secF, hl]] at hno
    have hz1 : w.heap.size < w1.heap.size := by have := hb1.size; simp at this; omega
    have hq : ∀ w, (binOp .neq 27 (.agg #[.int .i64 c, .int .i64 a]) (.agg #[.int .i64 0, .int .i64 0])).run Tryz.prog w = .ok (.bool true) w := fun w => by
      rw [neq_Fault]
      simp [hc]
    clear HR hl
    have Hb1 := Lib.hid (hb0.trans (hb1.mono (by simp)))
    clear hb1 hb0
    go_wp2
    exact hno.out _ (Hb1.out.alloc (by omega) _)
end Go.Proofs.YtcakodemngchpaaGreatDoor

/- The document's answer: what is wrong with a section, but its name. -/
namespace Go.Proofs.YtcakodemngchpaaGreatDoor
open Go.RowKit
set_option linter.unusedSimpArgs false
set_option linter.unusedVariables false

end Go.Proofs.YtcakodemngchpaaGreatDoor

/- object.Check: what is wrong with an object. -/
namespace Go.Proofs.YtcakodemngchpaaGreatDoor
open Go.RowKit
set_option linter.unusedSimpArgs false
set_option linter.unusedVariables false

theorem globFrom_zero (l : List Global) : ∀ (f i : Nat) (sum : Int), (globFrom l f i sum).1 = 0 → globFrom l f i sum = (0, 0)
  | 0, i, sum, h => rfl
  | f + 1, i, sum, h => by
    rw [globFrom] at h ⊢
    cases hg : l[i]? with
    | none => rfl
    | some g =>
      rw [hg] at h
      simp only [] at h ⊢
      by_cases c1 : goodName g.name = false
      · rw [if_pos c1] at h; simp at h
      rw [if_neg c1] at h ⊢
      by_cases c2 : (l.take i).any (fun o => decide (o.name = g.name)) = true
      · rw [if_pos c2] at h; simp at h
      rw [if_neg c2] at h ⊢
      by_cases c3 : g.size < 1 ∨ 200 < g.size
      · rw [if_pos c3] at h; simp at h
      rw [if_neg c3] at h ⊢
      by_cases c4 : g.size < (g.init.length : Int)
      · rw [if_pos c4] at h; simp at h
      rw [if_neg c4] at h ⊢
      by_cases c5 : 200 < sum + g.size
      · rw [if_pos c5] at h; simp at h
      rw [if_neg c5] at h ⊢
      exact globFrom_zero l f _ _ h
theorem globFault_zero (l : List Global) (h : (globFault l).1 = 0) : globFault l = (0, 0) := by
  unfold globFault at h ⊢
  split
  · rename_i hn
    rw [if_pos hn] at h
    simp at h
  · rename_i hn
    rw [if_neg hn] at h
    exact globFrom_zero l _ _ _ h
theorem secsFrom_step {o : Object} {k : Nat} {s : Section} (h : o.sections[k]? = some s) : secsFrom o (o.sections.length - k) k =
    if goodName s.name = false then (12, (k : Int))
    else if (hasG o.globals s.name || hasS (o.sections.take k) s.name) = true then (7, (k : Int))
    else if secF s ≠ 0 then (secF s, (k : Int))
    else secsFrom o (o.sections.length - (k + 1)) (k + 1) := by
  have hk := (List.getElem?_eq_some_iff.1 h).1
  rw [show o.sections.length - k = (o.sections.length - (k + 1)) + 1 from by omega, secsFrom, h]
  rfl

set_option maxRecDepth 100000 in
set_option maxHeartbeats 4000000 in
theorem objCheck_calls (o : Object) (v1 v2 : Value) (w : World) (h1 : rpGlobal.SL w w.heap.size o.globals v1) (h2 : rpSection.SL w w.heap.size o.sections v2) (hS : Shapes w) (R : Ending → World → Prop)
    (hR : ∀ w', Below w.heap.size w w' → R (.returned (.agg #[.int .i64 (objFault o).1, .int .i64 (objFault o).2])) w') :
    Calls Tryz.prog 28 #[.agg #[v1, v2]] w R := by
  have h0 := hS.1
  obtain ⟨A2, n2, rfl, hm2, hcap2, h2⟩ := h2.cases_
  have HS := Lib.hid hS
  have HR := Lib.hid hR
  have H1 := Lib.hid h1
  have H2 := Lib.hid h2
  have hbb : Below w.heap.size w ((w.alloc (Obj.cells #[v1, .slice A2 o.sections.length n2] 40)).alloc (Obj.cells #[.int .i64 0, .int .i64 0] 27)) := bl0
  have hF : ∀ wr, Below (w.heap.size + 2) ((w.alloc (Obj.cells #[v1, .slice A2 o.sections.length n2] 40)).alloc (Obj.cells #[.int .i64 0, .int .i64 0] 27)) wr → Below w.heap.size w wr := fun wr h => hbb.trans (h.mono (by omega))
  have HF := Lib.hid hF
  have Hbb := Lib.hid hbb
  clear hS hR h1 h2 hF hbb
  go_enter Tryz.func28, Tryz.ntmps28
  go_wp2_with fail
  refine Globals_calls v1 o.globals _ (by simpa using H1.out.up (B' := w.heap.size + 2) Hbb.out (by omega)) _ (fun w1 n hb1 => ?_)
  have hz1 : w.heap.size + 2 ≤ w1.heap.size := by have := hb1.size; simpa using this
  have hbel1 : Below (w.heap.size + 2) ((w.alloc (Obj.cells #[v1, .slice A2 o.sections.length n2] 40)).alloc (Obj.cells #[.int .i64 0, .int .i64 0] 27)) w1 := by simpa using hb1
  have b0 : w1.cell? ⟨w.heap.size, 0, none⟩ = some v1 := by rw [hbel1.cell (by simp)]; simp
  have b1 : w1.cell? ⟨w.heap.size, 1, none⟩ = some (.slice A2 o.sections.length n2) := by rw [hbel1.cell (by simp)]; simp
  have f0 : w1.cell? ⟨w.heap.size + 1, 0, none⟩ = some (.int .i64 0) := by rw [hbel1.cell (by simp)]; simp
  have f1 : w1.cell? ⟨w.heap.size + 1, 1, none⟩ = some (.int .i64 0) := by rw [hbel1.cell (by simp)]; simp
  have g0 : w1.frozen? ⟨w.heap.size + 1, 0, none⟩ = false := by rw [hbel1.frozen (by simp)]; simp
  have g1 : w1.frozen? ⟨w.heap.size + 1, 1, none⟩ = false := by rw [hbel1.frozen (by simp)]; simp
  have Hbel1 := Lib.hid hbel1
  have hp0 : w.heap.size < w1.heap.size := by omega
  have hp1 : w.heap.size + 1 < w1.heap.size := by omega
  have hfz := globFault_zero o.globals
  have hof : objFault o = if (globFault o.globals).1 ≠ 0 then globFault o.globals else if 40 < o.sections.length then (2, 0) else secsFrom o o.sections.length 0 := rfl
  generalize globFault o.globals = F at *
  obtain ⟨c, a⟩ := F
  simp only [] at hfz hof ⊢
  have Hof := Lib.hid hof
  clear hb1 hbel1 hof
  by_cases hc : c = 0
  rotate_left
  · have hret := HR.out
    rw [Hof.out, if_pos hc] at hret
    have Hret := Lib.hid hret
    have hq : ∀ w, (binOp .neq 27 (.agg #[.int .i64 c, .int .i64 a]) (.agg #[.int .i64 0, .int .i64 0])).run Tryz.prog w = .ok (.bool true) w := fun w => by
      rw [neq_Fault]
      simp [hc]
    clear hfz hret hc
    go_wp2
    refine bodyPost_ret (v := (.agg #[.int .i64 ((c, a)).1, .int .i64 ((c, a)).2])) (res_Fault (by rfl) (by rfl) (cells_alloc2 (cells_set2 (a := (w.alloc (Obj.cells #[v1, .slice (A2) o.sections.length n2] 40)).alloc (Obj.cells #[.int .i64 0, .int .i64 0] 27)) (B := w.heap.size + 2) (Hbel1.out) (Nat.lt_succ_self _) (by simp; rfl) (by simp; rfl) _ _) _)) rfl ?_; exact Hret.out _ ((((HF.out _ (Hbel1.out)).setCell (p := ⟨w.heap.size + 1, 0, none⟩) (Nat.le_succ _) (.int .i64 ((c, a)).1)).setCell (p := ⟨w.heap.size + 1, 1, none⟩) (Nat.le_succ _) (.int .i64 ((c, a)).2)).alloc (by simp [World.setCell]; omega) _)
  · have hq : ∀ w, (binOp .neq 27 (.agg #[.int .i64 0, .int .i64 0]) (.agg #[.int .i64 0, .int .i64 0])).run Tryz.prog w = .ok (.bool false) w := fun w => neq_Fault 0 0 0 0 w
    have hca := hfz hc
    simp only [Prod.mk.injEq] at hca
    obtain ⟨rfl, rfl⟩ := hca
    clear hfz hc
    rw [if_neg (by simp)] at Hof
    by_cases h40 : 40 < o.sections.length
    · have hret := HR.out
      rw [Hof.out, if_pos h40] at hret
      have Hret := Lib.hid hret
      have h40i : (40 : Int) < (o.sections.length : Int) := by omega
      clear hret h40
      go_wp2_with fail
      refine Fault_calls _ _ _ _ (fun w2 hb2 => ?_)
      have hz2 : w1.heap.size < w2.heap.size := by have := hb2.size; simp at this; omega
      have hbel2 : Below (w.heap.size + 2) ((w.alloc (Obj.cells #[v1, .slice A2 o.sections.length n2] 40)).alloc (Obj.cells #[.int .i64 0, .int .i64 0] 27)) w2 := (Hbel1.out.alloc (by omega) _).trans (hb2.mono (by simp; omega))
      have ff0 : w2.cell? ⟨w.heap.size + 1, 0, none⟩ = some (.int .i64 0) := by rw [hbel2.cell (by simp)]; simp
      have ff1 : w2.cell? ⟨w.heap.size + 1, 1, none⟩ = some (.int .i64 0) := by rw [hbel2.cell (by simp)]; simp
      have gg0 : w2.frozen? ⟨w.heap.size + 1, 0, none⟩ = false := by rw [hbel2.frozen (by simp)]; simp
      have gg1 : w2.frozen? ⟨w.heap.size + 1, 1, none⟩ = false := by rw [hbel2.frozen (by simp)]; simp
      have hp2 : w.heap.size + 1 < w2.heap.size := by omega
      have Hbel2 := Lib.hid hbel2
      clear hbel2 hb2
      go_wp2
      refine bodyPost_ret (v := (.agg #[.int .i64 ((2, 0)).1, .int .i64 ((2, 0)).2])) (res_Fault (by rfl) (by rfl) (cells_set2 (a := (w.alloc (Obj.cells #[v1, .slice (A2) o.sections.length n2] 40)).alloc (Obj.cells #[.int .i64 0, .int .i64 0] 27)) (B := w.heap.size + 2) (Hbel2.out) (Nat.lt_succ_self _) (by simp; rfl) (by simp; rfl) _ _)) rfl ?_; exact Hret.out _ (((HF.out _ (Hbel2.out)).setCell (p := ⟨w.heap.size + 1, 0, none⟩) (Nat.le_succ _) (.int .i64 ((2, 0)).1)).setCell (p := ⟨w.heap.size + 1, 1, none⟩) (Nat.le_succ _) (.int .i64 ((2, 0)).2))
    · rw [if_neg h40] at Hof
      have HR2 : Hid (∀ w', Below w.heap.size w w' → R (.returned (.agg #[.int .i64 (secsFrom o o.sections.length 0).1, .int .i64 (secsFrom o o.sections.length 0).2])) w') := by
        have := HR.out
        rw [Hof.out] at this
        exact Lib.hid this
      have h40i : ¬ (40 : Int) < (o.sections.length : Int) := by omega
      clear HR Hof h40
      go_wp2
      go_loopg [5, 6, 7, 8, 27, 46, 51] o.sections.length (fun g s5 s6 s7 s8 i s46 s51 wr => ∃ k : Nat, k ≤ o.sections.length ∧ g = o.sections.length - k ∧ i = .int .i64 k ∧ secsFrom o (o.sections.length - k) k = secsFrom o o.sections.length 0 ∧ Below (w.heap.size + 2) ((w.alloc (Obj.cells #[v1, .slice A2 o.sections.length n2] 40)).alloc (Obj.cells #[.int .i64 0, .int .i64 0] 27)) wr)
      case atStart => exact ⟨0, Nat.zero_le _, rfl, rfl, rfl, Hbel1.out.alloc (by omega) _⟩
      case round =>
        obtain ⟨k, hk, rfl, rfl, ht, hbel⟩ := hrel
        have Ht := Lib.hid ht
        have Hb := Lib.hid hbel
        have hz := hbel.size
        simp at hz
        have i1 : (0 : Int) ≤ (k : Int) := Int.natCast_nonneg _
        have hbw := HF.out _ hbel
        have Hbw := Lib.hid hbw
        have c0 : wr.cell? ⟨w.heap.size, 0, none⟩ = some v1 := by rw [hbel.cell (by simp)]; simp
        have c1 : wr.cell? ⟨w.heap.size, 1, none⟩ = some (.slice A2 o.sections.length n2) := by rw [hbel.cell (by simp)]; simp
        have hzw : w.heap.size < wr.heap.size := by omega
        have hzw1 : w.heap.size + 1 < wr.heap.size := by omega
        clear ht hbel b0 b1 f0 f1 g0 g1
        by_cases hlt : k < o.sections.length
        · obtain ⟨b, off, s, w3, w4, rfl, hb, e, h3, h4, q0, q1, q2⟩ := H2.out.section_at hlt
          have p0 := (hbw.cell (p := ⟨b, off + k * 3, none⟩) hb).trans q0
          have p1 := (hbw.cell (p := ⟨b, off + k * 3 + 1, none⟩) hb).trans q1
          have p2 := (hbw.cell (p := ⟨b, off + k * 3 + 2, none⟩) hb).trans q2
          have Hst := Lib.hid (secsFrom_step e)
          have i2 : (k : Int) < (o.sections.length : Int) := by omega
          have hkc : (k : Int) ≤ (n2 : Int) := by omega
          have hb' : b < wr.heap.size := by omega
          obtain ⟨A3, n3, rfl, hm3, hcap3, h3⟩ := h3.cases_
          obtain ⟨A4, n4, rfl, hm4, hcap4, h4⟩ := h4.cases_
          have H3 := Lib.hid h3
          have H4 := Lib.hid h4
          have HT : Hid (∀ f : Int × Int, secsFrom o (o.sections.length - k) k = f → ∀ w', Below w.heap.size w w' → R (.returned (.agg #[.int .i64 (f).1, .int .i64 (f).2])) w') := Lib.hid fun f e => by
            subst e
            rw [Ht.out]
            exact HR2.out
          clear q0 q1 q2 e h3 h4 hbw
          -- the lists in the world behind the new variable
          have hSG := Lib.hid (H1.out.up (B' := wr.heap.size + 1) (Hbw.out.alloc (by omega) (Obj.cells #[.string s.name, .slice A3 s.code.length n3, .slice A4 s.mends.length n4] 58)) (by omega))
          have hSS := Lib.hid ((H2.out.take_ (k := k) (by omega)).up (B' := wr.heap.size + 1) (Hbw.out.alloc (by omega) (Obj.cells #[.string s.name, .slice A3 s.code.length n3, .slice A4 s.mends.length n4] 58)) (by omega))
          go_upto_region 9 with fail
          go_cut [7] (fun s7 wx => s7 = .bool (hasG o.globals s.name || hasS (o.sections.take k) s.name) ∧ Below (wr.heap.size + 1) (wr.alloc (Obj.cells #[.string s.name, .slice A3 s.code.length n3, .slice A4 s.mends.length n4] 58)) wx)
          case first =>
            go_wp2_with fail
            refine containsGO_calls v1 o.globals s.name wr.heap.size _ (by simpa using hSG.out) (by simp) _ (fun w5 hb5 => ?_)
            have hz5 : wr.heap.size < w5.heap.size := by have := hb5.size; simp at this; omega
            have hbel5 : Below (w.heap.size + 2) ((w.alloc (Obj.cells #[v1, .slice (some ⟨b, off, none⟩) o.sections.length n2] 40)).alloc (Obj.cells #[.int .i64 0, .int .i64 0] 27)) w5 := (Hb.out.alloc (by omega) _).trans (hb5.mono (by simp; omega))
            have m0 : w5.cell? ⟨wr.heap.size, 0, none⟩ = some (.string s.name) := by rw [hb5.cell (by simp)]; simp
            have k1 : w5.cell? ⟨w.heap.size, 1, none⟩ = some (.slice (some ⟨b, off, none⟩) o.sections.length n2) := by rw [hbel5.cell (by simp)]; simp
            have hp6 : w.heap.size < w5.heap.size := by omega
            have hS5 := Lib.hid (hSS.out.up (B' := w5.heap.size) (by simpa using hb5) (by omega))
            have Hb5 : Hid (Below (wr.heap.size + 1) (wr.alloc (Obj.cells #[.string s.name, .slice A3 s.code.length n3, .slice A4 s.mends.length n4] 58)) w5) := Lib.hid (by simpa using hb5)
            clear hbel5 hb5
            obtain ⟨gg, hgg⟩ : ∃ gg, gg = hasG o.globals s.name := ⟨_, rfl⟩
            rw [← hgg]
            have Hgg := Lib.hid hgg
            clear hgg
            cases gg
            · go_wp2_with fail
              refine containsSO_calls _ (o.sections.take k) s.name wr.heap.size _ hS5.out m0 _ (fun w6 hb6 => ?_)
              have Hb6 := Lib.hid (Hb5.out.trans (hb6.mono (by omega)))
              clear hb6
              go_wp2
              go_meet
              exact ⟨by rw [← Hgg.out, Bool.false_or], Hb6.out⟩
            · go_wp2
              go_meet
              exact ⟨by rw [← Hgg.out, Bool.true_or], Hb5.out⟩
          case rest =>
            rename World => w5
            obtain ⟨rfl, hb5⟩ := hcut
            have hz5 : wr.heap.size < w5.heap.size := by have := hb5.size; simp at this; omega
            have hbel5 : Below (w.heap.size + 2) ((w.alloc (Obj.cells #[v1, .slice (some ⟨b, off, none⟩) o.sections.length n2] 40)).alloc (Obj.cells #[.int .i64 0, .int .i64 0] 27)) w5 := (Hb.out.alloc (by omega) _).trans (hb5.mono (by simp; omega))
            have m0 : w5.cell? ⟨wr.heap.size, 0, none⟩ = some (.string s.name) := by rw [hb5.cell (by simp)]; simp
            have m1 : w5.cell? ⟨wr.heap.size, 1, none⟩ = some (.slice A3 s.code.length n3) := by rw [hb5.cell (by simp)]; simp
            have m2 : w5.cell? ⟨wr.heap.size, 2, none⟩ = some (.slice A4 s.mends.length n4) := by rw [hb5.cell (by simp)]; simp
            have k1 : w5.cell? ⟨w.heap.size, 1, none⟩ = some (.slice (some ⟨b, off, none⟩) o.sections.length n2) := by rw [hbel5.cell (by simp)]; simp
            have x0 : w5.cell? ⟨w.heap.size + 1, 0, none⟩ = some (.int .i64 0) := by rw [hbel5.cell (by simp)]; simp
            have x1 : w5.cell? ⟨w.heap.size + 1, 1, none⟩ = some (.int .i64 0) := by rw [hbel5.cell (by simp)]; simp
            have y0 : w5.frozen? ⟨w.heap.size + 1, 0, none⟩ = false := by rw [hbel5.frozen (by simp)]; simp
            have y1 : w5.frozen? ⟨w.heap.size + 1, 1, none⟩ = false := by rw [hbel5.frozen (by simp)]; simp
            have hp5 : w.heap.size + 1 < w5.heap.size := by omega
            have hp6 : w.heap.size < w5.heap.size := by omega
            have Hbel5 := Lib.hid hbel5
            clear hbel5 hb5 hSG hSS
            obtain ⟨had, hhad⟩ : ∃ had, had = (hasG o.globals s.name || hasS (o.sections.take k) s.name) := ⟨_, rfl⟩
            rw [← hhad] at Hst ⊢
            clear hhad
            cases hgn : goodName s.name
            · have hret := HT.out (12, (k : Int)) (by rw [Hst.out, if_pos hgn])
              have Hret := Lib.hid hret
              have Hgn := Lib.hid hgn
              clear hgn hret
              go_wp2_with fail
              refine Name_calls _ _ _ ?_
              rw [Hgn.out]
              go_wp2_with fail
              refine Fault_calls _ _ _ _ (fun w7 hb7 => ?_)
              have hz7 := hb7.size
              have hbel7 := Hbel5.out.trans (hb7.mono (by omega))
              have q0 : w7.cell? ⟨w.heap.size + 1, 0, none⟩ = some (.int .i64 0) := by rw [hbel7.cell (by simp)]; simp
              have q1 : w7.cell? ⟨w.heap.size + 1, 1, none⟩ = some (.int .i64 0) := by rw [hbel7.cell (by simp)]; simp
              have r0 : w7.frozen? ⟨w.heap.size + 1, 0, none⟩ = false := by rw [hbel7.frozen (by simp)]; simp
              have r1 : w7.frozen? ⟨w.heap.size + 1, 1, none⟩ = false := by rw [hbel7.frozen (by simp)]; simp
              have hp7 : w.heap.size + 1 < w7.heap.size := by omega
              have Hbel7 := Lib.hid hbel7
              clear hbel7 hb7
              go_wp2
              refine bodyPost_ret (v := (.agg #[.int .i64 ((12, (k : Int))).1, .int .i64 ((12, (k : Int))).2])) (res_Fault (by rfl) (by rfl) (cells_set2 (a := (w.alloc (Obj.cells #[v1, .slice ((some ⟨b, off, none⟩)) o.sections.length n2] 40)).alloc (Obj.cells #[.int .i64 0, .int .i64 0] 27)) (B := w.heap.size + 2) (Hbel7.out) (Nat.lt_succ_self _) (by simp; rfl) (by simp; rfl) _ _)) rfl ?_; exact Hret.out _ (((HF.out _ (Hbel7.out)).setCell (p := ⟨w.heap.size + 1, 0, none⟩) (Nat.le_succ _) (.int .i64 ((12, (k : Int))).1)).setCell (p := ⟨w.heap.size + 1, 1, none⟩) (Nat.le_succ _) (.int .i64 ((12, (k : Int))).2))
            have Hgn := Lib.hid hgn
            have hA := Lib.hid (Hst.out.trans (if_neg (by rw [hgn]; simp)))
            clear hgn Hst
            cases had
            rotate_left
            · have hret := HT.out (7, (k : Int)) (by rw [hA.out, if_pos rfl])
              have Hret := Lib.hid hret
              clear hret
              go_wp2_with fail
              refine Name_calls _ _ _ ?_
              rw [Hgn.out]
              go_wp2_with fail
              refine Fault_calls _ _ _ _ (fun w7 hb7 => ?_)
              have hz7 := hb7.size
              have hbel7 := Hbel5.out.trans (hb7.mono (by omega))
              have q0 : w7.cell? ⟨w.heap.size + 1, 0, none⟩ = some (.int .i64 0) := by rw [hbel7.cell (by simp)]; simp
              have q1 : w7.cell? ⟨w.heap.size + 1, 1, none⟩ = some (.int .i64 0) := by rw [hbel7.cell (by simp)]; simp
              have r0 : w7.frozen? ⟨w.heap.size + 1, 0, none⟩ = false := by rw [hbel7.frozen (by simp)]; simp
              have r1 : w7.frozen? ⟨w.heap.size + 1, 1, none⟩ = false := by rw [hbel7.frozen (by simp)]; simp
              have hp7 : w.heap.size + 1 < w7.heap.size := by omega
              have Hbel7 := Lib.hid hbel7
              clear hbel7 hb7
              go_wp2
              refine bodyPost_ret (v := (.agg #[.int .i64 ((7, (k : Int))).1, .int .i64 ((7, (k : Int))).2])) (res_Fault (by rfl) (by rfl) (cells_set2 (a := (w.alloc (Obj.cells #[v1, .slice ((some ⟨b, off, none⟩)) o.sections.length n2] 40)).alloc (Obj.cells #[.int .i64 0, .int .i64 0] 27)) (B := w.heap.size + 2) (Hbel7.out) (Nat.lt_succ_self _) (by simp; rfl) (by simp; rfl) _ _)) rfl ?_; exact Hret.out _ (((HF.out _ (Hbel7.out)).setCell (p := ⟨w.heap.size + 1, 0, none⟩) (Nat.le_succ _) (.int .i64 ((7, (k : Int))).1)).setCell (p := ⟨w.heap.size + 1, 1, none⟩) (Nat.le_succ _) (.int .i64 ((7, (k : Int))).2))
            have hB := Lib.hid (hA.out.trans (if_neg (by simp)))
            have hbw5 := HF.out _ Hbel5.out
            have Hs5 := Lib.hid (HS.out.up hbw5 h0)
            have Hc5 := Lib.hid (H3.out.up hbw5 hbw5.size)
            have Hm5 := Lib.hid (H4.out.up hbw5 hbw5.size)
            clear hA hbw5
            go_wp2_with fail
            refine Name_calls _ _ _ ?_
            rw [Hgn.out]
            go_wp2_with fail
            refine section_calls s _ _ _ Hc5.out Hm5.out Hs5.out _ (fun w8 hb8 => ?_)
            have hz8 := hb8.size
            have hbel8 := Hbel5.out.trans (hb8.mono (by omega))
            have Hbel8 := Lib.hid hbel8
            generalize secF s = e at *
            clear hbel8 hb8 m0 m1 m2 k1 x0 x1 y0 y1
            by_cases he : e = 0
            · have hE := Lib.hid (hB.out.trans (if_neg (by simp [he])))
              have heb : (e != 0) = false := by simp [he]
              clear he hB
              go_wp2
              go_roundg (o.sections.length - (k + 1))
              case measure => omega
              case rel => exact ⟨k + 1, hlt, rfl, by go_num, by rw [← Ht.out, hE.out], Hbel8.out⟩
            · have hret := HT.out (e, (k : Int)) (hB.out.trans (if_pos he))
              have Hret := Lib.hid hret
              have heb : (e != 0) = true := by simp [he]
              clear hret he hB Hbel5
              have Hbel5 := Hbel8
              go_wp2_with fail
              refine Fault_calls _ _ _ _ (fun w7 hb7 => ?_)
              have hz7 := hb7.size
              have hbel7 := Hbel5.out.trans (hb7.mono (by omega))
              have q0 : w7.cell? ⟨w.heap.size + 1, 0, none⟩ = some (.int .i64 0) := by rw [hbel7.cell (by simp)]; simp
              have q1 : w7.cell? ⟨w.heap.size + 1, 1, none⟩ = some (.int .i64 0) := by rw [hbel7.cell (by simp)]; simp
              have r0 : w7.frozen? ⟨w.heap.size + 1, 0, none⟩ = false := by rw [hbel7.frozen (by simp)]; simp
              have r1 : w7.frozen? ⟨w.heap.size + 1, 1, none⟩ = false := by rw [hbel7.frozen (by simp)]; simp
              have hp7 : w.heap.size + 1 < w7.heap.size := by omega
              have Hbel7 := Lib.hid hbel7
              clear hbel7 hb7
              go_wp2
              refine bodyPost_ret (v := (.agg #[.int .i64 ((e, (k : Int))).1, .int .i64 ((e, (k : Int))).2])) (res_Fault (by rfl) (by rfl) (cells_set2 (a := (w.alloc (Obj.cells #[v1, .slice ((some ⟨b, off, none⟩)) o.sections.length n2] 40)).alloc (Obj.cells #[.int .i64 0, .int .i64 0] 27)) (B := w.heap.size + 2) (Hbel7.out) (Nat.lt_succ_self _) (by simp; rfl) (by simp; rfl) _ _)) rfl ?_; exact Hret.out _ (((HF.out _ (Hbel7.out)).setCell (p := ⟨w.heap.size + 1, 0, none⟩) (Nat.le_succ _) (.int .i64 ((e, (k : Int))).1)).setCell (p := ⟨w.heap.size + 1, 1, none⟩) (Nat.le_succ _) (.int .i64 ((e, (k : Int))).2))
        · obtain rfl : k = o.sections.length := by omega
          rw [Nat.sub_self, secsFrom] at Ht
          have Hret : Hid (∀ w', Below w.heap.size w w' → R (.returned (.agg #[.int .i64 ((0, 0)).1, .int .i64 ((0, 0)).2])) w') := by
            have := HR2.out
            rw [← Ht.out] at this
            exact Lib.hid this
          have x0 : wr.cell? ⟨w.heap.size + 1, 0, none⟩ = some (.int .i64 0) := by rw [Hb.out.cell (by simp)]; simp
          have x1 : wr.cell? ⟨w.heap.size + 1, 1, none⟩ = some (.int .i64 0) := by rw [Hb.out.cell (by simp)]; simp
          have y0 : wr.frozen? ⟨w.heap.size + 1, 0, none⟩ = false := by rw [Hb.out.frozen (by simp)]; simp
          have y1 : wr.frozen? ⟨w.heap.size + 1, 1, none⟩ = false := by rw [Hb.out.frozen (by simp)]; simp
          go_wp2
          refine bodyPost_ret (v := (.agg #[.int .i64 ((0, 0)).1, .int .i64 ((0, 0)).2])) (res_Fault (by rfl) (by rfl) (cells_set2 (a := (w.alloc (Obj.cells #[v1, .slice (A2) o.sections.length n2] 40)).alloc (Obj.cells #[.int .i64 0, .int .i64 0] 27)) (B := w.heap.size + 2) (Hb.out) (Nat.lt_succ_self _) (by simp; rfl) (by simp; rfl) _ _)) rfl ?_; exact Hret.out _ (((HF.out _ (Hb.out)).setCell (p := ⟨w.heap.size + 1, 0, none⟩) (Nat.le_succ _) (.int .i64 ((0, 0)).1)).setCell (p := ⟨w.heap.size + 1, 1, none⟩) (Nat.le_succ _) (.int .i64 ((0, 0)).2))
end Go.Proofs.YtcakodemngchpaaGreatDoor

/- The document's answer: which section has a name. -/
namespace Go.Proofs.YtcakodemngchpaaGreatDoor
open Go.RowKit
set_option linter.unusedSimpArgs false
set_option linter.unusedVariables false

end Go.Proofs.YtcakodemngchpaaGreatDoor

/- The document's answer: what is wrong with an object. -/
namespace Go.Proofs.YtcakodemngchpaaGreatDoor
open Go.RowKit
set_option linter.unusedSimpArgs false
set_option linter.unusedVariables false

end Go.Proofs.YtcakodemngchpaaGreatDoor
