/- object.Check: what is wrong with an object. The document's answer: which section has a name. The document's answer: what is wrong with an object. -/
import Derived.Test.YtegnemfjcmhncaaDoorBase
import Derived.Test.YtegnemfjcmhncaaDoorRows
import Derived.IntWalk
import Derived.Deep.LoopGhost
import Derived.Deep.CutBlock
import Derived.Deep.DeepCutAuto
import Derived.Test.YtegnemfjcmhncaaDoorSecA
/- object.Check: what is wrong with an object. -/
namespace Go.Proofs.YtegnemfjcmhncaaDoor
open Go.RowKit
set_option linter.unusedSimpArgs false
set_option linter.unusedVariables false

theorem globFrom_zero (l : List Global) : ∀ (f i : Nat) (sum : Int), (globFrom l f i sum).1 = 0 → globFrom l f i sum = (0, 0)
  | 0, i, sum, h => rfl
  | f + 1, i, sum, h => by
    rw [globFrom] at h ⊢
    cases hg : l[i]? with
    | none => rfl
    | some g =>
      rw [hg] at h
      simp only [] at h ⊢
      by_cases c1 : goodName g.name = false
      · rw [if_pos c1] at h; simp at h
      rw [if_neg c1] at h ⊢
      by_cases c2 : (l.take i).any (fun o => decide (o.name = g.name)) = true
      · rw [if_pos c2] at h; simp at h
      rw [if_neg c2] at h ⊢
      by_cases c3 : g.size < 1 ∨ 200 < g.size
      · rw [if_pos c3] at h; simp at h
      rw [if_neg c3] at h ⊢
      by_cases c4 : g.size < (g.init.length : Int)
      · rw [if_pos c4] at h; simp at h
      rw [if_neg c4] at h ⊢
      by_cases c5 : 200 < sum + g.size
      · rw [if_pos c5] at h; simp at h
      rw [if_neg c5] at h ⊢
      exact globFrom_zero l f _ _ h
theorem globFault_zero (l : List Global) (h : (globFault l).1 = 0) : globFault l = (0, 0) := by
  unfold globFault at h ⊢
  split
  · rename_i hn
    rw [if_pos hn] at h
    simp at h
  · rename_i hn
    rw [if_neg hn] at h
    exact globFrom_zero l _ _ _ h
theorem secsFrom_step {o : Object} {k : Nat} {s : Section} (h : o.sections[k]? = some s) : secsFrom o (o.sections.length - k) k =
    if goodName s.name = false then (12, (k : Int))
    else if (hasG o.globals s.name || hasS (o.sections.take k) s.name) = true then (7, (k : Int))
    else if secF s ≠ 0 then (secF s, (k : Int))
    else secsFrom o (o.sections.length - (k + 1)) (k + 1) := by
  have hk := (List.getElem?_eq_some_iff.1 h).1
  rw [show o.sections.length - k = (o.sections.length - (k + 1)) + 1 from by omega, secsFrom, h]
  rfl

set_option maxRecDepth 100000 in
set_option maxHeartbeats 4000000 in
theorem objCheck_calls (o : Object) (v1 v2 : Value) (w : World) (h1 : rpGlobal.SL w w.heap.size o.globals v1) (h2 : rpSection.SL w w.heap.size o.sections v2) (hS : Shapes w) (R : Ending → World → Prop)
    (hR : ∀ w', Below w.heap.size w w' → R (.returned (.agg #[.int .i64 (objFault o).1, .int .i64 (objFault o).2])) w') :
    Calls Tryd.prog 102 #[.agg #[v1, v2]] w R := by
  have h0 := hS.1
  obtain ⟨A2, n2, rfl, hm2, hcap2, h2⟩ := h2.cases_
  have HS := Lib.hid hS
  have HR := Lib.hid hR
  have H1 := Lib.hid h1
  have H2 := Lib.hid h2
  have hbb : Below w.heap.size w ((w.alloc (Obj.cells #[v1, .slice A2 o.sections.length n2] 27)).alloc (Obj.cells #[.int .i64 0, .int .i64 0] 36)) := bl0
  have hF : ∀ wr, Below (w.heap.size + 2) ((w.alloc (Obj.cells #[v1, .slice A2 o.sections.length n2] 27)).alloc (Obj.cells #[.int .i64 0, .int .i64 0] 36)) wr → Below w.heap.size w wr := fun wr h => hbb.trans (h.mono (by omega))
  have HF := Lib.hid hF
  have Hbb := Lib.hid hbb
  clear hS hR h1 h2 hF hbb
  go_enter Tryd.func102, Tryd.ntmps102
  go_wp2_with fail
  refine Globals_calls v1 o.globals _ (by simpa using H1.out.up (B' := w.heap.size + 2) Hbb.out (by omega)) _ (fun w1 n hb1 => ?_)
  have hz1 : w.heap.size + 2 ≤ w1.heap.size := by have := hb1.size; simpa using this
  have hbel1 : Below (w.heap.size + 2) ((w.alloc (Obj.cells #[v1, .slice A2 o.sections.length n2] 27)).alloc (Obj.cells #[.int .i64 0, .int .i64 0] 36)) w1 := by simpa using hb1
  have b0 : w1.cell? ⟨w.heap.size, 0, none⟩ = some v1 := by rw [hbel1.cell (by simp)]; simp
  have b1 : w1.cell? ⟨w.heap.size, 1, none⟩ = some (.slice A2 o.sections.length n2) := by rw [hbel1.cell (by simp)]; simp
  have f0 : w1.cell? ⟨w.heap.size + 1, 0, none⟩ = some (.int .i64 0) := by rw [hbel1.cell (by simp)]; simp
  have f1 : w1.cell? ⟨w.heap.size + 1, 1, none⟩ = some (.int .i64 0) := by rw [hbel1.cell (by simp)]; simp
  have g0 : w1.frozen? ⟨w.heap.size + 1, 0, none⟩ = false := by rw [hbel1.frozen (by simp)]; simp
  have g1 : w1.frozen? ⟨w.heap.size + 1, 1, none⟩ = false := by rw [hbel1.frozen (by simp)]; simp
  have Hbel1 := Lib.hid hbel1
  have hp0 : w.heap.size < w1.heap.size := by omega
  have hp1 : w.heap.size + 1 < w1.heap.size := by omega
  have hfz := globFault_zero o.globals
  have hof : objFault o = if (globFault o.globals).1 ≠ 0 then globFault o.globals else if 40 < o.sections.length then (2, 0) else secsFrom o o.sections.length 0 := rfl
  generalize globFault o.globals = F at *
  obtain ⟨c, a⟩ := F
  simp only [] at hfz hof ⊢
  have Hof := Lib.hid hof
  clear hb1 hbel1 hof
  by_cases hc : c = 0
  rotate_left
  · have hret := HR.out
    rw [Hof.out, if_pos hc] at hret
    have Hret := Lib.hid hret
    have hq : ∀ w, (binOp .neq 36 (.agg #[.int .i64 c, .int .i64 a]) (.agg #[.int .i64 0, .int .i64 0])).run Tryd.prog w = .ok (.bool true) w := fun w => by
      rw [neq_Fault]
      simp [hc]
    clear hfz hret hc
    go_wp2
    refine bodyPost_ret (v := (.agg #[.int .i64 ((c, a)).1, .int .i64 ((c, a)).2])) (res_Fault (by rfl) (by rfl) (cells_alloc2 (cells_set2 (a := (w.alloc (Obj.cells #[v1, .slice (A2) o.sections.length n2] 27)).alloc (Obj.cells #[.int .i64 0, .int .i64 0] 36)) (B := w.heap.size + 2) (Hbel1.out) (Nat.lt_succ_self _) (by simp; rfl) (by simp; rfl) _ _) _)) rfl ?_; exact Hret.out _ ((((HF.out _ (Hbel1.out)).setCell (p := ⟨w.heap.size + 1, 0, none⟩) (Nat.le_succ _) (.int .i64 ((c, a)).1)).setCell (p := ⟨w.heap.size + 1, 1, none⟩) (Nat.le_succ _) (.int .i64 ((c, a)).2)).alloc (by simp [World.setCell]; omega) _)
  · have hq : ∀ w, (binOp .neq 36 (.agg #[.int .i64 0, .int .i64 0]) (.agg #[.int .i64 0, .int .i64 0])).run Tryd.prog w = .ok (.bool false) w := fun w => neq_Fault 0 0 0 0 w
    have hca := hfz hc
    simp only [Prod.mk.injEq] at hca
    obtain ⟨rfl, rfl⟩ := hca
    clear hfz hc
    rw [if_neg (by simp)] at Hof
    by_cases h40 : 40 < o.sections.length
    · have hret := HR.out
      rw [Hof.out, if_pos h40] at hret
      have Hret := Lib.hid hret
      have h40i : (40 : Int) < (o.sections.length : Int) := by omega
      clear hret h40
      go_wp2_with fail
      refine Fault_calls _ _ _ _ (fun w2 hb2 => ?_)
      have hz2 : w1.heap.size < w2.heap.size := by have := hb2.size; simp at this; omega
      have hbel2 : Below (w.heap.size + 2) ((w.alloc (Obj.cells #[v1, .slice A2 o.sections.length n2] 27)).alloc (Obj.cells #[.int .i64 0, .int .i64 0] 36)) w2 := (Hbel1.out.alloc (by omega) _).trans (hb2.mono (by simp; omega))
      have ff0 : w2.cell? ⟨w.heap.size + 1, 0, none⟩ = some (.int .i64 0) := by rw [hbel2.cell (by simp)]; simp
      have ff1 : w2.cell? ⟨w.heap.size + 1, 1, none⟩ = some (.int .i64 0) := by rw [hbel2.cell (by simp)]; simp
      have gg0 : w2.frozen? ⟨w.heap.size + 1, 0, none⟩ = false := by rw [hbel2.frozen (by simp)]; simp
      have gg1 : w2.frozen? ⟨w.heap.size + 1, 1, none⟩ = false := by rw [hbel2.frozen (by simp)]; simp
      have hp2 : w.heap.size + 1 < w2.heap.size := by omega
      have Hbel2 := Lib.hid hbel2
      clear hbel2 hb2
      go_wp2
      refine bodyPost_ret (v := (.agg #[.int .i64 ((2, 0)).1, .int .i64 ((2, 0)).2])) (res_Fault (by rfl) (by rfl) (cells_set2 (a := (w.alloc (Obj.cells #[v1, .slice (A2) o.sections.length n2] 27)).alloc (Obj.cells #[.int .i64 0, .int .i64 0] 36)) (B := w.heap.size + 2) (Hbel2.out) (Nat.lt_succ_self _) (by simp; rfl) (by simp; rfl) _ _)) rfl ?_; exact Hret.out _ (((HF.out _ (Hbel2.out)).setCell (p := ⟨w.heap.size + 1, 0, none⟩) (Nat.le_succ _) (.int .i64 ((2, 0)).1)).setCell (p := ⟨w.heap.size + 1, 1, none⟩) (Nat.le_succ _) (.int .i64 ((2, 0)).2))
    · rw [if_neg h40] at Hof
      have HR2 : Hid (∀ w', Below w.heap.size w w' → R (.returned (.agg #[.int .i64 (secsFrom o o.sections.length 0).1, .int .i64 (secsFrom o o.sections.length 0).2])) w') := by
        have := HR.out
        rw [Hof.out] at this
        exact Lib.hid this
      have h40i : ¬ (40 : Int) < (o.sections.length : Int) := by omega
      clear HR Hof h40
      go_wp2
      go_loopg [5, 6, 7, 8, 27, 46, 51] o.sections.length (fun g s5 s6 s7 s8 i s46 s51 wr => ∃ k : Nat, k ≤ o.sections.length ∧ g = o.sections.length - k ∧ i = .int .i64 k ∧ secsFrom o (o.sections.length - k) k = secsFrom o o.sections.length 0 ∧ Below (w.heap.size + 2) ((w.alloc (Obj.cells #[v1, .slice A2 o.sections.length n2] 27)).alloc (Obj.cells #[.int .i64 0, .int .i64 0] 36)) wr)
      case atStart => exact ⟨0, Nat.zero_le _, rfl, rfl, rfl, Hbel1.out.alloc (by omega) _⟩
      case round =>
        obtain ⟨k, hk, rfl, rfl, ht, hbel⟩ := hrel
        have Ht := Lib.hid ht
        have Hb := Lib.hid hbel
        have hz := hbel.size
        simp at hz
        have i1 : (0 : Int) ≤ (k : Int) := Int.natCast_nonneg _
        have hbw := HF.out _ hbel
        have Hbw := Lib.hid hbw
        have c0 : wr.cell? ⟨w.heap.size, 0, none⟩ = some v1 := by rw [hbel.cell (by simp)]; simp
        have c1 : wr.cell? ⟨w.heap.size, 1, none⟩ = some (.slice A2 o.sections.length n2) := by rw [hbel.cell (by simp)]; simp
        have hzw : w.heap.size < wr.heap.size := by omega
        have hzw1 : w.heap.size + 1 < wr.heap.size := by omega
        clear ht hbel b0 b1 f0 f1 g0 g1
        by_cases hlt : k < o.sections.length
        · obtain ⟨b, off, s, w3, w4, rfl, hb, e, h3, h4, q0, q1, q2⟩ := H2.out.section_at hlt
          have p0 := (hbw.cell (p := ⟨b, off + k * 3, none⟩) hb).trans q0
          have p1 := (hbw.cell (p := ⟨b, off + k * 3 + 1, none⟩) hb).trans q1
          have p2 := (hbw.cell (p := ⟨b, off + k * 3 + 2, none⟩) hb).trans q2
          have Hst := Lib.hid (secsFrom_step e)
          have i2 : (k : Int) < (o.sections.length : Int) := by omega
          have hkc : (k : Int) ≤ (n2 : Int) := by omega
          have hb' : b < wr.heap.size := by omega
          obtain ⟨A3, n3, rfl, hm3, hcap3, h3⟩ := h3.cases_
          obtain ⟨A4, n4, rfl, hm4, hcap4, h4⟩ := h4.cases_
          have H3 := Lib.hid h3
          have H4 := Lib.hid h4
          have HT : Hid (∀ f : Int × Int, secsFrom o (o.sections.length - k) k = f → ∀ w', Below w.heap.size w w' → R (.returned (.agg #[.int .i64 (f).1, .int .i64 (f).2])) w') := Lib.hid fun f e => by
            subst e
            rw [Ht.out]
            exact HR2.out
          clear q0 q1 q2 e h3 h4 hbw
          -- the lists in the world behind the new variable
          have hSG := Lib.hid (H1.out.up (B' := wr.heap.size + 1) (Hbw.out.alloc (by omega) (Obj.cells #[.string s.name, .slice A3 s.code.length n3, .slice A4 s.mends.length n4] 58)) (by omega))
          have hSS := Lib.hid ((H2.out.take_ (k := k) (by omega)).up (B' := wr.heap.size + 1) (Hbw.out.alloc (by omega) (Obj.cells #[.string s.name, .slice A3 s.code.length n3, .slice A4 s.mends.length n4] 58)) (by omega))
          go_upto_region 9 with fail
          go_cut [7] (fun s7 wx => s7 = .bool (hasG o.globals s.name || hasS (o.sections.take k) s.name) ∧ Below (wr.heap.size + 1) (wr.alloc (Obj.cells #[.string s.name, .slice A3 s.code.length n3, .slice A4 s.mends.length n4] 58)) wx)
          case first =>
            go_wp2_with fail
            refine containsGO_calls v1 o.globals s.name wr.heap.size _ (by simpa using hSG.out) (by simp) _ (fun w5 hb5 => ?_)
            have hz5 : wr.heap.size < w5.heap.size := by have := hb5.size; simp at this; omega
            have hbel5 : Below (w.heap.size + 2) ((w.alloc (Obj.cells #[v1, .slice (some ⟨b, off, none⟩) o.sections.length n2] 27)).alloc (Obj.cells #[.int .i64 0, .int .i64 0] 36)) w5 := (Hb.out.alloc (by omega) _).trans (hb5.mono (by simp; omega))
            have m0 : w5.cell? ⟨wr.heap.size, 0, none⟩ = some (.string s.name) := by rw [hb5.cell (by simp)]; simp
            have k1 : w5.cell? ⟨w.heap.size, 1, none⟩ = some (.slice (some ⟨b, off, none⟩) o.sections.length n2) := by rw [hbel5.cell (by simp)]; simp
            have hp6 : w.heap.size < w5.heap.size := by omega
            have hS5 := Lib.hid (hSS.out.up (B' := w5.heap.size) (by simpa using hb5) (by omega))
            have Hb5 : Hid (Below (wr.heap.size + 1) (wr.alloc (Obj.cells #[.string s.name, .slice A3 s.code.length n3, .slice A4 s.mends.length n4] 58)) w5) := Lib.hid (by simpa using hb5)
            clear hbel5 hb5
            obtain ⟨gg, hgg⟩ : ∃ gg, gg = hasG o.globals s.name := ⟨_, rfl⟩
            rw [← hgg]
            have Hgg := Lib.hid hgg
            clear hgg
            cases gg
            · go_wp2_with fail
              refine containsSO_calls _ (o.sections.take k) s.name wr.heap.size _ hS5.out m0 _ (fun w6 hb6 => ?_)
              have Hb6 := Lib.hid (Hb5.out.trans (hb6.mono (by omega)))
              clear hb6
              go_wp2
              go_meet
              exact ⟨by rw [← Hgg.out, Bool.false_or], Hb6.out⟩
            · go_wp2
              go_meet
              exact ⟨by rw [← Hgg.out, Bool.true_or], Hb5.out⟩
          case rest =>
            rename World => w5
            obtain ⟨rfl, hb5⟩ := hcut
            have hz5 : wr.heap.size < w5.heap.size := by have := hb5.size; simp at this; omega
            have hbel5 : Below (w.heap.size + 2) ((w.alloc (Obj.cells #[v1, .slice (some ⟨b, off, none⟩) o.sections.length n2] 27)).alloc (Obj.cells #[.int .i64 0, .int .i64 0] 36)) w5 := (Hb.out.alloc (by omega) _).trans (hb5.mono (by simp; omega))
            have m0 : w5.cell? ⟨wr.heap.size, 0, none⟩ = some (.string s.name) := by rw [hb5.cell (by simp)]; simp
            have m1 : w5.cell? ⟨wr.heap.size, 1, none⟩ = some (.slice A3 s.code.length n3) := by rw [hb5.cell (by simp)]; simp
            have m2 : w5.cell? ⟨wr.heap.size, 2, none⟩ = some (.slice A4 s.mends.length n4) := by rw [hb5.cell (by simp)]; simp
            have k1 : w5.cell? ⟨w.heap.size, 1, none⟩ = some (.slice (some ⟨b, off, none⟩) o.sections.length n2) := by rw [hbel5.cell (by simp)]; simp
            have x0 : w5.cell? ⟨w.heap.size + 1, 0, none⟩ = some (.int .i64 0) := by rw [hbel5.cell (by simp)]; simp
            have x1 : w5.cell? ⟨w.heap.size + 1, 1, none⟩ = some (.int .i64 0) := by rw [hbel5.cell (by simp)]; simp
            have y0 : w5.frozen? ⟨w.heap.size + 1, 0, none⟩ = false := by rw [hbel5.frozen (by simp)]; simp
            have y1 : w5.frozen? ⟨w.heap.size + 1, 1, none⟩ = false := by rw [hbel5.frozen (by simp)]; simp
            have hp5 : w.heap.size + 1 < w5.heap.size := by omega
            have hp6 : w.heap.size < w5.heap.size := by omega
            have Hbel5 := Lib.hid hbel5
            clear hbel5 hb5 hSG hSS
            obtain ⟨had, hhad⟩ : ∃ had, had = (hasG o.globals s.name || hasS (o.sections.take k) s.name) := ⟨_, rfl⟩
            rw [← hhad] at Hst ⊢
            clear hhad
            cases hgn : goodName s.name
            · have hret := HT.out (12, (k : Int)) (by rw [Hst.out, if_pos hgn])
              have Hret := Lib.hid hret
              have Hgn := Lib.hid hgn
              clear hgn hret
              go_wp2_with fail
              refine Name_calls _ _ _ ?_
              rw [Hgn.out]
              go_wp2_with fail
              refine Fault_calls _ _ _ _ (fun w7 hb7 => ?_)
              have hz7 := hb7.size
              have hbel7 := Hbel5.out.trans (hb7.mono (by omega))
              have q0 : w7.cell? ⟨w.heap.size + 1, 0, none⟩ = some (.int .i64 0) := by rw [hbel7.cell (by simp)]; simp
              have q1 : w7.cell? ⟨w.heap.size + 1, 1, none⟩ = some (.int .i64 0) := by rw [hbel7.cell (by simp)]; simp
              have r0 : w7.frozen? ⟨w.heap.size + 1, 0, none⟩ = false := by rw [hbel7.frozen (by simp)]; simp
              have r1 : w7.frozen? ⟨w.heap.size + 1, 1, none⟩ = false := by rw [hbel7.frozen (by simp)]; simp
              have hp7 : w.heap.size + 1 < w7.heap.size := by omega
              have Hbel7 := Lib.hid hbel7
              clear hbel7 hb7
              go_wp2
              refine bodyPost_ret (v := (.agg #[.int .i64 ((12, (k : Int))).1, .int .i64 ((12, (k : Int))).2])) (res_Fault (by rfl) (by rfl) (cells_set2 (a := (w.alloc (Obj.cells #[v1, .slice ((some ⟨b, off, none⟩)) o.sections.length n2] 27)).alloc (Obj.cells #[.int .i64 0, .int .i64 0] 36)) (B := w.heap.size + 2) (Hbel7.out) (Nat.lt_succ_self _) (by simp; rfl) (by simp; rfl) _ _)) rfl ?_; exact Hret.out _ (((HF.out _ (Hbel7.out)).setCell (p := ⟨w.heap.size + 1, 0, none⟩) (Nat.le_succ _) (.int .i64 ((12, (k : Int))).1)).setCell (p := ⟨w.heap.size + 1, 1, none⟩) (Nat.le_succ _) (.int .i64 ((12, (k : Int))).2))
            have Hgn := Lib.hid hgn
            have hA := Lib.hid (Hst.out.trans (if_neg (by rw [hgn]; simp)))
            clear hgn Hst
            cases had
            rotate_left
            · have hret := HT.out (7, (k : Int)) (by rw [hA.out, if_pos rfl])
              have Hret := Lib.hid hret
              clear hret
              go_wp2_with fail
              refine Name_calls _ _ _ ?_
              rw [Hgn.out]
              go_wp2_with fail
              refine Fault_calls _ _ _ _ (fun w7 hb7 => ?_)
              have hz7 := hb7.size
              have hbel7 := Hbel5.out.trans (hb7.mono (by omega))
              have q0 : w7.cell? ⟨w.heap.size + 1, 0, none⟩ = some (.int .i64 0) := by rw [hbel7.cell (by simp)]; simp
              have q1 : w7.cell? ⟨w.heap.size + 1, 1, none⟩ = some (.int .i64 0) := by rw [hbel7.cell (by simp)]; simp
              have r0 : w7.frozen? ⟨w.heap.size + 1, 0, none⟩ = false := by rw [hbel7.frozen (by simp)]; simp
              have r1 : w7.frozen? ⟨w.heap.size + 1, 1, none⟩ = false := by rw [hbel7.frozen (by simp)]; simp
              have hp7 : w.heap.size + 1 < w7.heap.size := by omega
              have Hbel7 := Lib.hid hbel7
              clear hbel7 hb7
              go_wp2
              refine bodyPost_ret (v := (.agg #[.int .i64 ((7, (k : Int))).1, .int .i64 ((7, (k : Int))).2])) (res_Fault (by rfl) (by rfl) (cells_set2 (a := (w.alloc (Obj.cells #[v1, .slice ((some ⟨b, off, none⟩)) o.sections.length n2] 27)).alloc (Obj.cells #[.int .i64 0, .int .i64 0] 36)) (B := w.heap.size + 2) (Hbel7.out) (Nat.lt_succ_self _) (by simp; rfl) (by simp; rfl) _ _)) rfl ?_; exact Hret.out _ (((HF.out _ (Hbel7.out)).setCell (p := ⟨w.heap.size + 1, 0, none⟩) (Nat.le_succ _) (.int .i64 ((7, (k : Int))).1)).setCell (p := ⟨w.heap.size + 1, 1, none⟩) (Nat.le_succ _) (.int .i64 ((7, (k : Int))).2))
            have hB := Lib.hid (hA.out.trans (if_neg (by simp)))
            have hbw5 := HF.out _ Hbel5.out
            have Hs5 := Lib.hid (HS.out.up hbw5 h0)
            have Hc5 := Lib.hid (H3.out.up hbw5 hbw5.size)
            have Hm5 := Lib.hid (H4.out.up hbw5 hbw5.size)
            clear hA hbw5
            go_wp2_with fail
            refine Name_calls _ _ _ ?_
            rw [Hgn.out]
            go_wp2_with fail
            refine section_calls s _ _ _ Hc5.out Hm5.out Hs5.out _ (fun w8 hb8 => ?_)
            have hz8 := hb8.size
            have hbel8 := Hbel5.out.trans (hb8.mono (by omega))
            have Hbel8 := Lib.hid hbel8
            generalize secF s = e at *
            clear hbel8 hb8 m0 m1 m2 k1 x0 x1 y0 y1
            by_cases he : e = 0
            · have hE := Lib.hid (hB.out.trans (if_neg (by simp [he])))
              have heb : (e != 0) = false := by simp [he]
              clear he hB
              go_wp2
              go_roundg (o.sections.length - (k + 1))
              case measure => omega
              case rel => exact ⟨k + 1, hlt, rfl, by go_num, by rw [← Ht.out, hE.out], Hbel8.out⟩
            · have hret := HT.out (e, (k : Int)) (hB.out.trans (if_pos he))
              have Hret := Lib.hid hret
              have heb : (e != 0) = true := by simp [he]
              clear hret he hB Hbel5
              have Hbel5 := Hbel8
              go_wp2_with fail
              refine Fault_calls _ _ _ _ (fun w7 hb7 => ?_)
              have hz7 := hb7.size
              have hbel7 := Hbel5.out.trans (hb7.mono (by omega))
              have q0 : w7.cell? ⟨w.heap.size + 1, 0, none⟩ = some (.int .i64 0) := by rw [hbel7.cell (by simp)]; simp
              have q1 : w7.cell? ⟨w.heap.size + 1, 1, none⟩ = some (.int .i64 0) := by rw [hbel7.cell (by simp)]; simp
              have r0 : w7.frozen? ⟨w.heap.size + 1, 0, none⟩ = false := by rw [hbel7.frozen (by simp)]; simp
              have r1 : w7.frozen? ⟨w.heap.size + 1, 1, none⟩ = false := by rw [hbel7.frozen (by simp)]; simp
              have hp7 : w.heap.size + 1 < w7.heap.size := by omega
              have Hbel7 := Lib.hid hbel7
              clear hbel7 hb7
              go_wp2
              refine bodyPost_ret (v := (.agg #[.int .i64 ((e, (k : Int))).1, .int .i64 ((e, (k : Int))).2])) (res_Fault (by rfl) (by rfl) (cells_set2 (a := (w.alloc (Obj.cells #[v1, .slice ((some ⟨b, off, none⟩)) o.sections.length n2] 27)).alloc (Obj.cells #[.int .i64 0, .int .i64 0] 36)) (B := w.heap.size + 2) (Hbel7.out) (Nat.lt_succ_self _) (by simp; rfl) (by simp; rfl) _ _)) rfl ?_; exact Hret.out _ (((HF.out _ (Hbel7.out)).setCell (p := ⟨w.heap.size + 1, 0, none⟩) (Nat.le_succ _) (.int .i64 ((e, (k : Int))).1)).setCell (p := ⟨w.heap.size + 1, 1, none⟩) (Nat.le_succ _) (.int .i64 ((e, (k : Int))).2))
        · obtain rfl : k = o.sections.length := by omega
          rw [Nat.sub_self, secsFrom] at Ht
          have Hret : Hid (∀ w', Below w.heap.size w w' → R (.returned (.agg #[.int .i64 ((0, 0)).1, .int .i64 ((0, 0)).2])) w') := by
            have := HR2.out
            rw [← Ht.out] at this
            exact Lib.hid this
          have x0 : wr.cell? ⟨w.heap.size + 1, 0, none⟩ = some (.int .i64 0) := by rw [Hb.out.cell (by simp)]; simp
          have x1 : wr.cell? ⟨w.heap.size + 1, 1, none⟩ = some (.int .i64 0) := by rw [Hb.out.cell (by simp)]; simp
          have y0 : wr.frozen? ⟨w.heap.size + 1, 0, none⟩ = false := by rw [Hb.out.frozen (by simp)]; simp
          have y1 : wr.frozen? ⟨w.heap.size + 1, 1, none⟩ = false := by rw [Hb.out.frozen (by simp)]; simp
          go_wp2
          refine bodyPost_ret (v := (.agg #[.int .i64 ((0, 0)).1, .int .i64 ((0, 0)).2])) (res_Fault (by rfl) (by rfl) (cells_set2 (a := (w.alloc (Obj.cells #[v1, .slice (A2) o.sections.length n2] 27)).alloc (Obj.cells #[.int .i64 0, .int .i64 0] 36)) (B := w.heap.size + 2) (Hb.out) (Nat.lt_succ_self _) (by simp; rfl) (by simp; rfl) _ _)) rfl ?_; exact Hret.out _ (((HF.out _ (Hb.out)).setCell (p := ⟨w.heap.size + 1, 0, none⟩) (Nat.le_succ _) (.int .i64 ((0, 0)).1)).setCell (p := ⟨w.heap.size + 1, 1, none⟩) (Nat.le_succ _) (.int .i64 ((0, 0)).2))
end Go.Proofs.YtegnemfjcmhncaaDoor

/- The document's answer: which section has a name. -/
namespace Go.Proofs.YtegnemfjcmhncaaDoor
open Go.RowKit
set_option linter.unusedSimpArgs false
set_option linter.unusedVariables false

/-- The first section of a name; -1: none. -/
def FirstS (l : List Section) (nm : ByteArray) (r : Int) : Prop := (r = -1 ∧ hasS l nm = false) ∨ ∃ k : Nat, r = (k : Int) ∧ k < l.length ∧ hasS (l.take k) nm = false ∧ hasS (l.take (k + 1)) nm = true
theorem hasS_take {l : List Section} {nm : ByteArray} {i j : Nat} (h : i ≤ j) (ht : hasS (l.take i) nm = true) : hasS (l.take j) nm = true := by
  have := any_of_take (fun x : Section => decide (x.name = nm)) (l := l.take j) (k := i) (by rw [List.take_take, Nat.min_eq_left h]; exact ht)
  exact this
theorem FirstS.lt {l : List Section} {nm : ByteArray} {r : Int} (h : FirstS l nm r) {i : Nat} {s : Section} (hs : l[i]? = some s) (hn : s.name = nm) : decide (r < (i : Int)) = hasS (l.take i) nm := by
  have hi := (List.getElem?_eq_some_iff.1 hs).1
  have h1 : hasS (l.take (i + 1)) nm = true := by
    have := any_step (fun x : Section => decide (x.name = nm)) hs
    unfold hasS
    rw [this, hn]
    simp
  rcases h with ⟨rfl, hno⟩ | ⟨k, rfl, hk, hno, hyes⟩
  · have h2 := hasS_take (l := l) (nm := nm) (i := i + 1) (j := l.length) (by omega) h1
    rw [List.take_length, hno] at h2
    cases h2
  · rcases Nat.lt_or_ge k i with hlt | hge
    · rw [hasS_take (i := k + 1) (j := i) hlt hyes]
      exact decide_eq_true (by omega)
    · cases hh : hasS (l.take i) nm
      · exact decide_eq_false (by omega)
      · rw [hasS_take (i := i) (j := k) hge hh] at hno
        cases hno
theorem FirstS.has {l : List Section} {nm : ByteArray} {r : Int} (h : FirstS l nm r) : decide ((0 : Int) ≤ r) = hasS l nm := by
  rcases h with ⟨rfl, hno⟩ | ⟨k, rfl, hk, hno, hyes⟩
  · rw [hno]; rfl
  · have h2 := hasS_take (l := l) (nm := nm) (i := k + 1) (j := l.length) (by omega) hyes
    rw [List.take_length] at h2
    rw [h2]
    exact decide_eq_true (by omega)

end Go.Proofs.YtegnemfjcmhncaaDoor

/- The document's answer: what is wrong with an object. -/
namespace Go.Proofs.YtegnemfjcmhncaaDoor
open Go.RowKit
set_option linter.unusedSimpArgs false
set_option linter.unusedVariables false

end Go.Proofs.YtegnemfjcmhncaaDoor
