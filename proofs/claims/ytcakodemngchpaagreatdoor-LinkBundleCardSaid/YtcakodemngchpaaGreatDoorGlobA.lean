/- Names: core.Name and the document's GoodName. machine.Globals. The document's answer on globals. -/
import Derived.Test.YtcakodemngchpaaGreatDoorBase
import Derived.Test.YtcakodemngchpaaGreatDoorRows
import Derived.IntWalk
import Derived.Deep.LoopGhost
import Derived.Deep.CutBlock
import Derived.Deep.DeepCutAuto
import Derived.Test.YtcakodemngchpaaGreatDoorPlainA
import Derived.Test.YtcakodemngchpaaGreatDoorReadB
import Derived.Test.YtcakodemngchpaaGreatDoorReadC
/- Names: core.Name and the document's GoodName. -/
namespace Go.Proofs.YtcakodemngchpaaGreatDoor
open Go.RowKit
set_option linter.unusedSimpArgs false
set_option linter.unusedVariables false

theorem nameFrom_step {s : ByteArray} {k : Nat} (h : k < s.size) : nameFrom s (s.size - k) k = (letterOk k s[k] && nameFrom s (s.size - (k + 1)) (k + 1)) := by
  rw [show s.size - k = (s.size - (k + 1)) + 1 from by omega, nameFrom, byte_get h]

set_option maxRecDepth 100000 in
set_option maxHeartbeats 1000000 in
theorem Name_calls (s : ByteArray) (w : World) (R : Ending → World → Prop) (hR : R (.returned (.bool (goodName s))) w) :
    Calls Tryz.prog 57 #[.string s] w R := by
  by_cases h1 : s.size < 1
  · have HR : Hid (R (.returned (.bool false)) w) := by
      rw [show goodName s = false from by rw [goodName, Bool.and_eq_false_iff]; left; simp; omega] at hR
      exact Lib.hid hR
    clear hR
    have h1i : (s.size : Int) < 1 := by omega
    clear h1
    go_enter Tryz.func57, Tryz.ntmps57
    go_wp2
    exact HR.out
  by_cases h2 : 12 < s.size
  · have HR : Hid (R (.returned (.bool false)) w) := by
      rw [show goodName s = false from by rw [goodName, Bool.and_eq_false_iff]; left; simp; omega] at hR
      exact Lib.hid hR
    clear hR
    have h1i : ¬ (s.size : Int) < 1 := by omega
    have h2i : (12 : Int) < (s.size : Int) := by omega
    clear h1 h2
    go_enter Tryz.func57, Tryz.ntmps57
    go_wp2
    exact HR.out
  have HR : Hid (R (.returned (.bool (nameFrom s s.size 0))) w) := by
    rw [show goodName s = nameFrom s s.size 0 from by rw [goodName, show decide (1 ≤ s.size ∧ s.size ≤ 12) = true from by simp; omega, Bool.true_and]] at hR
    exact Lib.hid hR
  clear hR
  have h1i : ¬ (s.size : Int) < 1 := by omega
  have h2i : ¬ (12 : Int) < (s.size : Int) := by omega
  go_enter Tryz.func57, Tryz.ntmps57
  go_wp2
  go_loopg [3, 4, 15] s.size (fun g j c i wr => ∃ k : Nat, k ≤ s.size ∧ g = s.size - k ∧ i = .int .i64 k ∧ nameFrom s (s.size - k) k = nameFrom s s.size 0 ∧ wr = w)
  case atStart => exact ⟨0, Nat.zero_le _, rfl, rfl, rfl, rfl⟩
  case round =>
    obtain ⟨k, hk, rfl, rfl, ht, rfl⟩ := hrel
    have Ht := Lib.hid ht
    clear ht
    by_cases hlt : k < s.size
    · have i1 : (0 : Int) ≤ (k : Int) := Int.natCast_nonneg _
      have i2 : (k : Int) < (s.size : Int) := by omega
      have Hs := Lib.hid (nameFrom_step hlt)
      have hlo : Hid (letterOk k s[k] = decide ((97 ≤ s[k].toNat ∧ s[k].toNat ≤ 122) ∨ (65 ≤ s[k].toNat ∧ s[k].toNat ≤ 90) ∨ s[k].toNat = 95 ∨ (0 < k ∧ 48 ≤ s[k].toNat ∧ s[k].toNat ≤ 57))) := Lib.hid rfl
      have hyes : Hid (letterOk k s[k] = true → nameFrom s (s.size - (k + 1)) (k + 1) = nameFrom s s.size 0) := Lib.hid fun h => by rw [← Ht.out, Hs.out, h, Bool.true_and]
      have hno : Hid (letterOk k s[k] = false → R (.returned (.bool false)) wr) := Lib.hid fun h => by
        have := HR.out
        rw [← Ht.out, Hs.out, h, Bool.false_and] at this
        exact this
      clear HR
      go_wp2
      all_goals first
      | (refine hno.out ?_
         try simp only [Bool.not_eq_true', Bool.not_eq_false', decide_eq_true_eq, decide_eq_false_iff_not, beq_iff_eq, beq_eq_false_iff_ne, ne_eq] at *
         rw [hlo.out]
         exact decide_eq_false (by omega))
      | (go_roundg (s.size - (k + 1))
         case measure => omega
         case rel =>
           refine ⟨k + 1, hlt, rfl, by go_num, hyes.out ?_, rfl⟩
           try simp only [Bool.not_eq_true', Bool.not_eq_false', decide_eq_true_eq, decide_eq_false_iff_not, beq_iff_eq, beq_eq_false_iff_ne, ne_eq] at *
           rw [hlo.out]
           exact decide_eq_true (by omega))
    · obtain rfl : k = s.size := by omega
      rw [Nat.sub_self, nameFrom] at Ht
      rw [← Ht.out] at HR
      go_wp2
      exact HR.out
end Go.Proofs.YtcakodemngchpaaGreatDoor

/- machine.Globals. -/
namespace Go.Proofs.YtcakodemngchpaaGreatDoor
open Go.RowKit
set_option linter.unusedSimpArgs false
set_option linter.unusedVariables false

theorem globFrom_step {l : List Global} {k : Nat} {g : Global} (sum : Int) (h : l[k]? = some g) : globFrom l (l.length - k) k sum =
    if goodName g.name = false then (12, (k : Int))
    else if hasG (l.take k) g.name = true then (7, (k : Int))
    else if g.size < 1 ∨ 200 < g.size then (3, (k : Int))
    else if g.size < g.init.length then (9, (k : Int))
    else if 200 < sum + g.size then (10, (k : Int))
    else globFrom l (l.length - (k + 1)) (k + 1) (sum + g.size) := by
  have hk := (List.getElem?_eq_some_iff.1 h).1
  rw [show l.length - k = (l.length - (k + 1)) + 1 from by omega, globFrom, h]
  rfl

set_option maxRecDepth 100000 in
set_option maxHeartbeats 4000000 in
theorem Globals_calls (v : Value) (xs : List Global) (w : World) (h : rpGlobal.SL w w.heap.size xs v) (R : Ending → World → Prop)
    (hR : ∀ w' (n : Int), Below w.heap.size w w' → R (.returned (.tuple #[.int .i64 n, (.agg #[.int .i64 (globFault xs).1, .int .i64 (globFault xs).2])])) w') :
    Calls Tryz.prog 53 #[v] w R := by
  obtain ⟨A, c, rfl, hm, hcap, hs⟩ := h.cases_
  have Hs := Lib.hid hs
  have hF : ∀ wr, Below (w.heap.size + 1) (w.alloc (Obj.cells #[.int .i64 0, .int .i64 0] 27)) wr → Below w.heap.size w wr := fun wr h => ((Below.refl _ _).alloc (Nat.le_refl _) _).trans (h.mono (by omega))
  have HF := Lib.hid hF
  clear h hs hF
  by_cases h10 : 10 < xs.length
  · rw [show globFault xs = (2, 0) from by rw [globFault, if_pos h10]] at hR
    have HR := Lib.hid hR
    have h10i : (10 : Int) < (xs.length : Int) := by omega
    clear h10 hR
    go_enter Tryz.func53, Tryz.ntmps53
    go_wp2
    refine bodyPost_ret (v := .tuple #[.int .i64 0, (.agg #[.int .i64 ((2, 0)).1, .int .i64 ((2, 0)).2])]) (by simp [results, Tryz.results53, go_sem]) rfl ?_
    exact HR.out _ _ bl0
  rw [show globFault xs = globFrom xs xs.length 0 0 from by rw [globFault, if_neg h10]] at hR
  have h10i : ¬ (10 : Int) < (xs.length : Int) := by omega
  have HR := Lib.hid hR
  clear hR
  go_enter Tryz.func53, Tryz.ntmps53
  go_wp2
  go_loopg [4, 5, 6, 7, 14, 24, 31, 35, 42] xs.length (fun g s4 s5 s6 s7 i s24 s31 s35 s42 wr => ∃ (k : Nat) (sum : Int), k ≤ xs.length ∧ g = xs.length - k ∧ i = .int .i64 k ∧ s4 = .int .i64 sum ∧ 0 ≤ sum ∧ sum ≤ 200 ∧ globFrom xs (xs.length - k) k sum = globFrom xs xs.length 0 0 ∧ Below (w.heap.size + 1) (w.alloc (Obj.cells #[.int .i64 0, .int .i64 0] 27)) wr)
  case atStart => exact ⟨0, 0, Nat.zero_le _, rfl, rfl, rfl, by omega, by omega, rfl, Below.refl _ _⟩
  case round =>
    obtain ⟨k, sum, hk, rfl, rfl, rfl, hs0, hs1, ht, hbel⟩ := hrel
    have Ht := Lib.hid ht
    have Hb := Lib.hid hbel
    have hz := hbel.size
    simp at hz
    have i1 : (0 : Int) ≤ (k : Int) := Int.natCast_nonneg _
    clear ht hbel
    by_cases hlt : k < xs.length
    · have hbw := HF.out _ Hb.out
      obtain ⟨b, off, g, v1, rfl, hb, e, h1, q0, q1, q2⟩ := Hs.out.global_at hlt
      have p0 := (hbw.cell (p := ⟨b, off + k * 3, none⟩) hb).trans q0
      have p1 := (hbw.cell (p := ⟨b, off + k * 3 + 1, none⟩) hb).trans q1
      have p2 := (hbw.cell (p := ⟨b, off + k * 3 + 2, none⟩) hb).trans q2
      obtain ⟨A1, c1, rfl, hm1, hcap1, hs1'⟩ := h1.cases_
      have Hst := Lib.hid (globFrom_step sum e)
      have i2 : (k : Int) < (xs.length : Int) := by omega
      have hkc : (k : Int) ≤ (c : Int) := by omega
      have hb' : b < wr.heap.size := by omega
      have htk := Lib.hid ((Hs.out.up hbw hbw.size).take_ (k := k) (by omega))
      have Hbw := Lib.hid hbw
      clear q0 q1 q2 e h1 hs1' hbw
      go_wp2_with fail
      have hSL := htk.out.up (B' := wr.heap.size + 1) ((Below.refl _ wr).alloc (Nat.le_refl _) (Obj.cells #[.string g.name, .int .i64 g.size, .slice A1 g.init.length c1] 118)) (by omega)
      refine containsGM_calls _ (xs.take k) g.name wr.heap.size _ (by simpa using hSL) (by simp) _ (fun w1 hb1 => ?_)
      have hz1 : wr.heap.size < w1.heap.size := by have := hb1.size; simp at this; omega
      have hbel1 : Below (w.heap.size + 1) (w.alloc (Obj.cells #[.int .i64 0, .int .i64 0] 27)) w1 := (Hb.out.alloc (by omega) _).trans (hb1.mono (by simp; omega))
      have m0 : w1.cell? ⟨wr.heap.size, 0, none⟩ = some (.string g.name) := by rw [hb1.cell (by simp)]; simp
      have m1 : w1.cell? ⟨wr.heap.size, 1, none⟩ = some (.int .i64 g.size) := by rw [hb1.cell (by simp)]; simp
      have m2 : w1.cell? ⟨wr.heap.size, 2, none⟩ = some (.slice A1 g.init.length c1) := by rw [hb1.cell (by simp)]; simp
      have f0 : w1.cell? ⟨w.heap.size, 0, none⟩ = some (.int .i64 0) := by rw [hbel1.cell (by simp)]; simp
      have f1 : w1.cell? ⟨w.heap.size, 1, none⟩ = some (.int .i64 0) := by rw [hbel1.cell (by simp)]; simp
      have g0 : w1.frozen? ⟨w.heap.size, 0, none⟩ = false := by rw [hbel1.frozen (by simp)]; simp
      have g1 : w1.frozen? ⟨w.heap.size, 1, none⟩ = false := by rw [hbel1.frozen (by simp)]; simp
      have hpw : w.heap.size < w1.heap.size := by omega
      have Hbel1 := Lib.hid hbel1
      have HT : Hid (∀ f : Int × Int, globFrom xs (xs.length - k) k sum = f → ∀ w' n, Below w.heap.size w w' → R (.returned (.tuple #[.int .i64 n, (.agg #[.int .i64 (f).1, .int .i64 (f).2])])) w') := Lib.hid fun f e => by
        subst e
        rw [Ht.out]
        exact HR.out
      clear hb1 hbel1 HR hSL
      cases hgn : goodName g.name
      · have hret := Lib.hid (HT.out (12, (k : Int)) (by rw [Hst.out, if_pos hgn]))
        have Hgn := Lib.hid hgn
        clear hgn
        go_wp2_with fail
        refine Name_calls _ _ _ ?_
        rw [Hgn.out]
        go_wp2
        refine bodyPost_ret (v := .tuple #[.int .i64 0, (.agg #[.int .i64 ((12, (k : Int))).1, .int .i64 ((12, (k : Int))).2])]) (res_slice_Fault (by rfl) (by rfl) (by rfl) (cells_set2 (a := w.alloc (Obj.cells #[Value.int IntKind.i64 0, Value.int IntKind.i64 0] 27)) (B := w.heap.size + 1) Hbel1.out (Nat.lt_succ_self _) (by simp; rfl) (by simp; rfl) _ _)) rfl ?_; exact hret.out _ _ (((HF.out _ Hbel1.out).setCell (p := ⟨w.heap.size, 0, none⟩) (Nat.le_refl _) (.int .i64 12)).setCell (p := ⟨w.heap.size, 1, none⟩) (Nat.le_refl _) (.int .i64 (k : Int)))
      have Hgn := Lib.hid hgn
      have hA := Lib.hid (Hst.out.trans (if_neg (by rw [hgn]; simp)))
      clear hgn Hst
      cases hhad : hasG (xs.take k) g.name
      rotate_left
      · have hret := Lib.hid (HT.out (7, (k : Int)) (by rw [hA.out, if_pos hhad]))
        clear hhad
        go_wp2_with fail
        refine Name_calls _ _ _ ?_
        rw [Hgn.out]
        go_wp2
        refine bodyPost_ret (v := .tuple #[.int .i64 0, (.agg #[.int .i64 ((7, (k : Int))).1, .int .i64 ((7, (k : Int))).2])]) (res_slice_Fault (by rfl) (by rfl) (by rfl) (cells_set2 (a := w.alloc (Obj.cells #[Value.int IntKind.i64 0, Value.int IntKind.i64 0] 27)) (B := w.heap.size + 1) Hbel1.out (Nat.lt_succ_self _) (by simp; rfl) (by simp; rfl) _ _)) rfl ?_; exact hret.out _ _ (((HF.out _ Hbel1.out).setCell (p := ⟨w.heap.size, 0, none⟩) (Nat.le_refl _) (.int .i64 7)).setCell (p := ⟨w.heap.size, 1, none⟩) (Nat.le_refl _) (.int .i64 (k : Int)))
      have hB := Lib.hid (hA.out.trans (if_neg (by rw [hhad]; simp)))
      clear hhad hA
      by_cases hsz : g.size < 1 ∨ 200 < g.size
      · have hret := Lib.hid (HT.out (3, (k : Int)) (by rw [hB.out, if_pos hsz]))
        have hd : Hid (decide (1 ≤ g.size ∧ g.size ≤ 200) = false) := Lib.hid (decide_eq_false (by omega))
        clear hsz
        go_wp2_with (first | (go_at_call 57; refine Name_calls _ _ _ ?_; rw [Hgn.out]) | (go_at_call 86; refine Within_calls _ _ _ _ _ ?_; rw [hd.out]))
        refine bodyPost_ret (v := .tuple #[.int .i64 0, (.agg #[.int .i64 ((3, (k : Int))).1, .int .i64 ((3, (k : Int))).2])]) (res_slice_Fault (by rfl) (by rfl) (by rfl) (cells_set2 (a := w.alloc (Obj.cells #[Value.int IntKind.i64 0, Value.int IntKind.i64 0] 27)) (B := w.heap.size + 1) Hbel1.out (Nat.lt_succ_self _) (by simp; rfl) (by simp; rfl) _ _)) rfl ?_; exact hret.out _ _ (((HF.out _ Hbel1.out).setCell (p := ⟨w.heap.size, 0, none⟩) (Nat.le_refl _) (.int .i64 3)).setCell (p := ⟨w.heap.size, 1, none⟩) (Nat.le_refl _) (.int .i64 (k : Int)))
      have hC := Lib.hid (hB.out.trans (if_neg hsz))
      have hd : Hid (decide (1 ≤ g.size ∧ g.size ≤ 200) = true) := Lib.hid (decide_eq_true (by omega))
      have hsz0 : 1 ≤ g.size := by omega
      have hsz1 : g.size ≤ 200 := by omega
      clear hsz hB
      by_cases hin : g.size < (g.init.length : Int)
      · have hret := Lib.hid (HT.out (9, (k : Int)) (by rw [hC.out, if_pos hin]))
        go_wp2_with (first | (go_at_call 57; refine Name_calls _ _ _ ?_; rw [Hgn.out]) | (go_at_call 86; refine Within_calls _ _ _ _ _ ?_; rw [hd.out]))
        refine bodyPost_ret (v := .tuple #[.int .i64 0, (.agg #[.int .i64 ((9, (k : Int))).1, .int .i64 ((9, (k : Int))).2])]) (res_slice_Fault (by rfl) (by rfl) (by rfl) (cells_set2 (a := w.alloc (Obj.cells #[Value.int IntKind.i64 0, Value.int IntKind.i64 0] 27)) (B := w.heap.size + 1) Hbel1.out (Nat.lt_succ_self _) (by simp; rfl) (by simp; rfl) _ _)) rfl ?_; exact hret.out _ _ (((HF.out _ Hbel1.out).setCell (p := ⟨w.heap.size, 0, none⟩) (Nat.le_refl _) (.int .i64 9)).setCell (p := ⟨w.heap.size, 1, none⟩) (Nat.le_refl _) (.int .i64 (k : Int)))
      have hD := Lib.hid (hC.out.trans (if_neg hin))
      clear hC
      by_cases hsum : 200 < sum + g.size
      · have hret := Lib.hid (HT.out (10, (k : Int)) (by rw [hD.out, if_pos hsum]))
        go_wp2_with (first | (go_at_call 57; refine Name_calls _ _ _ ?_; rw [Hgn.out]) | (go_at_call 86; refine Within_calls _ _ _ _ _ ?_; rw [hd.out]))
        refine bodyPost_ret (v := .tuple #[.int .i64 0, (.agg #[.int .i64 ((10, (k : Int))).1, .int .i64 ((10, (k : Int))).2])]) (res_slice_Fault (by rfl) (by rfl) (by rfl) (cells_set2 (a := w.alloc (Obj.cells #[Value.int IntKind.i64 0, Value.int IntKind.i64 0] 27)) (B := w.heap.size + 1) Hbel1.out (Nat.lt_succ_self _) (by simp; rfl) (by simp; rfl) _ _)) rfl ?_; exact hret.out _ _ (((HF.out _ Hbel1.out).setCell (p := ⟨w.heap.size, 0, none⟩) (Nat.le_refl _) (.int .i64 10)).setCell (p := ⟨w.heap.size, 1, none⟩) (Nat.le_refl _) (.int .i64 (k : Int)))
      have hE := Lib.hid (hD.out.trans (if_neg hsum))
      clear hD
      go_wp2_with (first | (go_at_call 57; refine Name_calls _ _ _ ?_; rw [Hgn.out]) | (go_at_call 86; refine Within_calls _ _ _ _ _ ?_; rw [hd.out]))
      go_roundg (xs.length - (k + 1))
      case measure => omega
      case rel => exact ⟨k + 1, sum + g.size, hlt, rfl, by go_num, rfl, by omega, by omega, by rw [← Ht.out, hE.out], Hbel1.out⟩
    · obtain rfl : k = xs.length := by omega
      rw [Nat.sub_self, globFrom] at Ht
      have f0 : wr.cell? ⟨w.heap.size, 0, none⟩ = some (.int .i64 0) := by rw [Hb.out.cell (by simp)]; simp
      have f1 : wr.cell? ⟨w.heap.size, 1, none⟩ = some (.int .i64 0) := by rw [Hb.out.cell (by simp)]; simp
      have g0 : wr.frozen? ⟨w.heap.size, 0, none⟩ = false := by rw [Hb.out.frozen (by simp)]; simp
      have g1 : wr.frozen? ⟨w.heap.size, 1, none⟩ = false := by rw [Hb.out.frozen (by simp)]; simp
      have hret := Lib.hid (HR.out)
      rw [← Ht.out] at hret
      clear HR
      go_wp2
      refine bodyPost_ret (v := .tuple #[.int .i64 sum, (.agg #[.int .i64 ((0, 0)).1, .int .i64 ((0, 0)).2])]) (res_slice_Fault (by rfl) (by rfl) (by rfl) (cells_set2 (a := w.alloc (Obj.cells #[Value.int IntKind.i64 0, Value.int IntKind.i64 0] 27)) (B := w.heap.size + 1) Hb.out (Nat.lt_succ_self _) (by simp; rfl) (by simp; rfl) _ _)) rfl ?_
      exact hret.out _ _ (((HF.out _ Hb.out).setCell (p := ⟨w.heap.size, 0, none⟩) (Nat.le_refl _) (.int .i64 0)).setCell (p := ⟨w.heap.size, 1, none⟩) (Nat.le_refl _) (.int .i64 0))
end Go.Proofs.YtcakodemngchpaaGreatDoor

/- The document's answer on globals. -/
namespace Go.Proofs.YtcakodemngchpaaGreatDoor
open Go.RowKit
set_option linter.unusedSimpArgs false
set_option linter.unusedVariables false

end Go.Proofs.YtcakodemngchpaaGreatDoor
