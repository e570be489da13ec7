/- object.Alike: are two lists of globals alike? -/
import Derived.Test.YtcakodemngchpaaGreatDoorBase
import Derived.Test.YtcakodemngchpaaGreatDoorRows
import Derived.IntWalk
import Derived.Deep.LoopGhost
import Derived.Outline
import Derived.Test.YtcakodemngchpaaGreatDoorSameA
namespace Go.Proofs.YtcakodemngchpaaGreatDoor
open Go.RowKit
set_option linter.unusedSimpArgs false
set_option linter.unusedVariables false

set_option maxRecDepth 100000 in
set_option maxHeartbeats 4000000 in
theorem EqualI_calls (xs ys : List Int) (v1 v2 : Value) (w : World) (h1 : rpInt.SL w w.heap.size xs v1) (h2 : rpInt.SL w w.heap.size ys v2) (R : Ending → World → Prop)
    (hR : ∀ w', Below w.heap.size w w' → R (.returned (.bool (decide (xs = ys)))) w') :
    Calls Tryz.prog 112 #[v1, v2] w R := by
  obtain ⟨A1, n1, rfl, hm1, hcap1, h1⟩ := h1.cases_
  obtain ⟨A2, n2, rfl, hm2, hcap2, h2⟩ := h2.cases_
  have HR := Lib.hid hR
  have H1 := Lib.hid h1
  have H2 := Lib.hid h2
  clear hR h1 h2
  by_cases hlen : xs.length = ys.length
  rotate_left
  · have hno : ((xs.length : Int) != (ys.length : Int)) = true := by simp; omega
    have hr := HR.out w (Below.refl _ _)
    rw [decide_eq_false (fun e => hlen (by rw [e]))] at hr
    clear hlen
    go_enter Tryz.func112, Tryz.ntmps112
    go_wp2
    exact hr
  · have HN : Hid (∀ w', xs ≠ ys → Below w.heap.size w w' → R (.returned (.bool false)) w') := Lib.hid fun w' h hb => by
      have := HR.out w' hb
      rwa [decide_eq_false h] at this
    rw [← hlen] at H2 hm2 hcap2 ⊢
    have Hlen := Lib.hid hlen
    clear hlen
    go_enter Tryz.func112, Tryz.ntmps112
    go_wp2
    go_loopg [5, 13] xs.length (fun g j i wr => ∃ k : Nat, k ≤ xs.length ∧ g = xs.length - k ∧ i = .int .i64 k ∧ xs.take k = ys.take k ∧ Below w.heap.size w wr)
    case atStart => exact ⟨0, Nat.zero_le _, rfl, rfl, rfl, Below.refl _ _⟩
    case round =>
      obtain ⟨k, hk, rfl, rfl, ht, hbel⟩ := hrel
      have Ht := Lib.hid ht
      have Hb := Lib.hid hbel
      have hz := hbel.size
      have i1 : (0 : Int) ≤ (k : Int) := Int.natCast_nonneg _
      clear ht
      by_cases hlt : k < xs.length
      · have hlt2 : k < ys.length := by have := Hlen.out; omega
        have i2 : (k : Int) < (xs.length : Int) := by omega
        obtain ⟨b3, o3, rfl, hb3, q3⟩ := H1.out.int_at hlt
        obtain ⟨b4, o4, rfl, hb4, q4⟩ := H2.out.int_at (k := k) hlt2
        have p3 := (hbel.cell (p := ⟨b3, o3 + k, none⟩) hb3).trans q3
        have p4 := (hbel.cell (p := ⟨b4, o4 + k, none⟩) hb4).trans q4
        have g3 : xs[k]? = some (xs.getD k 0) := by rw [List.getD_eq_getElem?_getD, List.getElem?_eq_getElem hlt]; rfl
        have g4 : ys[k]? = some (ys.getD k 0) := by rw [List.getD_eq_getElem?_getD, List.getElem?_eq_getElem hlt2]; rfl
        have G3 := Lib.hid g3
        have G4 := Lib.hid g4
        clear q3 q4 hbel g3 g4
        generalize xs.getD k 0 = m at *
        generalize ys.getD k 0 = n at *
        by_cases hmn : m = n
        · subst hmn
          go_wp2
          go_quiet (fail)
          go_wp2
          go_roundg (xs.length - (k + 1))
          case measure => omega
          case rel =>
            have hb := Hb.out
            refine ⟨k + 1, hlt, rfl, by go_num, take_eq_step G3.out G4.out Ht.out, ?_⟩
            exact bl0
        · have hX := Lib.hid (HN.out · (ne_of_at G3.out G4.out hmn))
          have hmb : (m != n) = true := by simp [hmn]
          clear hmn
          go_wp2
          go_quiet (fail)
          go_wp2
          have hb := Hb.out
          refine hX.out _ ?_
          exact bl0
      · obtain rfl : k = xs.length := by omega
        go_wp2
        have he : xs = ys := by
          have := Ht.out
          rw [List.take_length, Hlen.out, List.take_length] at this
          exact this
        have := HR.out _ Hb.out
        rw [decide_eq_true he] at this
        exact this

set_option maxRecDepth 100000 in
set_option maxHeartbeats 4000000 in
theorem AlikeOne_calls (x y : Global) (v1 v2 : Value) (w : World) (h1 : rpInt.SL w w.heap.size x.init v1) (h2 : rpInt.SL w w.heap.size y.init v2) (R : Ending → World → Prop)
    (hR : ∀ w', Below w.heap.size w w' → R (.returned (.bool (decide (x = y)))) w') :
    Calls Tryz.prog 111 #[.agg #[.string x.name, .int .i64 x.size, v1], .agg #[.string y.name, .int .i64 y.size, v2]] w R := by
  obtain ⟨A1, n1, rfl, hm1, hcap1, h1⟩ := h1.cases_
  obtain ⟨A2, n2, rfl, hm2, hcap2, h2⟩ := h2.cases_
  have HR := Lib.hid hR
  have H1 := Lib.hid h1
  have H2 := Lib.hid h2
  clear hR h1 h2
  have HN : Hid (x ≠ y → ∀ w', Below w.heap.size w w' → R (.returned (.bool false)) w') := Lib.hid fun h w' hb => by
    have := HR.out w' hb
    rwa [decide_eq_false h] at this
  by_cases hn : x.name = y.name
  rotate_left
  · have hX := Lib.hid (HN.out (fun e => hn (by rw [e])))
    have hnb : (x.name.toList == y.name.toList) = false := by rw [name_eq]; simp [hn]
    clear hn
    go_enter Tryz.func111, Tryz.ntmps111
    go_wp2
    refine hX.out _ ?_
    exact bl0
  have hnb : (x.name.toList == y.name.toList) = true := by rw [name_eq]; simp [hn]
  by_cases hs : x.size = y.size
  rotate_left
  · have hX := Lib.hid (HN.out (fun e => hs (by rw [e])))
    have hsb : (x.size == y.size) = false := by simp [hs]
    clear hn hs
    go_enter Tryz.func111, Tryz.ntmps111
    go_wp2
    refine hX.out _ ?_
    exact bl0
  have hsb : (x.size == y.size) = true := by simp [hs]
  have HE := Lib.hid (And.intro hn hs)
  clear hn hs
  go_enter Tryz.func111, Tryz.ntmps111
  go_wp2_with fail
  have hbw : Below w.heap.size w ((w.alloc (Obj.cells #[.string x.name, .int .i64 x.size, .slice A1 x.init.length n1] 118)).alloc (Obj.cells #[.string y.name, .int .i64 y.size, .slice A2 y.init.length n2] 118)) := bl0
  refine EqualI_calls x.init y.init _ _ _ (H1.out.up hbw hbw.size) (H2.out.up hbw hbw.size) _ (fun w1 hb1 => ?_)
  have hb := hbw.trans (hb1.mono hbw.size)
  have hr := HR.out w1 hb
  have he : decide (x = y) = decide (x.init = y.init) := by
    by_cases h : x.init = y.init
    · rw [decide_eq_true h, decide_eq_true (Global.ext_ HE.out.1 HE.out.2 h)]
    · rw [decide_eq_false h, decide_eq_false (fun e => h (by rw [e]))]
  rw [he] at hr
  have Hr := Lib.hid hr
  clear hr he hb hb1 hbw
  generalize decide (x.init = y.init) = q at *
  go_wp2
  exact Hr.out

set_option maxRecDepth 100000 in
set_option maxHeartbeats 4000000 in
theorem EqualG_calls (a b : List Global) (v1 v2 : Value) (w : World) (h1 : rpGlobal.SL w w.heap.size a v1) (h2 : rpGlobal.SL w w.heap.size b v2) (R : Ending → World → Prop)
    (hR : ∀ w', Below w.heap.size w w' → R (.returned (.bool (sameG a b))) w') :
    Calls Tryz.prog 110 #[v1, v2, .func (.func 111) #[] #[]] w R := by
  obtain ⟨A1, n1, rfl, hm1, hcap1, h1⟩ := h1.cases_
  obtain ⟨A2, n2, rfl, hm2, hcap2, h2⟩ := h2.cases_
  have HR := Lib.hid hR
  have H1 := Lib.hid h1
  have H2 := Lib.hid h2
  clear hR h1 h2
  by_cases hlen : a.length = b.length
  rotate_left
  · have hno : ((a.length : Int) != (b.length : Int)) = true := by simp; omega
    have hr := HR.out w (Below.refl _ _)
    rw [sameG_no (fun e => hlen (by rw [e]))] at hr
    clear hlen
    go_enter Tryz.func110, Tryz.ntmps110
    go_wp2
    exact hr
  · have HN : Hid (∀ w', a ≠ b → Below w.heap.size w w' → R (.returned (.bool false)) w') := Lib.hid fun w' h hb => by
      have := HR.out w' hb
      rwa [sameG_no h] at this
    rw [← hlen] at H2 hm2 hcap2 ⊢
    have Hlen := Lib.hid hlen
    clear hlen
    go_enter Tryz.func110, Tryz.ntmps110
    go_wp2
    go_loopg [7, 8, 9, 17] a.length (fun g j s8 s9 i wr => ∃ k : Nat, k ≤ a.length ∧ g = a.length - k ∧ i = .int .i64 k ∧ a.take k = b.take k ∧ Below w.heap.size w wr)
    case atStart => exact ⟨0, Nat.zero_le _, rfl, rfl, rfl, Below.refl _ _⟩
    case round =>
      obtain ⟨k, hk, rfl, rfl, ht, hbel⟩ := hrel
      have Ht := Lib.hid ht
      have Hb := Lib.hid hbel
      have hz := hbel.size
      have i1 : (0 : Int) ≤ (k : Int) := Int.natCast_nonneg _
      clear ht
      by_cases hlt : k < a.length
      · obtain ⟨b1, o1, x, w1, rfl, hb1, e1, h1, q0, q1, q2⟩ := H1.out.global_at hlt
        obtain ⟨b2, o2, y, w2, rfl, hb2, e2, h2, r0, r1, r2⟩ := H2.out.global_at (k := k) (by rw [← Hlen.out]; exact hlt)
        obtain ⟨A3, n3, rfl, hm3, hcap3, h1⟩ := h1.cases_
        obtain ⟨A4, n4, rfl, hm4, hcap4, h2⟩ := h2.cases_
        have p0 := (hbel.cell (p := ⟨b1, o1 + k * 3, none⟩) hb1).trans q0
        have p1 := (hbel.cell (p := ⟨b1, o1 + k * 3 + 1, none⟩) hb1).trans q1
        have p2 := (hbel.cell (p := ⟨b1, o1 + k * 3 + 2, none⟩) hb1).trans q2
        have s0 := (hbel.cell (p := ⟨b2, o2 + k * 3, none⟩) hb2).trans r0
        have s1 := (hbel.cell (p := ⟨b2, o2 + k * 3 + 1, none⟩) hb2).trans r1
        have s2 := (hbel.cell (p := ⟨b2, o2 + k * 3 + 2, none⟩) hb2).trans r2
        have i2 : (k : Int) < (a.length : Int) := by omega
        have hbw := (hbel.alloc (by omega) (Obj.cells #[.string x.name, .int .i64 x.size, .slice A3 x.init.length n3] 118)).alloc (by simp; omega) (Obj.cells #[.string y.name, .int .i64 y.size, .slice A4 y.init.length n4] 118)
        have H3 := Lib.hid (h1.up hbw hbw.size)
        have H4 := Lib.hid (h2.up hbw hbw.size)
        have E1 := Lib.hid e1
        have E2 := Lib.hid e2
        have Hbw := Lib.hid hbw
        have hb1' : b1 < wr.heap.size := by omega
        have hb2' : b2 < wr.heap.size := by omega
        clear q0 q1 q2 r0 r1 r2 e1 e2 h1 h2 hbel hbw
        go_wp2_with fail
        refine AlikeOne_calls x y _ _ _ H3.out H4.out _ (fun w5 hb5 => ?_)
        have hb5' := Hbw.out.trans (hb5.mono (by simp; omega))
        have Hb5 := Lib.hid hb5'
        by_cases hxy : x = y
        · have Hst := Lib.hid (take_eq_step E1.out (hxy ▸ E2.out) Ht.out)
          have hd : decide (x = y) = true := decide_eq_true hxy
          generalize decide (x = y) = q at *
          subst hd
          clear hb5 hb5' hxy
          go_wp2
          go_roundg (a.length - (k + 1))
          case measure => omega
          case rel => exact ⟨k + 1, hlt, rfl, by go_num, Hst.out, Hb5.out⟩
        · have hX := Lib.hid (HN.out w5 (ne_of_at E1.out E2.out hxy) Hb5.out)
          have hd : decide (x = y) = false := decide_eq_false hxy
          generalize decide (x = y) = q at *
          subst hd
          clear hb5 hb5' hxy
          go_wp2
          exact hX.out
      · obtain rfl : k = a.length := by omega
        go_wp2
        have he : a = b := by
          have := Ht.out
          rw [List.take_length, Hlen.out, List.take_length] at this
          exact this
        have := HR.out _ Hb.out
        rw [← he, sameG_yes] at this
        exact this

set_option maxHeartbeats 1000000 in
theorem Alike_calls (a b : List Global) (v1 v2 : Value) (w : World) (h1 : rpGlobal.SL w w.heap.size a v1) (h2 : rpGlobal.SL w w.heap.size b v2) (R : Ending → World → Prop)
    (hR : ∀ w', Below w.heap.size w w' → R (.returned (.bool (sameG a b))) w') :
    Calls Tryz.prog 79 #[v1, v2] w R := by
  have HR := Lib.hid hR
  have H1 := Lib.hid h1
  have H2 := Lib.hid h2
  clear hR h1 h2
  go_enter Tryz.func79, Tryz.ntmps79
  go_wp2_with fail
  refine EqualG_calls a b _ _ _ H1.out H2.out _ (fun w1 hb1 => ?_)
  have Hr := Lib.hid (HR.out w1 hb1)
  generalize sameG a b = q at *
  clear hb1
  go_wp2
  exact Hr.out
end Go.Proofs.YtcakodemngchpaaGreatDoor
