/- Are two lists of globals the same: the document's SameGlobals. Are two objects the same: the document's SameObject, of two readings of one. -/
import Derived.Test.YtcakodemngchpaaGreatDoorBase
import Derived.Test.YtcakodemngchpaaGreatDoorRows
import Derived.IntWalk
import Derived.Deep.LoopGhost
import Derived.Deep.CutBlock
import Derived.Deep.DeepCutAuto
import Derived.Outline
import Derived.Test.YtcakodemngchpaaGreatDoorPlainA
import Derived.Test.YtcakodemngchpaaGreatDoorGlobA
import Derived.Test.YtcakodemngchpaaGreatDoorCopyA
/- Are two lists of globals the same: the document's SameGlobals. -/
namespace Go.Proofs.YtcakodemngchpaaGreatDoor
open Go.RowKit
set_option linter.unusedSimpArgs false
set_option linter.unusedVariables false

theorem Global.ext_ {x y : Global} (h1 : x.name = y.name) (h2 : x.size = y.size) (h3 : x.init = y.init) : x = y := by
  cases x
  cases y
  simp_all
instance : DecidableEq Global := fun x y => if h : x.name = y.name ∧ x.size = y.size ∧ x.init = y.init then isTrue (Global.ext_ h.1 h.2.1 h.2.2) else isFalse (fun e => h (by rw [e]; exact ⟨rfl, rfl, rfl⟩))
def sameG (a b : List Global) : Bool := decide (a = b)
theorem sameG_no {a b : List Global} (h : a ≠ b) : sameG a b = false := decide_eq_false h
theorem sameG_yes (a : List Global) : sameG a a = true := decide_eq_true rfl
theorem ne_of_at {α : Type} {a b : List α} {k : Nat} {x y : α} (hx : a[k]? = some x) (hy : b[k]? = some y) (h : x ≠ y) : a ≠ b := by
  rintro rfl
  rw [hx] at hy
  exact h (Option.some.inj hy)
theorem take_eq_step {α : Type} {a b : List α} {k : Nat} {x : α} (hx : a[k]? = some x) (hy : b[k]? = some x) (h : a.take k = b.take k) : a.take (k + 1) = b.take (k + 1) := by
  obtain ⟨h1, e1⟩ := List.getElem?_eq_some_iff.1 hx
  obtain ⟨h2, e2⟩ := List.getElem?_eq_some_iff.1 hy
  rw [List.take_succ_eq_append_getElem h1, List.take_succ_eq_append_getElem h2, h, e1, e2]

set_option maxRecDepth 100000 in
set_option maxHeartbeats 4000000 in
theorem SameGlobals_calls (a b : List Global) (v1 v2 : Value) (w : World) (h1 : rpGlobal.SL w w.heap.size a v1) (h2 : rpGlobal.SL w w.heap.size b v2) (R : Ending → World → Prop)
    (hR : ∀ w', Below w.heap.size w w' → R (.returned (.bool (sameG a b))) w') :
    Calls Tryz.prog 24 #[v1, v2] w R := by
  obtain ⟨A1, n1, rfl, hm1, hcap1, h1⟩ := h1.cases_
  obtain ⟨A2, n2, rfl, hm2, hcap2, h2⟩ := h2.cases_
  have HR := Lib.hid hR
  have H1 := Lib.hid h1
  have H2 := Lib.hid h2
  clear hR h1 h2
  by_cases hlen : a.length = b.length
  rotate_left
  · have hno : ((a.length : Int) != (b.length : Int)) = true := by simp; omega
    have hr := HR.out w (Below.refl _ _)
    rw [sameG_no (fun e => hlen (by rw [e]))] at hr
    clear hlen
    go_enter Tryz.func24, Tryz.ntmps24
    go_wp2
    exact hr
  · have HN : Hid (∀ w', a ≠ b → Below w.heap.size w w' → R (.returned (.bool false)) w') := Lib.hid fun w' h hb => by
      have := HR.out w' hb
      rwa [sameG_no h] at this
    have hlb : (b.length : Int) = (a.length : Int) := by omega
    rw [← hlen] at H2 hm2 hcap2 ⊢
    have Hlen := Lib.hid hlen
    clear hlen hlb
    go_enter Tryz.func24, Tryz.ntmps24
    go_wp2
    go_loopg [5, 6] a.length (fun g i s6 wr => ∃ k : Nat, k ≤ a.length ∧ g = a.length - k ∧ i = .int .i64 k ∧ a.take k = b.take k ∧ Below w.heap.size w wr)
    case atStart => exact ⟨0, Nat.zero_le _, rfl, rfl, rfl, Below.refl _ _⟩
    case round =>
      obtain ⟨k, hk, rfl, rfl, ht, hbel⟩ := hrel
      have Ht := Lib.hid ht
      have Hb := Lib.hid hbel
      have hz := hbel.size
      have i1 : (0 : Int) ≤ (k : Int) := Int.natCast_nonneg _
      clear ht
      by_cases hlt : k < a.length
      · obtain ⟨b1, o1, x, w1, rfl, hb1, e1, h1, q0, q1, q2⟩ := H1.out.global_at hlt
        obtain ⟨b2, o2, y, w2, rfl, hb2, e2, h2, r0, r1, r2⟩ := H2.out.global_at (k := k) (by rw [← Hlen.out]; exact hlt)
        obtain ⟨A3, n3, rfl, hm3, hcap3, h1⟩ := h1.cases_
        obtain ⟨A4, n4, rfl, hm4, hcap4, h2⟩ := h2.cases_
        have p0 := (hbel.cell (p := ⟨b1, o1 + k * 3, none⟩) hb1).trans q0
        have p1 := (hbel.cell (p := ⟨b1, o1 + k * 3 + 1, none⟩) hb1).trans q1
        have p2 := (hbel.cell (p := ⟨b1, o1 + k * 3 + 2, none⟩) hb1).trans q2
        have s0 := (hbel.cell (p := ⟨b2, o2 + k * 3, none⟩) hb2).trans r0
        have s1 := (hbel.cell (p := ⟨b2, o2 + k * 3 + 1, none⟩) hb2).trans r1
        have s2 := (hbel.cell (p := ⟨b2, o2 + k * 3 + 2, none⟩) hb2).trans r2
        have i2 : (k : Int) < (a.length : Int) := by omega
        have H3 := Lib.hid h1
        have H4 := Lib.hid h2
        have E1 := Lib.hid e1
        have E2 := Lib.hid e2
        have HX : Hid (x ≠ y → ∀ w', Below w.heap.size w w' → R (.returned (.bool false)) w') := Lib.hid fun h w' hb => HN.out w' (ne_of_at E1.out E2.out h) hb
        have Q2 := Lib.hid q2
        have R2 := Lib.hid r2
        clear q0 q1 q2 r0 r1 r2 e1 e2 h1 h2 hbel
        by_cases hn : x.name = y.name
        rotate_left
        · have hX := Lib.hid (HX.out (fun e => hn (by rw [e])))
          have hnb : (x.name.toList == y.name.toList) = false := by rw [name_eq]; simp [hn]
          clear hn
          go_wp2
          go_quiet (fail)
          go_wp2
          have hb := Hb.out
          refine hX.out _ ?_
          exact bl0
        by_cases hs : x.size = y.size
        rotate_left
        · have hX := Lib.hid (HX.out (fun e => hs (by rw [e])))
          have hnb : (x.name.toList == y.name.toList) = true := by rw [name_eq]; simp [hn]
          have hsb : (x.size != y.size) = true := by simp [hs]
          clear hn hs
          go_wp2
          go_quiet (fail)
          go_wp2
          have hb := Hb.out
          refine hX.out _ ?_
          exact bl0
        by_cases hl : x.init.length = y.init.length
        rotate_left
        · have hX := Lib.hid (HX.out (fun e => hl (by rw [e])))
          have hnb : (x.name.toList == y.name.toList) = true := by rw [name_eq]; simp [hn]
          have hsb : (x.size != y.size) = false := by simp [hs]
          have hlb : ((x.init.length : Int) != (y.init.length : Int)) = true := by simp; omega
          clear hn hs hl
          go_wp2
          go_quiet (fail)
          go_wp2
          have hb := Hb.out
          refine hX.out _ ?_
          exact bl0
        have hnb : (x.name.toList == y.name.toList) = true := by rw [name_eq]; simp [hn]
        have hsb : (x.size != y.size) = false := by simp [hs]
        have hlb : ((x.init.length : Int) != (y.init.length : Int)) = false := by simp; omega
        have HE := Lib.hid (And.intro hn (And.intro hs hl))
        clear hn hs hl
        go_wp2
        go_quiet (fail)
        go_wp2
        clear p0 p1 p2 s0 s1 s2 hnb hsb hlb
        have hl : x.init.length = y.init.length := HE.out.2.2
        rw [← hl] at H4 hm4 hcap4 R2
        have Hl := Lib.hid hl
        clear hl
        go_loopg [6] x.init.length (fun g i wi => ∃ j : Nat, j ≤ x.init.length ∧ g = x.init.length - j ∧ i = .int .i64 j ∧ x.init.take j = y.init.take j ∧ Below w.heap.size w wi)
        case atStart =>
          have hb := Hb.out
          refine ⟨0, Nat.zero_le _, rfl, rfl, rfl, ?_⟩
          exact bl0
        case round =>
          rename World => wi
          obtain ⟨j, hj, rfl, rfl, ht, hbel⟩ := hrel
          have Ht2 := Lib.hid ht
          have Hb2 := Lib.hid hbel
          have p2 := (hbel.cell (p := ⟨b1, o1 + k * 3 + 2, none⟩) hb1).trans Q2.out
          have s2 := (hbel.cell (p := ⟨b2, o2 + k * 3 + 2, none⟩) hb2).trans R2.out
          have j1 : (0 : Int) ≤ (j : Int) := Int.natCast_nonneg _
          clear ht
          by_cases hlt2 : j < x.init.length
          · have hj2 : j < y.init.length := by have := Hl.out; omega
            have j2 : (j : Int) < (x.init.length : Int) := by omega
            obtain ⟨b3, o3, rfl, hb3, q3⟩ := H3.out.int_at hlt2
            obtain ⟨b4, o4, rfl, hb4, q4⟩ := H4.out.int_at (k := j) hj2
            have p3 := (hbel.cell (p := ⟨b3, o3 + j, none⟩) hb3).trans q3
            have p4 := (hbel.cell (p := ⟨b4, o4 + j, none⟩) hb4).trans q4
            have g3 : x.init[j]? = some (x.init.getD j 0) := by rw [List.getD_eq_getElem?_getD, List.getElem?_eq_getElem hlt2]; rfl
            have g4 : y.init[j]? = some (y.init.getD j 0) := by rw [List.getD_eq_getElem?_getD, List.getElem?_eq_getElem hj2]; rfl
            have G3 := Lib.hid g3
            have G4 := Lib.hid g4
            clear q3 q4 hbel g3 g4
            generalize x.init.getD j 0 = m at *
            generalize y.init.getD j 0 = n at *
            by_cases hmn : m = n
            · subst hmn
              go_wp2
              go_quiet (fail)
              go_wp2
              go_roundg (x.init.length - (j + 1))
              case measure => omega
              case rel =>
                have hb := Hb2.out
                refine ⟨j + 1, hlt2, rfl, by go_num, take_eq_step G3.out G4.out Ht2.out, ?_⟩
                exact bl0
            · have hX := Lib.hid (HX.out (fun e => ne_of_at G3.out G4.out hmn (by rw [e])))
              have hmb : (m != n) = true := by simp [hmn]
              clear hmn
              go_wp2
              go_quiet (fail)
              go_wp2
              have hb := Hb2.out
              refine hX.out _ ?_
              exact bl0
          · obtain rfl : j = x.init.length := by omega
            have hxy : x = y := Global.ext_ HE.out.1 HE.out.2.1 (by
              have := Ht2.out
              rw [List.take_length, Hl.out, List.take_length] at this
              exact this)
            have hst : a.take (k + 1) = b.take (k + 1) := take_eq_step E1.out (hxy ▸ E2.out) Ht.out
            have Hst := Lib.hid hst
            clear hxy hst hbel
            go_wp2
            go_roundg (a.length - (k + 1))
            case measure => omega
            case rel => exact ⟨k + 1, hlt, rfl, by go_num, Hst.out, Hb2.out⟩
      · obtain rfl : k = a.length := by omega
        go_wp2
        have he : a = b := by
          have := Ht.out
          rw [List.take_length, Hlen.out, List.take_length] at this
          exact this
        have := HR.out _ Hb.out
        rw [← he, sameG_yes] at this
        exact this
end Go.Proofs.YtcakodemngchpaaGreatDoor

/- Are two objects the same: the document's SameObject, of two readings of one. -/
namespace Go.Proofs.YtcakodemngchpaaGreatDoor
open Go.RowKit
set_option linter.unusedSimpArgs false
set_option linter.unusedVariables false

end Go.Proofs.YtcakodemngchpaaGreatDoor
