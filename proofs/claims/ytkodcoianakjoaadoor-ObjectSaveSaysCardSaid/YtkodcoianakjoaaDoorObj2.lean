/- The document's answer: which section has a name. -/
import Derived.Test.YtkodcoianakjoaaDoorLib
import Derived.Test.YtkodcoianakjoaaDoorRows
import Derived.IntWalk
import Derived.Deep.LoopGhost
import Derived.Test.YtkodcoianakjoaaDoorObj1
namespace Go.Proofs.YtkodcoianakjoaaDoor
open Go.RowKit
set_option linter.unusedSimpArgs false
set_option linter.unusedVariables false

/-- The first section of a name; -1: none. -/
def FirstS (l : List Section) (nm : ByteArray) (r : Int) : Prop := (r = -1 ∧ hasS l nm = false) ∨ ∃ k : Nat, r = (k : Int) ∧ k < l.length ∧ hasS (l.take k) nm = false ∧ hasS (l.take (k + 1)) nm = true
theorem hasS_take {l : List Section} {nm : ByteArray} {i j : Nat} (h : i ≤ j) (ht : hasS (l.take i) nm = true) : hasS (l.take j) nm = true := by
  have := any_of_take (fun x : Section => decide (x.name = nm)) (l := l.take j) (k := i) (by rw [List.take_take, Nat.min_eq_left h]; exact ht)
  exact this
theorem FirstS.lt {l : List Section} {nm : ByteArray} {r : Int} (h : FirstS l nm r) {i : Nat} {s : Section} (hs : l[i]? = some s) (hn : s.name = nm) : decide (r < (i : Int)) = hasS (l.take i) nm := by
  have hi := (List.getElem?_eq_some_iff.1 hs).1
  have h1 : hasS (l.take (i + 1)) nm = true := by
    have := any_step (fun x : Section => decide (x.name = nm)) hs
    unfold hasS
    rw [this, hn]
    simp
  rcases h with ⟨rfl, hno⟩ | ⟨k, rfl, hk, hno, hyes⟩
  · have h2 := hasS_take (l := l) (nm := nm) (i := i + 1) (j := l.length) (by omega) h1
    rw [List.take_length, hno] at h2
    cases h2
  · rcases Nat.lt_or_ge k i with hlt | hge
    · rw [hasS_take (i := k + 1) (j := i) hlt hyes]
      exact decide_eq_true (by omega)
    · cases hh : hasS (l.take i) nm
      · exact decide_eq_false (by omega)
      · rw [hasS_take (i := i) (j := k) hge hh] at hno
        cases hno
theorem FirstS.has {l : List Section} {nm : ByteArray} {r : Int} (h : FirstS l nm r) : decide ((0 : Int) ≤ r) = hasS l nm := by
  rcases h with ⟨rfl, hno⟩ | ⟨k, rfl, hk, hno, hyes⟩
  · rw [hno]; rfl
  · have h2 := hasS_take (l := l) (nm := nm) (i := k + 1) (j := l.length) (by omega) hyes
    rw [List.take_length] at h2
    rw [h2]
    exact decide_eq_true (by omega)

set_option maxHeartbeats 1000000 in
theorem HasSection_calls (l : List Section) (v1 v2 : Value) (nm : ByteArray) (w : World) (h2 : rpSection.SL w w.heap.size l v2) (R : Ending → World → Prop)
    (hR : ∀ w' r, FirstS l nm r → Below w.heap.size w w' → R (.returned (.int .i64 r)) w') :
    Calls Tryd.prog 38 #[.agg #[v1, v2], .string nm] w R := by
  obtain ⟨A2, n2, rfl, hm2, hcap2, h2⟩ := h2.cases_
  have HR := Lib.hid hR
  have H2 := Lib.hid h2
  have Hb : Hid (Below w.heap.size w (w.alloc (Obj.cells #[v1, .slice A2 l.length n2] 25))) := Lib.hid ((Below.refl _ _).alloc (Nat.le_refl _) _)
  clear hR h2
  go_enter Tryd.func38, Tryd.ntmps38
  go_wp2
  go_loopg [5] l.length (fun g i wr => ∃ k : Nat, k ≤ l.length ∧ g = l.length - k ∧ i = .int .i64 k ∧ hasS (l.take k) nm = false ∧ wr = w.alloc (Obj.cells #[v1, .slice A2 l.length n2] 25))
  case atStart => exact ⟨0, Nat.zero_le _, rfl, rfl, rfl, rfl⟩
  case round =>
    obtain ⟨k, hk, rfl, rfl, ht, rfl⟩ := hrel
    have Ht := Lib.hid ht
    have i1 : (0 : Int) ≤ (k : Int) := Int.natCast_nonneg _
    clear ht
    by_cases hlt : k < l.length
    · obtain ⟨b, off, s, w3, w4, rfl, hb, e, h3, h4, q0, q1, q2⟩ := H2.out.section_at hlt
      have p0 := (Hb.out.cell (p := ⟨b, off + k * 3, none⟩) hb).trans q0
      have Hst : Hid (hasS (l.take (k + 1)) nm = decide (s.name = nm)) := Lib.hid (by
        have := any_step (fun x : Section => decide (x.name = nm)) e
        unfold hasS
        rw [this]
        have h0 := Ht.out
        unfold hasS at h0
        rw [h0, Bool.false_or])
      have i2 : (k : Int) < (l.length : Int) := by omega
      have hne := name_eq s.name nm
      generalize hx : decide (s.name = nm) = x at *
      have Hx := Lib.hid hx
      clear hx q0 q1 q2 e h3 h4
      cases x
      · go_wp2
        go_roundg (l.length - (k + 1))
        case measure => omega
        case rel => exact ⟨k + 1, hlt, rfl, by go_num, Hst.out, rfl⟩
      · have hfin := Lib.hid (HR.out _ (k : Int) (.inr ⟨k, rfl, hlt, Ht.out, Hst.out⟩) Hb.out)
        go_wp2
        exact hfin.out
    · obtain rfl : k = l.length := by omega
      rw [List.take_length] at Ht
      have hfin := Lib.hid (HR.out _ (-1) (.inl ⟨rfl, Ht.out⟩) Hb.out)
      go_wp2
      exact hfin.out
end Go.Proofs.YtkodcoianakjoaaDoor
