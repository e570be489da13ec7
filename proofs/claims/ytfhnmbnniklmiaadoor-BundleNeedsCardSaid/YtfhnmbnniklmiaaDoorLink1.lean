/- Names in lists, objects that have a name: their contracts. -/
import Derived.Test.YtfhnmbnniklmiaaDoorBase
import Derived.Test.YtfhnmbnniklmiaaDoorRows
import Derived.IntWalk
import Derived.Deep.LoopGhost
import Derived.Deep.CutBlock
import Derived.Deep.DeepCutAuto
import Derived.Outline
import Derived.Test.YtfhnmbnniklmiaaDoorLinkW
import Derived.Test.YtfhnmbnniklmiaaDoorObjA
import Derived.Test.YtfhnmbnniklmiaaDoorPlainA
namespace Go.Proofs.YtfhnmbnniklmiaaDoor
open Go.RowKit
set_option linter.unusedSimpArgs false
set_option linter.unusedVariables false

/-- The place of a name in a list; -1: none. -/
def idxB (l : List ByteArray) (nm : ByteArray) : Int := match l.findIdx? fun x => decide (x = nm) with
  | some k => (k : Int)
  | none => -1
theorem inB_take {l : List ByteArray} {nm : ByteArray} {k : Nat} (h : inB (l.take k) nm = false) {j : Nat} {x : ByteArray} (hj : j < k) (hx : l[j]? = some x) : x ≠ nm := by
  intro e
  obtain ⟨hl, e2⟩ := List.getElem?_eq_some_iff.1 hx
  have : inB (l.take k) nm = true := by
    rw [inB_iff]
    refine List.mem_iff_getElem.2 ⟨j, by rw [List.length_take]; omega, ?_⟩
    rw [List.getElem_take, e2, e]
  rw [h] at this
  cases this
theorem idx_some {l : List ByteArray} {nm : ByteArray} {k : Nat} (h : l[k]? = some nm) (hn : inB (l.take k) nm = false) : idxB l nm = (k : Int) := by
  obtain ⟨hk, e⟩ := List.getElem?_eq_some_iff.1 h
  unfold idxB
  have : (l.findIdx? fun x => decide (x = nm)) = some k := by
    rw [List.findIdx?_eq_some_iff_getElem]
    refine ⟨hk, by rw [e]; simp, fun j hj => ?_⟩
    have := inB_take hn hj (List.getElem?_eq_getElem (by omega))
    simp [this]
  rw [this]
theorem idx_none {l : List ByteArray} {nm : ByteArray} (hn : inB l nm = false) : idxB l nm = -1 := by
  unfold idxB
  have : (l.findIdx? fun x => decide (x = nm)) = none := by
    rw [List.findIdx?_eq_none_iff]
    intro x hx
    unfold inB at hn
    rw [List.any_eq_false] at hn
    simpa using hn x hx
  rw [this]
theorem idx_cases (l : List ByteArray) (nm : ByteArray) : (idxB l nm = -1 ∧ inB l nm = false) ∨ ∃ k : Nat, idxB l nm = (k : Int) ∧ k < l.length ∧ inB l nm = true := by
  unfold idxB
  cases h : l.findIdx? fun x => decide (x = nm) with
  | none =>
    rw [List.findIdx?_eq_none_iff] at h
    exact .inl ⟨rfl, by unfold inB; rw [List.any_eq_false]; simpa using h⟩
  | some k =>
    rw [List.findIdx?_eq_some_iff_getElem] at h
    obtain ⟨hk, hh, _⟩ := h
    refine .inr ⟨k, rfl, hk, ?_⟩
    rw [inB_iff]
    have : l[k] = nm := by simpa using hh
    exact this ▸ List.getElem_mem hk
theorem idx_neg {l : List ByteArray} {nm : ByteArray} : (decide (idxB l nm < 0)) = !inB l nm := by
  rcases idx_cases l nm with ⟨h1, h2⟩ | ⟨k, h1, _, h2⟩
  · rw [h1, h2]
    rfl
  · rw [h1, h2]
    exact decide_eq_false (by omega)
theorem inB_step {l : List ByteArray} {k : Nat} {x nm : ByteArray} (h : l[k]? = some x) : inB (l.take (k + 1)) nm = (inB (l.take k) nm || decide (x = nm)) := any_step (fun x : ByteArray => decide (x = nm)) h

set_option maxHeartbeats 1000000 in
theorem PlaceOf_calls (l : List ByteArray) (v : Value) (nm : ByteArray) (w : World) (h : rpStr.SL w w.heap.size l v) (R : Ending → World → Prop)
    (hR : R (.returned (.int .i64 (idxB l nm))) w) : Calls Tryd.prog 38 #[v, .string nm] w R := by
  obtain ⟨A, c, rfl, hm, hcap, h⟩ := h.cases_
  have HR := Lib.hid hR
  have H := Lib.hid h
  clear hR h
  go_enter Tryd.func38, Tryd.ntmps38
  go_wp2
  go_loopg [5] l.length (fun g i wr => ∃ k : Nat, k ≤ l.length ∧ g = l.length - k ∧ i = .int .i64 k ∧ inB (l.take k) nm = false ∧ wr = w)
  case atStart => exact ⟨0, Nat.zero_le _, rfl, rfl, rfl, rfl⟩
  case round =>
    obtain ⟨k, hk, rfl, rfl, ht, rfl⟩ := hrel
    rename World => w
    have Ht := Lib.hid ht
    have i1 : (0 : Int) ≤ (k : Int) := Int.natCast_nonneg _
    clear ht
    by_cases hlt : k < l.length
    · obtain ⟨b, off, s, rfl, hb, e, q0⟩ := H.out.str_at hlt
      have i2 : (k : Int) < (l.length : Int) := by omega
      have hne := name_eq s nm
      have Hst : Hid (inB (l.take (k + 1)) nm = decide (s = nm)) := Lib.hid (by rw [inB_step e, Ht.out]; simp)
      by_cases hx : s = nm
      · subst hx
        have hfin := HR.out
        rw [idx_some e Ht.out] at hfin
        have Hfin := Lib.hid hfin
        clear hfin HR
        rw [decide_eq_true rfl] at hne
        go_wp2
        exact Hfin.out
      · rw [decide_eq_false hx] at hne Hst
        have Hx := Lib.hid hx
        clear hx e
        go_wp2
        go_roundg (l.length - (k + 1))
        case measure => omega
        case rel => exact ⟨k + 1, hlt, rfl, by go_num, Hst.out, rfl⟩
    · obtain rfl : k = l.length := by omega
      rw [List.take_length] at Ht
      have hfin := HR.out
      rw [idx_none Ht.out] at hfin
      have Hfin := Lib.hid hfin
      clear hfin HR
      go_wp2
      exact Hfin.out
set_option maxHeartbeats 1000000 in
theorem IndexS_calls (l : List ByteArray) (v : Value) (nm : ByteArray) (w : World) (h : rpStr.SL w w.heap.size l v) (R : Ending → World → Prop)
    (hR : R (.returned (.int .i64 (idxB l nm))) w) : Calls Tryd.prog 64 #[v, .string nm] w R := by
  obtain ⟨A, c, rfl, hm, hcap, h⟩ := h.cases_
  have HR := Lib.hid hR
  have H := Lib.hid h
  clear hR h
  go_enter Tryd.func64, Tryd.ntmps64
  go_wp2
  go_loopg [5, 8] l.length (fun g s5 i wr => ∃ k : Nat, k ≤ l.length ∧ g = l.length - k ∧ i = .int .i64 k ∧ inB (l.take k) nm = false ∧ wr = w)
  case atStart => exact ⟨0, Nat.zero_le _, rfl, rfl, rfl, rfl⟩
  case round =>
    obtain ⟨k, hk, rfl, rfl, ht, rfl⟩ := hrel
    rename World => w
    have Ht := Lib.hid ht
    have i1 : (0 : Int) ≤ (k : Int) := Int.natCast_nonneg _
    clear ht
    by_cases hlt : k < l.length
    · obtain ⟨b, off, s, rfl, hb, e, q0⟩ := H.out.str_at hlt
      have i2 : (k : Int) < (l.length : Int) := by omega
      have hne := name_eq nm s
      have Hst : Hid (inB (l.take (k + 1)) nm = decide (s = nm)) := Lib.hid (by rw [inB_step e, Ht.out]; simp)
      by_cases hx : s = nm
      · subst hx
        have hfin := HR.out
        rw [idx_some e Ht.out] at hfin
        have Hfin := Lib.hid hfin
        clear hfin HR
        rw [decide_eq_true rfl] at hne
        go_wp2
        exact Hfin.out
      · rw [decide_eq_false (fun e => hx e.symm)] at hne
        rw [decide_eq_false hx] at Hst
        have Hx := Lib.hid hx
        clear hx e
        go_wp2
        go_roundg (l.length - (k + 1))
        case measure => omega
        case rel => exact ⟨k + 1, hlt, rfl, by go_num, Hst.out, rfl⟩
    · obtain rfl : k = l.length := by omega
      rw [List.take_length] at Ht
      have hfin := HR.out
      rw [idx_none Ht.out] at hfin
      have Hfin := Lib.hid hfin
      clear hfin HR
      go_wp2
      exact Hfin.out
theorem ContainsStr_calls (l : List ByteArray) (v : Value) (nm : ByteArray) (w : World) (h : rpStr.SL w w.heap.size l v) (R : Ending → World → Prop)
    (hR : R (.returned (.bool (inB l nm))) w) : Calls Tryd.prog 92 #[v, .string nm] w R := by
  have HR := Lib.hid hR
  clear hR
  go_enter Tryd.func92, Tryd.ntmps92
  go_wp2_with fail
  refine IndexS_calls l _ nm _ h _ ?_
  rcases idx_cases l nm with ⟨h1, h2⟩ | ⟨k, h1, _, h2⟩
  · rw [h1]
    rw [h2] at HR
    clear h1 h2 h
    go_wp2
    exact HR.out
  · rw [h1]
    rw [h2] at HR
    have i1 : (0 : Int) ≤ (k : Int) := Int.natCast_nonneg _
    clear h1 h2 h
    go_wp2
    exact HR.out
set_option maxHeartbeats 1000000 in
theorem Owner_calls (l : List Object) (v : Value) (nm : ByteArray) (w : World) (h : rpObject.SL w w.heap.size l v) (R : Ending → World → Prop)
    (hR : ∀ w', Below w.heap.size w w' → R (.returned (.int .i64 (ownerL l nm))) w') : Calls Tryd.prog 34 #[v, .string nm] w R := by
  obtain ⟨A, c, rfl, hm, hcap, h⟩ := h.cases_
  have HR := Lib.hid hR
  have H := Lib.hid h
  clear hR h
  go_enter Tryd.func34, Tryd.ntmps34
  go_wp2
  go_loopg [5] l.length (fun g i wr => ∃ k : Nat, k ≤ l.length ∧ g = l.length - k ∧ i = .int .i64 k ∧ (∀ (j : Nat) (y : Object), j < k → l[j]? = some y → hasS y.sections nm = false) ∧ Below w.heap.size w wr)
  case atStart => exact ⟨0, Nat.zero_le _, rfl, rfl, fun j y hj => absurd hj (Nat.not_lt_zero _), Below.refl _ _⟩
  case round =>
    obtain ⟨k, hk, rfl, rfl, ht, hbel⟩ := hrel
    have Ht := Lib.hid ht
    have Hb := Lib.hid hbel
    have hz := hbel.size
    have i1 : (0 : Int) ≤ (k : Int) := Int.natCast_nonneg _
    clear ht
    by_cases hlt : k < l.length
    · obtain ⟨b, off, o, v1, v2, rfl, hb, e, h1, h2, q0, q1⟩ := H.out.object_at hlt
      have p0 := (hbel.cell (p := ⟨b, off + k * 2, none⟩) hb).trans q0
      have p1 := (hbel.cell (p := ⟨b, off + k * 2 + 1, none⟩) hb).trans q1
      have i2 : (k : Int) < (l.length : Int) := by omega
      have H2 := Lib.hid (h2.up hbel hz)
      obtain ⟨A1, n1, rfl, _, _, _⟩ := h1.cases_
      obtain ⟨A2, n2, rfl, _, _, _⟩ := h2.cases_
      have E := Lib.hid e
      clear q0 q1 hbel h1 h2 e
      go_wp2_with fail
      refine HasSection_calls o.sections _ _ nm _ H2.out _ (fun w1 r hf hb1 => ?_)
      have hb2 := Hb.out.trans (hb1.mono hz)
      have Hb2 := Lib.hid hb2
      have hh := hf.has
      have Hhh := Lib.hid hh
      clear hf hb1 hb2 p0 p1
      by_cases hr : (0 : Int) ≤ r
      · rw [decide_eq_true hr] at hh
        have hfin := HR.out _ Hb2.out
        rw [owner_some E.out hh.symm Ht.out] at hfin
        have Hfin := Lib.hid hfin
        clear hfin HR hh
        go_wp2
        exact Hfin.out
      · rw [decide_eq_false hr] at hh
        have hst : ∀ (j : Nat) (y : Object), j < k + 1 → l[j]? = some y → hasS y.sections nm = false := fun j y hj hy => by
          rcases Nat.lt_or_ge j k with h | h
          · exact Ht.out j y h hy
          · obtain rfl : j = k := by omega
            rw [E.out] at hy
            cases hy
            exact hh.symm
        have Hst := Lib.hid hst
        clear hst hh
        go_wp2
        go_roundg (l.length - (k + 1))
        case measure => omega
        case rel => exact ⟨k + 1, hlt, rfl, by go_num, Hst.out, Hb2.out⟩
    · obtain rfl : k = l.length := by omega
      have hfin := HR.out _ Hb.out
      rw [owner_none fun j y hy => Ht.out j y (List.getElem?_eq_some_iff.1 hy).1 hy] at hfin
      have Hfin := Lib.hid hfin
      clear hfin HR hbel
      go_wp2
      exact Hfin.out
/-- Lists of names that are one. -/
theorem SameN_calls (l : List ByteArray) (v1 v2 : Value) (w : World) (h1 : rpStr.SL w w.heap.size l v1) (h2 : rpStr.SL w w.heap.size l v2) (R : Ending → World → Prop)
    (hR : ∀ w', Below w.heap.size w w' → R (.returned (.bool true)) w') : Calls Tryd.prog 15 #[v1, v2] w R := by
  obtain ⟨A1, c1, rfl, hm1, hcap1, h1⟩ := h1.cases_
  obtain ⟨A2, c2, rfl, hm2, hcap2, h2⟩ := h2.cases_
  have HR := Lib.hid hR
  have H1 := Lib.hid h1
  have H2 := Lib.hid h2
  clear hR h1 h2
  go_enter Tryd.func15, Tryd.ntmps15
  go_wp2
  go_loopg [5] l.length (fun g i wr => ∃ k : Nat, k ≤ l.length ∧ g = l.length - k ∧ i = .int .i64 k ∧ Below w.heap.size w wr)
  case atStart => exact ⟨0, Nat.zero_le _, rfl, rfl, Below.refl _ _⟩
  case round =>
    obtain ⟨k, hk, rfl, rfl, hbel⟩ := hrel
    have Hb := Lib.hid hbel
    have i1 : (0 : Int) ≤ (k : Int) := Int.natCast_nonneg _
    by_cases hlt : k < l.length
    · obtain ⟨b, off, s, rfl, hb, e, q0⟩ := H1.out.str_at hlt
      obtain ⟨b', off', s', rfl, hb', e', q1⟩ := H2.out.str_at hlt
      rw [e] at e'
      cases e'
      have p0 := (hbel.cell (p := ⟨b, off + k, none⟩) hb).trans q0
      have p1 := (hbel.cell (p := ⟨b', off' + k, none⟩) hb').trans q1
      have i2 : (k : Int) < (l.length : Int) := by omega
      clear q0 q1 e hbel
      go_wp2
      go_quiet (fail)
      go_wp2
      go_roundg (l.length - (k + 1))
      case measure => omega
      case rel =>
        have hb := Hb.out
        exact ⟨k + 1, hlt, rfl, by go_num, bl0⟩
    · obtain rfl : k = l.length := by omega
      have Hfin := Lib.hid (HR.out _ Hb.out)
      clear hbel
      go_wp2
      exact Hfin.out
end Go.Proofs.YtfhnmbnniklmiaaDoor
