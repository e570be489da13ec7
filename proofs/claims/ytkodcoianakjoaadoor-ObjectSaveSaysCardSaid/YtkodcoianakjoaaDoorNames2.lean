/- Is there a thing of a name in a list: slices.ContainsFunc, its closures. -/
import Derived.Test.YtkodcoianakjoaaDoorLib
import Derived.Test.YtkodcoianakjoaaDoorRows
import Derived.IntWalk
import Derived.Deep.LoopGhost
import Derived.Test.YtkodcoianakjoaaDoorObjPlain
import Derived.Test.YtkodcoianakjoaaDoorLib3
namespace Go.Proofs.YtkodcoianakjoaaDoor
open Go.RowKit
set_option linter.unusedSimpArgs false
set_option linter.unusedVariables false

theorem name_eq (a b : ByteArray) : (a.toList == b.toList) = decide (a = b) := by
  by_cases h : a = b
  · subst h; simp
  · rw [decide_eq_false h]
    apply beq_false_of_ne
    intro e
    exact h (ByteArray.ext (by simpa [ByteArray.toList_eq] using e))
theorem any_step {α : Type} (p : α → Bool) {l : List α} {k : Nat} {x : α} (h : l[k]? = some x) : (l.take (k + 1)).any p = ((l.take k).any p || p x) := by
  have hk := (List.getElem?_eq_some_iff.1 h)
  obtain ⟨hk, e⟩ := hk
  rw [List.take_succ_eq_append_getElem hk, List.any_append, e]
  simp
theorem any_of_take {α : Type} (p : α → Bool) {l : List α} {k : Nat} (h : (l.take k).any p = true) : l.any p = true := by
  rw [List.any_eq_true] at h ⊢
  obtain ⟨x, hx, hp⟩ := h
  exact ⟨x, List.mem_of_mem_take hx, hp⟩
def hasG (l : List Global) (nm : ByteArray) : Bool := l.any fun g => decide (g.name = nm)
def hasS (l : List Section) (nm : ByteArray) : Bool := l.any fun g => decide (g.name = nm)

set_option maxHeartbeats 1000000 in
theorem closGM_calls (n : ByteArray) (z : Int) (v : Value) (nm : ByteArray) (M : Nat) (w : World) (hM : M < w.heap.size) (hc : w.cell? ⟨M, 0, none⟩ = some (.string nm)) (R : Ending → World → Prop)
    (hR : ∀ w', Below w.heap.size w w' → R (.returned (.bool (decide (n = nm)))) w') :
    Calls Tryd.prog 80 #[.agg #[.string n, .int .i64 z, v], .pointer (some ⟨M, 0, none⟩)] w R := by
  have HR := Lib.hid hR
  clear hR
  go_enter Tryd.func80, Tryd.ntmps80
  go_wp2
  rw [name_eq]
  exact HR.out _ (by repeat (first | exact Below.refl _ _ | assumption | refine below_drewN ?_ _ | refine Below.drew ?_ | refine Below.setCell ?_ (by first | omega | (simp; done) | (simp; omega)) _ | refine Below.alloc ?_ (by first | omega | (simp; done) | (simp; omega)) _ | refine below_step (by assumption) ?_ (by first | omega | (simp; done) | (simp; omega))))
set_option maxHeartbeats 1000000 in
theorem indexGM_calls (v : Value) (xs : List Global) (nm : ByteArray) (M : Nat) (w : World) (h : rpGlobal.SL w w.heap.size xs v) (hc : w.cell? ⟨M, 0, none⟩ = some (.string nm)) (R : Ending → World → Prop)
    (hR : ∀ w' r, Below w.heap.size w w' → (decide ((0 : Int) ≤ r) = hasG xs nm) → R (.returned (.int .i64 r)) w') :
    Calls Tryd.prog 81 #[v, .func (.func 80) #[] #[.pointer (some ⟨M, 0, none⟩)]] w R := by
  have hM : M < w.heap.size := World.block_lt_of_cell? w _ hc
  obtain ⟨A, c, rfl, hm, hcap, hs⟩ := h.cases_
  have Hs := Lib.hid hs
  have HR := Lib.hid hR
  have Hc := Lib.hid hc
  clear hR h hs hc
  go_enter Tryd.func81, Tryd.ntmps81
  go_wp2
  go_loopg [5, 8] xs.length (fun g j i wr => ∃ k : Nat, k ≤ xs.length ∧ g = xs.length - k ∧ i = .int .i64 k ∧ hasG (xs.take k) nm = false ∧ Below w.heap.size w wr)
  case atStart => exact ⟨0, Nat.zero_le _, rfl, rfl, rfl, Below.refl _ _⟩
  case round =>
    obtain ⟨k, hk, rfl, rfl, ht, hbel⟩ := hrel
    have Ht := Lib.hid ht
    have Hb := Lib.hid hbel
    have hz := hbel.size
    clear ht
    by_cases hlt : k < xs.length
    · obtain ⟨b, off, g, v1, rfl, hb, e, h1, q0, q1, q2⟩ := Hs.out.global_at hlt
      have p0 := (hbel.cell (p := ⟨b, off + k * 3, none⟩) hb).trans q0
      have p1 := (hbel.cell (p := ⟨b, off + k * 3 + 1, none⟩) hb).trans q1
      have p2 := (hbel.cell (p := ⟨b, off + k * 3 + 2, none⟩) hb).trans q2
      have pm := Lib.hid ((hbel.cell (p := ⟨M, 0, none⟩) hM).trans Hc.out)
      have Hst : Hid (hasG (xs.take (k + 1)) nm = decide (g.name = nm)) := Lib.hid (by
        have := any_step (fun g : Global => decide (g.name = nm)) e
        unfold hasG
        rw [this]
        have h0 := Ht.out
        unfold hasG at h0
        rw [h0, Bool.false_or])
      have i1 : (0 : Int) ≤ (k : Int) := Int.natCast_nonneg _
      have i2 : (k : Int) < (xs.length : Int) := by omega
      clear q0 q1 q2 e hbel
      go_wp2_with fail
      refine closGM_calls _ _ _ nm M _ (by omega) pm.out _ (fun w1 hb1 => ?_)
      have hb2 := Hb.out.trans (hb1.mono hz)
      have Hb2 := Lib.hid hb2
      clear hb1 hb2
      generalize hx : decide (g.name = nm) = x at *
      have Hx := Lib.hid hx
      clear hx
      cases x
      · go_wp2
        go_roundg (xs.length - (k + 1))
        case measure => omega
        case rel => exact ⟨k + 1, hlt, rfl, by go_num, Hst.out, Hb2.out⟩
      · have hfin := Lib.hid (HR.out)
        go_wp2
        refine hfin.out _ _ Hb2.out ?_
        rw [hasG, any_of_take _ Hst.out]
        exact decide_eq_true i1
    · obtain rfl : k = xs.length := by omega
      rw [List.take_length] at Ht
      have Hb2 := Lib.hid hbel
      clear hbel
      go_wp2
      refine HR.out _ _ Hb2.out ?_
      rw [Ht.out]
      rfl
set_option maxHeartbeats 1000000 in
theorem containsGM_calls (v : Value) (xs : List Global) (nm : ByteArray) (M : Nat) (w : World) (h : rpGlobal.SL w w.heap.size xs v) (hc : w.cell? ⟨M, 0, none⟩ = some (.string nm)) (R : Ending → World → Prop)
    (hR : ∀ w', Below w.heap.size w w' → R (.returned (.bool (hasG xs nm))) w') :
    Calls Tryd.prog 44 #[v, .func (.func 80) #[] #[.pointer (some ⟨M, 0, none⟩)]] w R := by
  have HR := Lib.hid hR
  clear hR
  go_enter Tryd.func44, Tryd.ntmps44
  go_wp2_with fail
  refine indexGM_calls v xs nm M _ h hc _ (fun w1 r hb1 hr => ?_)
  have Hf := Lib.hid (HR.out _ hb1)
  have Hr := Lib.hid hr
  clear hr hb1 h
  go_wp2
  rw [Hr.out]
  exact Hf.out
set_option maxHeartbeats 1000000 in
theorem closGO_calls (n : ByteArray) (z : Int) (v : Value) (nm : ByteArray) (M : Nat) (w : World) (hM : M < w.heap.size) (hc : w.cell? ⟨M, 0, none⟩ = some (.string nm)) (R : Ending → World → Prop)
    (hR : ∀ w', Below w.heap.size w w' → R (.returned (.bool (decide (n = nm)))) w') :
    Calls Tryd.prog 45 #[.agg #[.string n, .int .i64 z, v], .pointer (some ⟨M, 0, none⟩)] w R := by
  have HR := Lib.hid hR
  clear hR
  go_enter Tryd.func45, Tryd.ntmps45
  go_wp2
  rw [name_eq]
  exact HR.out _ (by repeat (first | exact Below.refl _ _ | assumption | refine below_drewN ?_ _ | refine Below.drew ?_ | refine Below.setCell ?_ (by first | omega | (simp; done) | (simp; omega)) _ | refine Below.alloc ?_ (by first | omega | (simp; done) | (simp; omega)) _ | refine below_step (by assumption) ?_ (by first | omega | (simp; done) | (simp; omega))))
set_option maxHeartbeats 1000000 in
theorem indexGO_calls (v : Value) (xs : List Global) (nm : ByteArray) (M : Nat) (w : World) (h : rpGlobal.SL w w.heap.size xs v) (hc : w.cell? ⟨M, 0, none⟩ = some (.string nm)) (R : Ending → World → Prop)
    (hR : ∀ w' r, Below w.heap.size w w' → (decide ((0 : Int) ≤ r) = hasG xs nm) → R (.returned (.int .i64 r)) w') :
    Calls Tryd.prog 81 #[v, .func (.func 45) #[] #[.pointer (some ⟨M, 0, none⟩)]] w R := by
  have hM : M < w.heap.size := World.block_lt_of_cell? w _ hc
  obtain ⟨A, c, rfl, hm, hcap, hs⟩ := h.cases_
  have Hs := Lib.hid hs
  have HR := Lib.hid hR
  have Hc := Lib.hid hc
  clear hR h hs hc
  go_enter Tryd.func81, Tryd.ntmps81
  go_wp2
  go_loopg [5, 8] xs.length (fun g j i wr => ∃ k : Nat, k ≤ xs.length ∧ g = xs.length - k ∧ i = .int .i64 k ∧ hasG (xs.take k) nm = false ∧ Below w.heap.size w wr)
  case atStart => exact ⟨0, Nat.zero_le _, rfl, rfl, rfl, Below.refl _ _⟩
  case round =>
    obtain ⟨k, hk, rfl, rfl, ht, hbel⟩ := hrel
    have Ht := Lib.hid ht
    have Hb := Lib.hid hbel
    have hz := hbel.size
    clear ht
    by_cases hlt : k < xs.length
    · obtain ⟨b, off, g, v1, rfl, hb, e, h1, q0, q1, q2⟩ := Hs.out.global_at hlt
      have p0 := (hbel.cell (p := ⟨b, off + k * 3, none⟩) hb).trans q0
      have p1 := (hbel.cell (p := ⟨b, off + k * 3 + 1, none⟩) hb).trans q1
      have p2 := (hbel.cell (p := ⟨b, off + k * 3 + 2, none⟩) hb).trans q2
      have pm := Lib.hid ((hbel.cell (p := ⟨M, 0, none⟩) hM).trans Hc.out)
      have Hst : Hid (hasG (xs.take (k + 1)) nm = decide (g.name = nm)) := Lib.hid (by
        have := any_step (fun g : Global => decide (g.name = nm)) e
        unfold hasG
        rw [this]
        have h0 := Ht.out
        unfold hasG at h0
        rw [h0, Bool.false_or])
      have i1 : (0 : Int) ≤ (k : Int) := Int.natCast_nonneg _
      have i2 : (k : Int) < (xs.length : Int) := by omega
      clear q0 q1 q2 e hbel
      go_wp2_with fail
      refine closGO_calls _ _ _ nm M _ (by omega) pm.out _ (fun w1 hb1 => ?_)
      have hb2 := Hb.out.trans (hb1.mono hz)
      have Hb2 := Lib.hid hb2
      clear hb1 hb2
      generalize hx : decide (g.name = nm) = x at *
      have Hx := Lib.hid hx
      clear hx
      cases x
      · go_wp2
        go_roundg (xs.length - (k + 1))
        case measure => omega
        case rel => exact ⟨k + 1, hlt, rfl, by go_num, Hst.out, Hb2.out⟩
      · have hfin := Lib.hid (HR.out)
        go_wp2
        refine hfin.out _ _ Hb2.out ?_
        rw [hasG, any_of_take _ Hst.out]
        exact decide_eq_true i1
    · obtain rfl : k = xs.length := by omega
      rw [List.take_length] at Ht
      have Hb2 := Lib.hid hbel
      clear hbel
      go_wp2
      refine HR.out _ _ Hb2.out ?_
      rw [Ht.out]
      rfl
set_option maxHeartbeats 1000000 in
theorem containsGO_calls (v : Value) (xs : List Global) (nm : ByteArray) (M : Nat) (w : World) (h : rpGlobal.SL w w.heap.size xs v) (hc : w.cell? ⟨M, 0, none⟩ = some (.string nm)) (R : Ending → World → Prop)
    (hR : ∀ w', Below w.heap.size w w' → R (.returned (.bool (hasG xs nm))) w') :
    Calls Tryd.prog 44 #[v, .func (.func 45) #[] #[.pointer (some ⟨M, 0, none⟩)]] w R := by
  have HR := Lib.hid hR
  clear hR
  go_enter Tryd.func44, Tryd.ntmps44
  go_wp2_with fail
  refine indexGO_calls v xs nm M _ h hc _ (fun w1 r hb1 hr => ?_)
  have Hf := Lib.hid (HR.out _ hb1)
  have Hr := Lib.hid hr
  clear hr hb1 h
  go_wp2
  rw [Hr.out]
  exact Hf.out
set_option maxHeartbeats 1000000 in
theorem closSO_calls (n : ByteArray) (z v : Value) (nm : ByteArray) (M : Nat) (w : World) (hM : M < w.heap.size) (hc : w.cell? ⟨M, 0, none⟩ = some (.string nm)) (R : Ending → World → Prop)
    (hR : ∀ w', Below w.heap.size w w' → R (.returned (.bool (decide (n = nm)))) w') :
    Calls Tryd.prog 46 #[.agg #[.string n, z, v], .pointer (some ⟨M, 0, none⟩)] w R := by
  have HR := Lib.hid hR
  clear hR
  go_enter Tryd.func46, Tryd.ntmps46
  go_wp2
  rw [name_eq]
  exact HR.out _ (by repeat (first | exact Below.refl _ _ | assumption | refine below_drewN ?_ _ | refine Below.drew ?_ | refine Below.setCell ?_ (by first | omega | (simp; done) | (simp; omega)) _ | refine Below.alloc ?_ (by first | omega | (simp; done) | (simp; omega)) _ | refine below_step (by assumption) ?_ (by first | omega | (simp; done) | (simp; omega))))
set_option maxHeartbeats 1000000 in
theorem indexSO_calls (v : Value) (xs : List Section) (nm : ByteArray) (M : Nat) (w : World) (h : rpSection.SL w w.heap.size xs v) (hc : w.cell? ⟨M, 0, none⟩ = some (.string nm)) (R : Ending → World → Prop)
    (hR : ∀ w' r, Below w.heap.size w w' → (decide ((0 : Int) ≤ r) = hasS xs nm) → R (.returned (.int .i64 r)) w') :
    Calls Tryd.prog 76 #[v, .func (.func 46) #[] #[.pointer (some ⟨M, 0, none⟩)]] w R := by
  have hM : M < w.heap.size := World.block_lt_of_cell? w _ hc
  obtain ⟨A, c, rfl, hm, hcap, hs⟩ := h.cases_
  have Hs := Lib.hid hs
  have HR := Lib.hid hR
  have Hc := Lib.hid hc
  clear hR h hs hc
  go_enter Tryd.func76, Tryd.ntmps76
  go_wp2
  go_loopg [5, 8] xs.length (fun g j i wr => ∃ k : Nat, k ≤ xs.length ∧ g = xs.length - k ∧ i = .int .i64 k ∧ hasS (xs.take k) nm = false ∧ Below w.heap.size w wr)
  case atStart => exact ⟨0, Nat.zero_le _, rfl, rfl, rfl, Below.refl _ _⟩
  case round =>
    obtain ⟨k, hk, rfl, rfl, ht, hbel⟩ := hrel
    have Ht := Lib.hid ht
    have Hb := Lib.hid hbel
    have hz := hbel.size
    clear ht
    by_cases hlt : k < xs.length
    · obtain ⟨b, off, g, v1, v2, rfl, hb, e, h1, h2, q0, q1, q2⟩ := Hs.out.section_at hlt
      have p0 := (hbel.cell (p := ⟨b, off + k * 3, none⟩) hb).trans q0
      have p1 := (hbel.cell (p := ⟨b, off + k * 3 + 1, none⟩) hb).trans q1
      have p2 := (hbel.cell (p := ⟨b, off + k * 3 + 2, none⟩) hb).trans q2
      have pm := Lib.hid ((hbel.cell (p := ⟨M, 0, none⟩) hM).trans Hc.out)
      have Hst : Hid (hasS (xs.take (k + 1)) nm = decide (g.name = nm)) := Lib.hid (by
        have := any_step (fun g : Section => decide (g.name = nm)) e
        unfold hasS
        rw [this]
        have h0 := Ht.out
        unfold hasS at h0
        rw [h0, Bool.false_or])
      have i1 : (0 : Int) ≤ (k : Int) := Int.natCast_nonneg _
      have i2 : (k : Int) < (xs.length : Int) := by omega
      clear q0 q1 q2 e hbel
      go_wp2_with fail
      refine closSO_calls _ _ _ nm M _ (by omega) pm.out _ (fun w1 hb1 => ?_)
      have hb2 := Hb.out.trans (hb1.mono hz)
      have Hb2 := Lib.hid hb2
      clear hb1 hb2
      generalize hx : decide (g.name = nm) = x at *
      have Hx := Lib.hid hx
      clear hx
      cases x
      · go_wp2
        go_roundg (xs.length - (k + 1))
        case measure => omega
        case rel => exact ⟨k + 1, hlt, rfl, by go_num, Hst.out, Hb2.out⟩
      · have hfin := Lib.hid (HR.out)
        go_wp2
        refine hfin.out _ _ Hb2.out ?_
        rw [hasS, any_of_take _ Hst.out]
        exact decide_eq_true i1
    · obtain rfl : k = xs.length := by omega
      rw [List.take_length] at Ht
      have Hb2 := Lib.hid hbel
      clear hbel
      go_wp2
      refine HR.out _ _ Hb2.out ?_
      rw [Ht.out]
      rfl
set_option maxHeartbeats 1000000 in
theorem containsSO_calls (v : Value) (xs : List Section) (nm : ByteArray) (M : Nat) (w : World) (h : rpSection.SL w w.heap.size xs v) (hc : w.cell? ⟨M, 0, none⟩ = some (.string nm)) (R : Ending → World → Prop)
    (hR : ∀ w', Below w.heap.size w w' → R (.returned (.bool (hasS xs nm))) w') :
    Calls Tryd.prog 35 #[v, .func (.func 46) #[] #[.pointer (some ⟨M, 0, none⟩)]] w R := by
  have HR := Lib.hid hR
  clear hR
  go_enter Tryd.func35, Tryd.ntmps35
  go_wp2_with fail
  refine indexSO_calls v xs nm M _ h hc _ (fun w1 r hb1 hr => ?_)
  have Hf := Lib.hid (HR.out _ hb1)
  have Hr := Lib.hid hr
  clear hr hb1 h
  go_wp2
  rw [Hr.out]
  exact Hf.out
set_option maxHeartbeats 1000000 in
theorem closSJ_calls (n : ByteArray) (z v : Value) (nm : ByteArray) (M : Nat) (w : World) (hM : M < w.heap.size) (hc : w.cell? ⟨M, 0, none⟩ = some (.string nm)) (R : Ending → World → Prop)
    (hR : ∀ w', Below w.heap.size w w' → R (.returned (.bool (decide (n = nm)))) w') :
    Calls Tryd.prog 36 #[.agg #[.string n, z, v], .pointer (some ⟨M, 0, none⟩)] w R := by
  have HR := Lib.hid hR
  clear hR
  go_enter Tryd.func36, Tryd.ntmps36
  go_wp2
  rw [name_eq]
  exact HR.out _ (by repeat (first | exact Below.refl _ _ | assumption | refine below_drewN ?_ _ | refine Below.drew ?_ | refine Below.setCell ?_ (by first | omega | (simp; done) | (simp; omega)) _ | refine Below.alloc ?_ (by first | omega | (simp; done) | (simp; omega)) _ | refine below_step (by assumption) ?_ (by first | omega | (simp; done) | (simp; omega))))
set_option maxHeartbeats 1000000 in
theorem indexSJ_calls (v : Value) (xs : List Section) (nm : ByteArray) (M : Nat) (w : World) (h : rpSection.SL w w.heap.size xs v) (hc : w.cell? ⟨M, 0, none⟩ = some (.string nm)) (R : Ending → World → Prop)
    (hR : ∀ w' r, Below w.heap.size w w' → (decide ((0 : Int) ≤ r) = hasS xs nm) → R (.returned (.int .i64 r)) w') :
    Calls Tryd.prog 76 #[v, .func (.func 36) #[] #[.pointer (some ⟨M, 0, none⟩)]] w R := by
  have hM : M < w.heap.size := World.block_lt_of_cell? w _ hc
  obtain ⟨A, c, rfl, hm, hcap, hs⟩ := h.cases_
  have Hs := Lib.hid hs
  have HR := Lib.hid hR
  have Hc := Lib.hid hc
  clear hR h hs hc
  go_enter Tryd.func76, Tryd.ntmps76
  go_wp2
  go_loopg [5, 8] xs.length (fun g j i wr => ∃ k : Nat, k ≤ xs.length ∧ g = xs.length - k ∧ i = .int .i64 k ∧ hasS (xs.take k) nm = false ∧ Below w.heap.size w wr)
  case atStart => exact ⟨0, Nat.zero_le _, rfl, rfl, rfl, Below.refl _ _⟩
  case round =>
    obtain ⟨k, hk, rfl, rfl, ht, hbel⟩ := hrel
    have Ht := Lib.hid ht
    have Hb := Lib.hid hbel
    have hz := hbel.size
    clear ht
    by_cases hlt : k < xs.length
    · obtain ⟨b, off, g, v1, v2, rfl, hb, e, h1, h2, q0, q1, q2⟩ := Hs.out.section_at hlt
      have p0 := (hbel.cell (p := ⟨b, off + k * 3, none⟩) hb).trans q0
      have p1 := (hbel.cell (p := ⟨b, off + k * 3 + 1, none⟩) hb).trans q1
      have p2 := (hbel.cell (p := ⟨b, off + k * 3 + 2, none⟩) hb).trans q2
      have pm := Lib.hid ((hbel.cell (p := ⟨M, 0, none⟩) hM).trans Hc.out)
      have Hst : Hid (hasS (xs.take (k + 1)) nm = decide (g.name = nm)) := Lib.hid (by
        have := any_step (fun g : Section => decide (g.name = nm)) e
        unfold hasS
        rw [this]
        have h0 := Ht.out
        unfold hasS at h0
        rw [h0, Bool.false_or])
      have i1 : (0 : Int) ≤ (k : Int) := Int.natCast_nonneg _
      have i2 : (k : Int) < (xs.length : Int) := by omega
      clear q0 q1 q2 e hbel
      go_wp2_with fail
      refine closSJ_calls _ _ _ nm M _ (by omega) pm.out _ (fun w1 hb1 => ?_)
      have hb2 := Hb.out.trans (hb1.mono hz)
      have Hb2 := Lib.hid hb2
      clear hb1 hb2
      generalize hx : decide (g.name = nm) = x at *
      have Hx := Lib.hid hx
      clear hx
      cases x
      · go_wp2
        go_roundg (xs.length - (k + 1))
        case measure => omega
        case rel => exact ⟨k + 1, hlt, rfl, by go_num, Hst.out, Hb2.out⟩
      · have hfin := Lib.hid (HR.out)
        go_wp2
        refine hfin.out _ _ Hb2.out ?_
        rw [hasS, any_of_take _ Hst.out]
        exact decide_eq_true i1
    · obtain rfl : k = xs.length := by omega
      rw [List.take_length] at Ht
      have Hb2 := Lib.hid hbel
      clear hbel
      go_wp2
      refine HR.out _ _ Hb2.out ?_
      rw [Ht.out]
      rfl
set_option maxHeartbeats 1000000 in
theorem containsSJ_calls (v : Value) (xs : List Section) (nm : ByteArray) (M : Nat) (w : World) (h : rpSection.SL w w.heap.size xs v) (hc : w.cell? ⟨M, 0, none⟩ = some (.string nm)) (R : Ending → World → Prop)
    (hR : ∀ w', Below w.heap.size w w' → R (.returned (.bool (hasS xs nm))) w') :
    Calls Tryd.prog 35 #[v, .func (.func 36) #[] #[.pointer (some ⟨M, 0, none⟩)]] w R := by
  have HR := Lib.hid hR
  clear hR
  go_enter Tryd.func35, Tryd.ntmps35
  go_wp2_with fail
  refine indexSJ_calls v xs nm M _ h hc _ (fun w1 r hb1 hr => ?_)
  have Hf := Lib.hid (HR.out _ hb1)
  have Hr := Lib.hid hr
  clear hr hb1 h
  go_wp2
  rw [Hr.out]
  exact Hf.out
end Go.Proofs.YtkodcoianakjoaaDoor
