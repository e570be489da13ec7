/- What joining two objects comes to, plainly. -/
import Derived.Test.YtemakpjickbmnaaDoorSameA
import Derived.Test.YtemakpjickbmnaaDoorPlainA
namespace Go.Proofs.YtemakpjickbmnaaDoor
open Go.RowKit
set_option linter.unusedSimpArgs false
set_option linter.unusedVariables false

/-- The first section whose name the other one has. -/
def clashAt (a b : List Section) : Option Nat := b.findIdx? fun s => hasS a s.name
def joinF (a b : Object) : Int × Int := if (objFault a).1 ≠ 0 then objFault a else if (objFault b).1 ≠ 0 then objFault b else if sameG a.globals b.globals = false then (5, 0) else
  match clashAt a.sections b.sections with
  | some k => (7, (k : Int))
  | none => if 40 < a.sections.length + b.sections.length then (2, 0) else (0, 0)
def joinO (a b : Object) : Object := if (joinF a b).1 ≠ 0 then ⟨[], []⟩ else ⟨a.globals, a.sections ++ b.sections⟩
theorem joinO_fault {a b : Object} {F : Int × Int} (h : joinF a b = F) (hc : F.1 ≠ 0) : joinO a b = ⟨[], []⟩ := by
  unfold joinO
  rw [h, if_pos hc]
theorem joinO_good {a b : Object} (h : joinF a b = (0, 0)) : joinO a b = ⟨a.globals, a.sections ++ b.sections⟩ := by
  unfold joinO
  rw [h, if_neg (by simp)]
theorem joinF_a {a b : Object} (h : (objFault a).1 ≠ 0) : joinF a b = objFault a := by
  unfold joinF
  rw [if_pos h]
theorem joinF_b {a b : Object} (ha : objFault a = (0, 0)) (h : (objFault b).1 ≠ 0) : joinF a b = objFault b := by
  unfold joinF
  rw [if_neg (by rw [ha]; simp), if_pos h]
theorem joinF_globals {a b : Object} (ha : objFault a = (0, 0)) (hb : objFault b = (0, 0)) (h : sameG a.globals b.globals = false) : joinF a b = (5, 0) := by
  unfold joinF
  rw [if_neg (by rw [ha]; simp), if_neg (by rw [hb]; simp), if_pos h]
theorem clash_some {a b : List Section} {k : Nat} {s : Section} (h : ∀ j y, j < k → b[j]? = some y → hasS a y.name = false) (hs : b[k]? = some s) (hc : hasS a s.name = true) : clashAt a b = some k := by
  unfold clashAt
  obtain ⟨hk, e⟩ := List.getElem?_eq_some_iff.1 hs
  rw [List.findIdx?_eq_some_iff_getElem]
  refine ⟨hk, by rw [e]; exact hc, fun j hj => ?_⟩
  have hjb : j < b.length := by omega
  have := h j b[j] hj (List.getElem?_eq_getElem hjb)
  simp [this]
theorem clash_none {a b : List Section} (h : ∀ j y, j < b.length → b[j]? = some y → hasS a y.name = false) : clashAt a b = none := by
  unfold clashAt
  rw [List.findIdx?_eq_none_iff]
  intro x hx
  obtain ⟨j, hj, e⟩ := List.mem_iff_getElem.1 hx
  exact h j x hj (by rw [List.getElem?_eq_getElem hj, e])
theorem clash_step {a b : List Section} {k : Nat} {s : Section} (h : ∀ j y, j < k → b[j]? = some y → hasS a y.name = false) (hs : b[k]? = some s) (hc : hasS a s.name = false) : ∀ j y, j < k + 1 → b[j]? = some y → hasS a y.name = false := fun j y hj hy => by
  rcases Nat.lt_or_ge j k with hlt | hge
  · exact h j y hlt hy
  · obtain rfl : j = k := by omega
    rw [hs] at hy
    cases hy
    exact hc
theorem joinF_clash {a b : Object} {k : Nat} (ha : objFault a = (0, 0)) (hb : objFault b = (0, 0)) (h : sameG a.globals b.globals = true) (hc : clashAt a.sections b.sections = some k) : joinF a b = (7, (k : Int)) := by
  unfold joinF
  rw [if_neg (by rw [ha]; simp), if_neg (by rw [hb]; simp), if_neg (by rw [h]; simp), hc]
theorem joinF_many {a b : Object} (ha : objFault a = (0, 0)) (hb : objFault b = (0, 0)) (h : sameG a.globals b.globals = true) (hc : clashAt a.sections b.sections = none) (hm : 40 < a.sections.length + b.sections.length) : joinF a b = (2, 0) := by
  unfold joinF
  rw [if_neg (by rw [ha]; simp), if_neg (by rw [hb]; simp), if_neg (by rw [h]; simp), hc]
  simp [hm]
theorem joinF_good {a b : Object} (ha : objFault a = (0, 0)) (hb : objFault b = (0, 0)) (h : sameG a.globals b.globals = true) (hc : clashAt a.sections b.sections = none) (hm : ¬ 40 < a.sections.length + b.sections.length) : joinF a b = (0, 0) := by
  unfold joinF
  rw [if_neg (by rw [ha]; simp), if_neg (by rw [hb]; simp), if_neg (by rw [h]; simp), hc]
  simp only []
  rw [if_neg hm]
end Go.Proofs.YtemakpjickbmnaaDoor
