/- Parts of an object that stand side by side, joined, are the part from the first to the last, plainly. -/
import Derived.Test.YtemakpjickbmnaaDoorJoinP
namespace Go.Proofs.YtemakpjickbmnaaDoor
open Go.RowKit
set_option linter.unusedSimpArgs false
set_option linter.unusedVariables false

/-- The sections of an object from i on, below j. -/
def segO (o : Object) (i j : Nat) : Object := ⟨o.globals, (o.sections.take j).drop i⟩
theorem hasS_false {l : List Section} {nm : ByteArray} : hasS l nm = false ↔ ∀ x ∈ l, x.name ≠ nm := by
  unfold hasS
  rw [List.any_eq_false]
  simp
theorem seg_get {o : Object} {i j k : Nat} {s : Section} (h : (segO o i j).sections[k]? = some s) : o.sections[i + k]? = some s ∧ i + k < j := by
  unfold segO at h
  simp only [] at h
  rw [List.getElem?_drop, List.getElem?_take] at h
  split at h
  · exact ⟨h, by assumption⟩
  · cases h
theorem seg_mem {o : Object} {i j k : Nat} {x : Section} (h : x ∈ ((segO o i j).sections).take k) : x ∈ o.sections.take (i + k) := by
  obtain ⟨m, hm, e⟩ := List.mem_iff_getElem.1 h
  rw [List.length_take] at hm
  have h1 : ((segO o i j).sections)[m]? = some x := by
    rw [List.getElem_take] at e
    rw [List.getElem?_eq_getElem (by omega), e]
  obtain ⟨h2, h3⟩ := seg_get h1
  obtain ⟨h4, h5⟩ := List.getElem?_eq_some_iff.1 h2
  refine List.mem_iff_getElem.2 ⟨i + m, by rw [List.length_take]; omega, ?_⟩
  rw [List.getElem_take, h5]
theorem seg_len (o : Object) (i j : Nat) : (segO o i j).sections.length = min j o.sections.length - i := by
  unfold segO
  simp
theorem seg_ok {o : Object} (h : ObjOk o) (i j : Nat) : ObjOk (segO o i j) := by
  refine ⟨h.glob, ?_, fun k s hs => ?_⟩
  · rw [seg_len]
    have := h.few
    omega
  · obtain ⟨h1, h2⟩ := seg_get hs
    have h3 := h.secs _ _ h1
    refine ⟨h3.good, h3.noG, ?_, h3.fine⟩
    rw [hasS_false]
    have := hasS_false.1 h3.noS
    exact fun x hx => this x (seg_mem hx)
theorem seg_join {o : Object} (h : ObjOk o) {i j k : Nat} (hij : i ≤ j) (hjk : j ≤ k) (hk : k ≤ o.sections.length) : joinF (segO o i j) (segO o j k) = (0, 0) ∧ joinO (segO o i j) (segO o j k) = segO o i k := by
  have hf : joinF (segO o i j) (segO o j k) = (0, 0) := by
    refine joinF_good ((objOk_iff _).2 (seg_ok h i j)) ((objOk_iff _).2 (seg_ok h j k)) (sameG_yes _) (clash_none fun m y hm hy => ?_) ?_
    · obtain ⟨h1, h2⟩ := seg_get hy
      have h3 := hasS_false.1 (h.secs _ _ h1).noS
      rw [hasS_false]
      intro x hx
      refine h3 x ?_
      have h4 : x ∈ ((segO o i j).sections).take (j - i) := by
        rw [List.take_of_length_le (by rw [seg_len]; omega)]
        exact hx
      have h5 := seg_mem h4
      rw [show i + (j - i) = j from by omega] at h5
      exact List.mem_of_mem_take (i := j) (by rw [List.take_take, Nat.min_eq_left (by omega)]; exact h5)
    · rw [seg_len, seg_len]
      have := h.few
      omega
  refine ⟨hf, ?_⟩
  rw [joinO_good hf]
  unfold segO
  simp only [Object.mk.injEq, true_and]
  apply List.ext_getElem?
  intro m
  rw [List.getElem?_append]
  simp only [List.getElem?_drop, List.getElem?_take, List.length_drop, List.length_take]
  by_cases h1 : i + m < j
  · rw [if_pos (by omega), if_pos h1, if_pos (by omega)]
  · rw [if_neg (by omega), show j + (m - (min j o.sections.length - i)) = i + m from by omega]
/-- A part is the segment of one section. -/
theorem seg_part {o : Object} (h : ObjOk o) {k : Nat} (hk : k < o.sections.length) : partF o (k : Int) = (0, 0) ∧ partO o (k : Int) = segO o k (k + 1) := by
  have ho := (objOk_iff o).2 h
  unfold partF partO
  rw [if_neg (by rw [ho]; simp), if_neg (by omega), if_neg (by rw [ho]; simp), if_neg (by omega)]
  refine ⟨rfl, ?_⟩
  unfold segO
  simp only [Int.toNat_natCast, Object.mk.injEq, true_and]
  apply List.ext_getElem?
  intro m
  simp only [List.getElem?_take, List.getElem?_drop]
  by_cases h1 : m < 1
  · rw [if_pos h1, if_pos (by omega)]
  · rw [if_neg h1, if_neg (by omega)]
theorem seg_all (o : Object) : segO o 0 o.sections.length = o := by
  unfold segO
  simp
end Go.Proofs.YtemakpjickbmnaaDoor
