/- The object that is made of raw numbers may be. -/
import Derived.Test.YtfhnmbnniklmiaaDoorKitO
namespace Go.Proofs.YtfhnmbnniklmiaaDoor
open Go.RowKit
set_option linter.unusedSimpArgs false
set_option linter.unusedVariables false

theorem getD_I64 {l : List Int} (h : ∀ x ∈ l, I64 x) (i : Nat) : I64 (l.getD i 0) := by
  rcases Nat.lt_or_ge i l.length with hlt | hge
  · rw [List.getD_eq_getElem?_getD, List.getElem?_eq_getElem hlt]
    exact h _ (List.getElem_mem hlt)
  · rw [List.getD_eq_getElem?_getD, List.getElem?_eq_none hge]
    exact ⟨by decide, by decide⟩
theorem codeOf_len (l : List Int) (n r : Nat) : (codeOf l n r).length = codeMany l n + 1 := by unfold codeOf; simp
theorem codeOf_mem {l : List Int} {n r : Nat} {m : Mac} (h : m ∈ codeOf l n r) : (∃ i, m = macAt l (codeMany l n + 1) r i) ∨ m = ⟨45, 0, 0, 0, 0⟩ := by
  unfold codeOf at h
  rcases List.mem_append.1 h with h | h
  · obtain ⟨i, _, e⟩ := List.mem_map.1 h
    exact .inl ⟨i, e.symm⟩
  · exact .inr (by simpa using h)
theorem macOf_true (a b n : Int) (many r : Nat) (hn : I64 n) (hm : 0 < many) (hm1 : many ≤ 1000000) (hr1 : r ≤ 1000000) : TrueMac (macOf a b n many r) := by
  refine ⟨macOf_good a b n many r hn hm hm1 hr1, fun h => ?_, fun h => ?_, fun h => ?_, fun h => ?_⟩
  · show (if (shapeOf (opOf a r)).d then b % 4 else 0) = 0
    rw [show (shapeOf (opOf a r)).d = false from h]
    rfl
  · show (if (shapeOf (opOf a r)).a then b.tdiv 4 % 4 else 0) = 0
    rw [show (shapeOf (opOf a r)).a = false from h]
    rfl
  · show (if (shapeOf (opOf a r)).b then b.tdiv 16 % 4 else 0) = 0
    rw [show (shapeOf (opOf a r)).b = false from h]
    rfl
  · show numOf (opOf a r) b n many r = 0
    unfold numOf
    rw [show (shapeOf (opOf a r)).n = 0 from h]
    rfl
theorem ret_true : TrueMac ⟨45, 0, 0, 0, 0⟩ := by
  refine ⟨⟨by decide, fun x hx => ?_, by decide, by decide⟩, fun _ => rfl, fun _ => rfl, fun _ => rfl, fun _ => rfl⟩
  have : regsOf ⟨45, 0, 0, 0, 0⟩ = [] := by decide
  rw [this] at hx
  cases hx
theorem codeOf_true {l : List Int} {n r : Nat} (hl : ∀ x ∈ l, I64 x) (hn : n ≤ 1000) (hr : r ≤ 1000) : ∀ m ∈ codeOf l n r, TrueMac m := fun m hm => by
  have hmany : codeMany l n ≤ 1000 := by unfold codeMany; omega
  rcases codeOf_mem hm with ⟨i, rfl⟩ | rfl
  · exact macOf_true _ _ _ _ _ (getD_I64 hl _) (by omega) (by omega) (by omega)
  · exact ret_true
theorem codeOf_fine {l : List Int} {n r : Nat} : ∀ m ∈ codeOf l n r, macF m (codeOf l n r).length = 0 := fun m hm => by
  rw [codeOf_len]
  rcases codeOf_mem hm with ⟨i, rfl⟩ | rfl
  · exact macOf_fine _ _ _ _ _ _ (by omega) (by omega)
  · rfl
theorem codeOf_call {l : List Int} {n r : Nat} : ∀ m ∈ codeOf l n r, m.op = 44 → 0 ≤ m.n ∧ m.n < (r : Int) := fun m hm h => by
  rcases codeOf_mem hm with ⟨i, rfl⟩ | rfl
  · have h' : opOf (l.getD (3 * i) 0) r = 44 := h
    have hr := opOf_routine (l.getD (3 * i) 0) r (by rw [h']; rfl)
    show 0 ≤ numOf (opOf (l.getD (3 * i) 0) r) _ _ _ r ∧ numOf (opOf (l.getD (3 * i) 0) r) _ _ _ r < (r : Int)
    rw [h']
    unfold numOf
    have := mod_range (l.getD (3 * i + 2) 0) r (by omega)
    simpa [show (shapeOf 44).n = 4 from rfl] using this
  · cases h
theorem ownM_op (m : Mac) : (ownM m).op = m.op := by unfold ownM; split <;> rfl
theorem ownM_true {m : Mac} (h : TrueMac m) : TrueMac (ownM m) := by
  unfold ownM
  split
  · exact ⟨⟨h.known, h.regs, (show I64 0 from ⟨by decide, by decide⟩)⟩, h.dst, h.a, h.b, fun _ => rfl⟩
  · exact h
theorem ownM_fine {m : Mac} {len : Int} (ht : TrueMac m) (h : macF m len = 0) : macF (ownM m) len = 0 := by
  unfold ownM
  split
  · rename_i ho
    have h1 := ht.dst (by rw [ho]; rfl)
    have h2 := ht.a (by rw [ho]; rfl)
    have h3 := ht.b (by rw [ho]; rfl)
    rw [ho, h1, h2, h3]
    rfl
  · exact h
theorem own_fault {l : List Int} {n r : Nat} (hl : ∀ x ∈ l, I64 x) (hn : n ≤ 1000) (hr : r ≤ 1000) : macsFault ((codeOf l n r).map ownM) = (0, 0) := by
  have hmany : codeMany l n ≤ 1000 := by unfold codeMany; omega
  refine macsFault_fine (by rw [List.length_map, codeOf_len]; omega) (by unfold codeOf; simp) (fun m hm => ?_) ?_
  · obtain ⟨x, hx, rfl⟩ := List.mem_map.1 hm
    rw [List.length_map]
    exact ownM_fine (codeOf_true hl hn hr x hx) (codeOf_fine x hx)
  · unfold codeOf
    simp [List.getD_eq_getElem?_getD, ownM]
theorem code_fault {l : List Int} {n r : Nat} (hn : n ≤ 1000) : macsFault (codeOf l n r) = (0, 0) := by
  have hmany : codeMany l n ≤ 1000 := by unfold codeMany; omega
  refine macsFault_fine (by rw [codeOf_len]; omega) (by unfold codeOf; simp) codeOf_fine ?_
  unfold codeOf
  simp [List.getD_eq_getElem?_getD]
end Go.Proofs.YtfhnmbnniklmiaaDoor
