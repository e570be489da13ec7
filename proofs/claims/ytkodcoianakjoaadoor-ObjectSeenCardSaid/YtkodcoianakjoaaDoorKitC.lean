/- Code that is made of raw numbers may be; its bytes are read as it. -/
import Derived.Test.YtkodcoianakjoaaDoorKitB
import Derived.Test.YtkodcoianakjoaaDoorKitP
import Derived.Test.YtkodcoianakjoaaDoorPlainA
namespace Go.Proofs.YtkodcoianakjoaaDoor
open Go.RowKit
set_option linter.unusedSimpArgs false
set_option linter.unusedVariables false

theorem mod_range (x : Int) (k : Int) (hk : 0 < k) : 0 ≤ x % k ∧ x % k < k := ⟨Int.emod_nonneg x (by omega), Int.emod_lt_of_pos x hk⟩
theorem shape_kind (op : Int) : (shapeOf op).n = 0 ∨ (shapeOf op).n = 1 ∨ (shapeOf op).n = 2 ∨ (shapeOf op).n = 3 ∨ (shapeOf op).n = 4 := by
  unfold shapeOf
  split
  · rename_i hb
    obtain ⟨k, rfl⟩ : ∃ k : Nat, op = (k : Int) := ⟨op.toNat, by omega⟩
    have key : ∀ k : Nat, k < 48 → (shapeTab.getD k ⟨false, false, false, 0⟩).n = 0 ∨ (shapeTab.getD k ⟨false, false, false, 0⟩).n = 1 ∨ (shapeTab.getD k ⟨false, false, false, 0⟩).n = 2 ∨ (shapeTab.getD k ⟨false, false, false, 0⟩).n = 3 ∨ (shapeTab.getD k ⟨false, false, false, 0⟩).n = 4 := by decide
    exact key k (by omega)
  · exact .inl rfl
theorem macOf_good (a b n : Int) (many r : Nat) (hn : I64 n) (hm : 0 < many) (hm1 : many ≤ 1000000) (hr1 : r ≤ 1000000) : GoodMac (macOf a b n many r) := by
  have h1 := mod_range b 4 (by decide)
  have h2 := mod_range (b.tdiv 4) 4 (by decide)
  have h3 := mod_range (b.tdiv 16) 4 (by decide)
  refine ⟨(opOf_known a r).1, fun x hx => ?_, ?_⟩
  · unfold regsOf macOf at hx
    simp only [] at hx
    generalize shapeOf (opOf a r) = s at hx
    cases hd : s.d <;> cases ha : s.a <;> cases hb : s.b <;> simp [hd, ha, hb] at hx <;> omega
  · obtain ⟨h4, h5⟩ := hn
    have h6 := mod_range n 7 (by decide)
    have h7 := mod_range n 4 (by decide)
    have h8 := mod_range n many (by omega)
    show I64 (numOf (opOf a r) b n many r)
    have hrt := opOf_routine a r
    unfold numOf I64
    rcases shape_kind (opOf a r) with e | e | e | e | e
    all_goals rw [e]
    · simp
    · simp only [if_true, if_pos rfl]
      split <;> omega
    · simp; omega
    · simp; omega
    · have h9 := mod_range n r (by have := hrt e; omega)
      simp; omega
/-- It may be, in a list of so many. -/
theorem macOf_fine (a b n : Int) (many r : Nat) (len : Int) (hm : 0 < many) (hl : (many : Int) ≤ len) : macF (macOf a b n many r) len = 0 := by
  have h1 := mod_range b 4 (by decide)
  have h2 := mod_range (b.tdiv 4) 4 (by decide)
  have h3 := mod_range (b.tdiv 16) 4 (by decide)
  have h7 := mod_range n 4 (by decide)
  have h8 := mod_range n many (by omega)
  have hk := (opOf_known a r).1
  have hrt := opOf_routine a r
  have hkind := shape_kind (opOf a r)
  unfold macF macOf
  simp only []
  rw [if_neg (by rw [hk]; simp)]
  have e1 : fieldF (shapeOf (opOf a r)).d (if (shapeOf (opOf a r)).d then b % 4 else 0) = 0 := by
    unfold fieldF
    cases (shapeOf (opOf a r)).d
    · simp
    · simp; omega
  have e2 : fieldF (shapeOf (opOf a r)).a (if (shapeOf (opOf a r)).a then b.tdiv 4 % 4 else 0) = 0 := by
    unfold fieldF
    cases (shapeOf (opOf a r)).a
    · simp
    · simp; omega
  have e3 : fieldF (shapeOf (opOf a r)).b (if (shapeOf (opOf a r)).b then b.tdiv 16 % 4 else 0) = 0 := by
    unfold fieldF
    cases (shapeOf (opOf a r)).b
    · simp
    · simp; omega
  have e4 : numberF (shapeOf (opOf a r)).n (numOf (opOf a r) b n many r) len = 0 := by
    unfold numberF numOf
    rcases hkind with e | e | e | e | e
    all_goals rw [e]
    · simp
    · simp
    · simp; omega
    · simp; omega
    · have h9 := mod_range n r (by have := hrt e; omega)
      simp; omega
  rw [e1, e2, e3, e4]
  simp
theorem macsFrom_fine (l : List Mac) (h : ∀ m ∈ l, macF m l.length = 0) (hz : (l.getD (l.length - 1) ⟨0, 0, 0, 0, 0⟩).op = 45) : ∀ (f i : Nat), f + i = l.length → macsFrom l f i = (0, 0)
  | 0, i, hi => by
    rw [macsFrom, if_pos (.inr hz)]
  | f + 1, i, hi => by
    have hm : l.getD i ⟨0, 0, 0, 0, 0⟩ ∈ l := by
      rw [List.getD_eq_getElem?_getD, List.getElem?_eq_getElem (show i < l.length by omega)]
      exact List.getElem_mem _
    rw [macsFrom, if_neg (by rw [h _ hm]; simp)]
    exact macsFrom_fine l h hz f (i + 1) (by omega)
theorem macsFault_fine {l : List Mac} (hl : l.length ≤ 5000) (hne : l ≠ []) (h : ∀ m ∈ l, macF m l.length = 0) (hz : (l.getD (l.length - 1) ⟨0, 0, 0, 0, 0⟩).op = 45) : macsFault l = (0, 0) := by
  unfold macsFault
  rw [if_neg (by omega), if_neg hne]
  exact macsFrom_fine l h hz _ _ (by simp)
end Go.Proofs.YtkodcoianakjoaaDoor
