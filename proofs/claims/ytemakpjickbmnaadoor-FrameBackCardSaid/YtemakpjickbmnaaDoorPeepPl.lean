/- peep, plainly: which rule fits where; what it leaves. peep, plainly: its rules in their order; code that may be stays so; why it ends. Runs of one routine that calls none, plainly: an instruction's doing; ends. What a rule leaves means what was there, plainly. What a rule of peep leaves ends as what was there, in as few steps, plainly. Each rule of peep leaves code that ends as the code was to end, in as few steps, plainly. -/
import Derived.Test.YtemakpjickbmnaaDoorMachA
/- peep, plainly: which rule fits where; what it leaves. -/
namespace Go.Proofs.YtemakpjickbmnaaDoor
open Go.RowKit
set_option linter.unusedSimpArgs false
set_option linter.unusedVariables false

def atL (l : List Mac) (i : Nat) : Mac := l.getD i macZ0
def jumpsM (m : Mac) : Bool := decide (37 ≤ m.op ∧ m.op ≤ 43)
def readsM (m : Mac) (r : Nat) : Bool :=
  if m.op = 44 then decide (r < 6) else if m.op = 45 then decide (r = 0 ∨ (6 ≤ r ∧ r < 14))
  else ((shapeOf m.op).a && decide (m.a = (r : Int))) || ((shapeOf m.op).b && decide (m.b = (r : Int)))
def writesM (m : Mac) (r : Nat) : Bool := if m.op = 44 then decide (r < 6 ∨ 14 ≤ r) else (shapeOf m.op).d && decide (m.dst = (r : Int))
/-- May it go on at k behind i? -/
def stepsTo (l : List Mac) (i k : Nat) : Prop :=
  i < l.length ∧ (((atL l i).op ≠ 45 ∧ (atL l i).op ≠ 37 ∧ k = i + 1) ∨ (jumpsM (atL l i) = true ∧ (atL l i).n = (k : Int)))
inductive Live (l : List Mac) (r : Nat) : Nat → Prop where
  | use {i : Nat} : i < l.length → readsM (atL l i) r = true → Live l r i
  | via {i k : Nat} : i < l.length → writesM (atL l i) r = false → stepsTo l i k → Live l r k → Live l r i
inductive Reach (l : List Mac) : Nat → Prop where
  | first : Reach l 0
  | next {i k : Nat} : Reach l i → stepsTo l i k → k < l.length → Reach l k
/-- Is a register live behind an instruction? -/
def behindP (l : List Mac) (i r : Nat) : Prop := ∃ k, stepsTo l i k ∧ Live l r k
def besideP (l : List Mac) (i : Nat) : Prop := i + 1 < l.length ∧ (atL l i).op ≠ 37 ∧ (atL l i).op ≠ 45 ∧ ¬ ∃ k, k < l.length ∧ jumpsM (atL l k) = true ∧ (atL l k).n = (i : Int) + 1
def quietM (m : Mac) : Bool :=
  if 1 ≤ m.op ∧ m.op ≤ 4 then true else if m.op = 35 then true else if m.op = 22 ∨ m.op = 23 then !decide (m.n = 0)
  else decide (5 ≤ m.op ∧ m.op ≤ 32) && !decide (m.op = 8) && !decide (m.op = 9)
def decM (i : Nat) (m : Mac) : Mac := if jumpsM m = true ∧ (i : Int) < m.n then ⟨m.op, m.dst, m.a, m.b, m.n - 1⟩ else m
def goneL (l : List Mac) (i : Nat) : List Mac := (l.eraseIdx i).map (decM i)
/-- Where MacJumps lead. -/
def ledL (l : List Mac) : Nat → Int → Option Int
  | 0, _ => none
  | f + 1, tg => if (atL l tg.toNat).op ≠ 37 then some tg else ledL l f (atL l tg.toNat).n
def asksM (o : Mac) (r : Int) : Bool := decide (o.op = 38 ∨ o.op = 39) && decide (o.a = r)
def ifsM (m o : Mac) : Mac :=
  if o.op = 38 then ⟨m.op + 25, 0, m.a, m.b, o.n⟩
  else if m.op = 15 then ⟨41, 0, m.a, m.b, o.n⟩ else if m.op = 16 then ⟨40, 0, m.a, m.b, o.n⟩
  else if m.op = 17 then ⟨43, 0, m.b, m.a, o.n⟩ else ⟨42, 0, m.b, m.a, o.n⟩
def idleM (m : Mac) : Bool :=
  if m.op = 21 ∨ m.op = 22 then decide (m.n = 1) else decide (m.n = 0) && decide (m.op = 19 ∨ m.op = 20 ∨ m.op = 25 ∨ m.op = 26 ∨ m.op = 27 ∨ m.op = 28)
/-- Rules of an instruction alone, and of two that stand next to each other: what each leaves. -/
inductive Rule (l : List Mac) (i : Nat) : List Mac → Prop where
  | lost : ¬ Reach l i → Rule l i (goneL l i)
  | itself : (atL l i).op = 2 → (atL l i).dst = (atL l i).a → Rule l i (goneL l i)
  | short : jumpsM (atL l i) = true → (atL l i).n = (i : Int) + 1 → Rule l i (goneL l i)
  | far {tg : Int} : jumpsM (atL l i) = true → ledL l l.length (atL l i).n = some tg → tg ≠ (atL l i).n → Rule l i (l.set i ⟨(atL l i).op, (atL l i).dst, (atL l i).a, (atL l i).b, tg⟩)
  | vain : quietM (atL l i) = true → ¬ behindP l i (atL l i).dst.toNat → Rule l i (goneL l i)
  | unread : (atL l i).op = 36 → (¬ ∃ o ∈ l, o.op = 35 ∧ o.n = (atL l i).n) → Rule l i (goneL l i)
  | again : besideP l i → (atL l i).op = 36 → (atL l (i + 1)).op = 35 → (atL l (i + 1)).n = (atL l i).n → Rule l i (l.set (i + 1) ⟨2, (atL l (i + 1)).dst, (atL l i).a, 0, 0⟩)
  | back : besideP l i → (atL l i).op = 2 → atL l (i + 1) = ⟨2, (atL l i).a, (atL l i).dst, 0, 0⟩ → Rule l i (goneL l (i + 1))
  | sureNo : besideP l i → (atL l i).op = 1 → asksM (atL l (i + 1)) (atL l i).dst = true → (¬ ((atL l i).n ≠ 0 ↔ (atL l (i + 1)).op = 38)) → Rule l i (goneL l (i + 1))
  | sureYes : besideP l i → (atL l i).op = 1 → asksM (atL l (i + 1)) (atL l i).dst = true → ((atL l i).n ≠ 0 ↔ (atL l (i + 1)).op = 38) → Rule l i (l.set (i + 1) ⟨37, 0, 0, 0, (atL l (i + 1)).n⟩)
  | fused : besideP l i → 15 ≤ (atL l i).op → (atL l i).op ≤ 18 → asksM (atL l (i + 1)) (atL l i).dst = true → ¬ behindP l (i + 1) (atL l i).dst.toNat → Rule l i (goneL (l.set (i + 1) (ifsM (atL l i) (atL l (i + 1)))) i)
  | idle : idleM (atL l i) = true → Rule l i (l.set i ⟨2, (atL l i).dst, (atL l i).a, 0, 0⟩)
end Go.Proofs.YtemakpjickbmnaaDoor

/- peep, plainly: its rules in their order; code that may be stays so; why it ends. -/
namespace Go.Proofs.YtemakpjickbmnaaDoor
open Go.RowKit
set_option linter.unusedSimpArgs false
set_option linter.unusedVariables false

/-- Code that may be. -/
structure MacsOk (l : List Mac) : Prop where
  some_ : 0 < l.length
  few : l.length ≤ 5000
  fine : ∀ m ∈ l, macF m l.length = 0
  last : (atL l (l.length - 1)).op = 37 ∨ (atL l (l.length - 1)).op = 45
theorem atL_get {l : List Mac} {i : Nat} (h : i < l.length) : atL l i = l[i] := by
  unfold atL
  rw [List.getD_eq_getElem?_getD, List.getElem?_eq_getElem h]
  rfl
theorem atL_in {l : List Mac} {i : Nat} (h : i < l.length) : atL l i ∈ l := by
  rw [atL_get h]
  exact List.getElem_mem h
theorem in_atL {l : List Mac} {m : Mac} (h : m ∈ l) : ∃ i, i < l.length ∧ atL l i = m := by
  obtain ⟨i, hi, e⟩ := List.mem_iff_getElem.1 h
  exact ⟨i, hi, (atL_get hi).trans e⟩
theorem atL_set {l : List Mac} {i k : Nat} {m : Mac} (h : i < l.length) : atL (l.set i m) k = if k = i then m else atL l k := by
  unfold atL
  rw [List.getD_eq_getElem?_getD, List.getD_eq_getElem?_getD, List.getElem?_set]
  by_cases e : i = k
  · subst e
    rw [if_pos rfl, if_pos h, if_pos rfl]
    rfl
  · rw [if_neg e, if_neg (fun x => e x.symm)]
theorem goneL_len {l : List Mac} {i : Nat} (h : i < l.length) : (goneL l i).length = l.length - 1 := by
  unfold goneL
  rw [List.length_map, List.length_eraseIdx, if_pos h]
theorem atL_gone {l : List Mac} {i k : Nat} (h : i < l.length) (hk : k < l.length - 1) : atL (goneL l i) k = decM i (atL l (if k < i then k else k + 1)) := by
  have hk' : k < (goneL l i).length := by rw [goneL_len h]; exact hk
  have e0 : (goneL l i)[k] = decM i ((l.eraseIdx i)[k]'(by rw [List.length_eraseIdx, if_pos h]; exact hk)) := List.getElem_map ..
  rw [atL_get hk', e0, List.getElem_eraseIdx]
  by_cases e : k < i
  · rw [dif_pos e, if_pos e, atL_get]
  · rw [dif_neg e, if_neg e, atL_get]
theorem MacsOk.at_ {l : List Mac} (h : MacsOk l) {i : Nat} (hi : i < l.length) : MacOk (atL l i) l.length := macF_ok (h.fine _ (atL_in hi))
theorem decM_op (i : Nat) (m : Mac) : (decM i m).op = m.op := by unfold decM; split <;> rfl

/-- An Op's kind of number. -/
theorem shape_n (op : Int) (h1 : 1 ≤ op) (h2 : op ≤ 47) : (shapeOf op).n = 2 ↔ 37 ≤ op ∧ op ≤ 43 := by
  have h : op = 1 ∨ op = 2 ∨ op = 3 ∨ op = 4 ∨ op = 5 ∨ op = 6 ∨ op = 7 ∨ op = 8 ∨ op = 9 ∨ op = 10 ∨ op = 11 ∨ op = 12 ∨ op = 13 ∨ op = 14 ∨ op = 15 ∨ op = 16 ∨ op = 17 ∨ op = 18 ∨ op = 19 ∨ op = 20 ∨ op = 21 ∨ op = 22 ∨ op = 23 ∨ op = 24 ∨ op = 25 ∨ op = 26 ∨ op = 27 ∨ op = 28 ∨ op = 29 ∨ op = 30 ∨ op = 31 ∨ op = 32 ∨ op = 33 ∨ op = 34 ∨ op = 35 ∨ op = 36 ∨ op = 37 ∨ op = 38 ∨ op = 39 ∨ op = 40 ∨ op = 41 ∨ op = 42 ∨ op = 43 ∨ op = 44 ∨ op = 45 ∨ op = 46 ∨ op = 47 := by omega
  rcases h with h | h | h | h | h | h | h | h | h | h | h | h | h | h | h | h | h | h | h | h | h | h | h | h | h | h | h | h | h | h | h | h | h | h | h | h | h | h | h | h | h | h | h | h | h | h | h <;> subst h <;> decide +kernel
theorem numberF_same {k n a b : Int} (h : k ≠ 2) (h3 : numberF k n a = numberF k n b ∨ True) : k = 0 ∨ k = 1 ∨ k = 3 ∨ k = 4 → numberF k n a = numberF k n b := by
  rintro (e | e | e | e) <;> subst e <;> simp [numberF]
theorem shape_kinds (op : Int) (h1 : 1 ≤ op) (h2 : op ≤ 47) : (shapeOf op).n = 0 ∨ (shapeOf op).n = 1 ∨ (shapeOf op).n = 2 ∨ (shapeOf op).n = 3 ∨ (shapeOf op).n = 4 := by
  have h : op = 1 ∨ op = 2 ∨ op = 3 ∨ op = 4 ∨ op = 5 ∨ op = 6 ∨ op = 7 ∨ op = 8 ∨ op = 9 ∨ op = 10 ∨ op = 11 ∨ op = 12 ∨ op = 13 ∨ op = 14 ∨ op = 15 ∨ op = 16 ∨ op = 17 ∨ op = 18 ∨ op = 19 ∨ op = 20 ∨ op = 21 ∨ op = 22 ∨ op = 23 ∨ op = 24 ∨ op = 25 ∨ op = 26 ∨ op = 27 ∨ op = 28 ∨ op = 29 ∨ op = 30 ∨ op = 31 ∨ op = 32 ∨ op = 33 ∨ op = 34 ∨ op = 35 ∨ op = 36 ∨ op = 37 ∨ op = 38 ∨ op = 39 ∨ op = 40 ∨ op = 41 ∨ op = 42 ∨ op = 43 ∨ op = 44 ∨ op = 45 ∨ op = 46 ∨ op = 47 := by omega
  rcases h with h | h | h | h | h | h | h | h | h | h | h | h | h | h | h | h | h | h | h | h | h | h | h | h | h | h | h | h | h | h | h | h | h | h | h | h | h | h | h | h | h | h | h | h | h | h | h <;> subst h <;> decide +kernel
/-- A fault of an instruction, with another number or another length. -/
theorem macF_swap {m : Mac} {n' : Int} {a b : Int} (h : macF m a = 0) (hn : numberF (shapeOf m.op).n n' b ≠ 3 ∧ numberF (shapeOf m.op).n n' b ≠ 5) : macF ⟨m.op, m.dst, m.a, m.b, n'⟩ b = 0 := by
  unfold macF at h ⊢
  cases hk : known m.op
  · rw [hk, if_pos rfl] at h; omega
  rw [hk, if_neg (by simp)] at h
  rw [if_neg (by simp [hk])]
  simp only [] at h ⊢
  by_cases h3 : fieldF (shapeOf m.op).d m.dst = 3 ∨ fieldF (shapeOf m.op).a m.a = 3 ∨ fieldF (shapeOf m.op).b m.b = 3 ∨ numberF (shapeOf m.op).n m.n a = 3
  · rw [if_pos h3] at h; omega
  rw [if_neg h3] at h
  by_cases h5 : fieldF (shapeOf m.op).d m.dst = 5 ∨ fieldF (shapeOf m.op).a m.a = 5 ∨ fieldF (shapeOf m.op).b m.b = 5 ∨ numberF (shapeOf m.op).n m.n a = 5
  · rw [if_pos h5] at h; omega
  rw [if_neg (fun e => e.elim (fun e => h3 (.inl e)) fun e => e.elim (fun e => h3 (.inr (.inl e))) fun e => e.elim (fun e => h3 (.inr (.inr (.inl e)))) hn.1)]
  rw [if_neg (fun e => e.elim (fun e => h5 (.inl e)) fun e => e.elim (fun e => h5 (.inr (.inl e))) fun e => e.elim (fun e => h5 (.inr (.inr (.inl e)))) hn.2)]
theorem macF_num {m : Mac} {a : Int} (h : macF m a = 0) : numberF (shapeOf m.op).n m.n a ≠ 3 ∧ numberF (shapeOf m.op).n m.n a ≠ 5 := by
  unfold macF at h
  cases hk : known m.op
  · rw [hk, if_pos rfl] at h; omega
  rw [hk, if_neg (by simp)] at h
  simp only [] at h
  refine ⟨fun e => ?_, fun e => ?_⟩
  · rw [if_pos (.inr (.inr (.inr e)))] at h; omega
  · split at h
    · omega
    · rw [if_pos (.inr (.inr (.inr e)))] at h; omega
theorem macF_jump {m : Mac} {n' : Int} {a b : Nat} (h : macF m a = 0) (hj : jumpsM m = true) (h0 : 0 ≤ n') (h1 : n' < (b : Int)) : macF ⟨m.op, m.dst, m.a, m.b, n'⟩ b = 0 := by
  have hj' : 37 ≤ m.op ∧ m.op ≤ 43 := by unfold jumpsM at hj; simpa using hj
  refine macF_swap h ?_
  rw [(shape_n m.op (by omega) (by omega)).2 hj']
  simp [numberF]
  omega
theorem macF_len {m : Mac} {a b : Nat} (h : macF m a = 0) (hj : jumpsM m = false) : macF m b = 0 := by
  have ho := macF_ok h
  have h1 := ho.op1
  have h2 := ho.op47
  have hn : (shapeOf m.op).n ≠ 2 := fun e => by
    have := (shape_n m.op h1 h2).1 e
    unfold jumpsM at hj
    simp at hj
    omega
  have hs := macF_num h
  have hk := shape_kinds m.op h1 h2
  have e : numberF (shapeOf m.op).n m.n a = numberF (shapeOf m.op).n m.n b := numberF_same hn (.inr trivial) (by omega)
  rw [e] at hs
  exact macF_swap (n' := m.n) h hs
theorem macF_dec {m : Mac} {i a : Nat} (h : macF m a = 0) (ha : 0 < a) (hi : jumpsM m = true → m.n ≤ (i : Int) → m.n < (a : Int) - 1) : macF (decM i m) ((a - 1 : Nat) : Int) = 0 := by
  unfold decM
  cases hj : jumpsM m
  · rw [if_neg (by simp)]
    exact macF_len h hj
  · have hj' : 37 ≤ m.op ∧ m.op ≤ 43 := by unfold jumpsM at hj; simpa using hj
    have hb := (macF_ok h).jump hj'.1 hj'.2
    by_cases hn : (i : Int) < m.n
    · rw [if_pos ⟨rfl, hn⟩]
      exact macF_jump h hj (by omega) (by omega)
    · rw [if_neg (fun e => hn e.2)]
      have := hi hj (by omega)
      exact macF_jump (n' := m.n) h hj hb.1 (by omega)
theorem mem_gone {l : List Mac} {i : Nat} {m : Mac} (h : m ∈ goneL l i) : ∃ x ∈ l, m = decM i x := by
  unfold goneL at h
  obtain ⟨x, hx, e⟩ := List.mem_map.1 h
  exact ⟨x, List.mem_of_mem_eraseIdx hx, e.symm⟩
theorem MacsOk.gone {l : List Mac} (h : MacsOk l) {i : Nat} (hi : i + 1 < l.length) : MacsOk (goneL l i) where
  some_ := by rw [goneL_len (by omega)]; omega
  few := by rw [goneL_len (by omega)]; have := h.few; omega
  fine := fun m hm => by
    obtain ⟨x, hx, rfl⟩ := mem_gone hm
    rw [goneL_len (by omega)]
    exact macF_dec (h.fine x hx) h.some_ fun _ h1 => by omega
  last := by
    rw [goneL_len (by omega), atL_gone (by omega) (by omega), if_neg (by omega), decM_op, show l.length - 1 - 1 + 1 = l.length - 1 from by omega]
    exact h.last
theorem reach_lt {l : List Mac} (h0 : 0 < l.length) {i : Nat} (h : Reach l i) : i < l.length := by
  cases h with
  | first => exact h0
  | next _ _ h => exact h
theorem MacsOk.goneLast {l : List Mac} (h : MacsOk l) {i : Nat} (hi : i + 1 = l.length) (hr : ∀ j, j < i → Reach l j) (hn : ¬ Reach l i) : MacsOk (goneL l i) := by
  have hi0 : 0 < i := by
    rcases Nat.eq_zero_or_pos i with e | e
    · subst e; exact absurd Reach.first hn
    · exact e
  have hstep : ∀ j, j < i → ¬ stepsTo l j i := fun j hj hs => hn (.next (hr j hj) hs (by omega))
  refine ⟨?_, ?_, fun m hm => ?_, ?_⟩
  · rw [goneL_len (by omega)]; omega
  · rw [goneL_len (by omega)]; have := h.few; omega
  · unfold goneL at hm
    obtain ⟨x, hx, e⟩ := List.mem_map.1 hm
    obtain ⟨k, hk, hx'⟩ := List.mem_iff_getElem.1 hx
    rw [List.length_eraseIdx, if_pos (by omega)] at hk
    rw [List.getElem_eraseIdx, dif_pos (by omega)] at hx'
    rw [← e, goneL_len (by omega)]
    have hxl : x ∈ l := by rw [← hx']; exact List.getElem_mem _
    refine macF_dec (h.fine x hxl) h.some_ fun hj hle => ?_
    have hj' : 37 ≤ x.op ∧ x.op ≤ 43 := by unfold jumpsM at hj; simpa using hj
    have hb := (macF_ok (h.fine x hxl)).jump hj'.1 hj'.2
    rcases Int.lt_or_le x.n ((l.length : Int) - 1) with h1 | h1
    · exact h1
    · exact absurd ⟨by omega, .inr ⟨by rw [atL_get (by omega), hx']; exact hj, by rw [atL_get (by omega), hx']; omega⟩⟩ (hstep k (by omega))
  · rw [goneL_len (by omega), atL_gone (by omega) (by omega), if_pos (by omega), decM_op]
    by_cases e1 : (atL l (l.length - 1 - 1)).op = 37
    · exact .inl e1
    by_cases e2 : (atL l (l.length - 1 - 1)).op = 45
    · exact .inr e2
    exact absurd ⟨by omega, .inl ⟨e2, e1, by omega⟩⟩ (hstep (l.length - 1 - 1) (by omega))
theorem MacsOk.set {l : List Mac} (h : MacsOk l) {i : Nat} {m : Mac} (hi : i < l.length) (hm : macF m l.length = 0) (hl : i + 1 < l.length ∨ m.op = 37 ∨ m.op = 45) : MacsOk (l.set i m) where
  some_ := by rw [List.length_set]; exact h.some_
  few := by rw [List.length_set]; exact h.few
  fine := fun x hx => by
    rw [List.length_set]
    rcases List.mem_or_eq_of_mem_set hx with e | e
    · exact h.fine x e
    · rw [e]; exact hm
  last := by
    rw [List.length_set, atL_set hi]
    by_cases e : l.length - 1 = i
    · rw [if_pos e]; omega
    · rw [if_neg e]; exact h.last
theorem macF_move {d a : Int} {n : Int} (h1 : 0 ≤ d) (h2 : d ≤ 15) (h3 : 0 ≤ a) (h4 : a ≤ 15) : macF ⟨2, d, a, 0, 0⟩ n = 0 := by
  have e : shapeOf 2 = ⟨true, true, false, 0⟩ := by rfl
  unfold macF
  simp only [e, known, fieldF, numberF]
  simp
  omega
theorem macF_goto {k : Int} {n : Nat} (h1 : 0 ≤ k) (h2 : k < (n : Int)) : macF ⟨37, 0, 0, 0, k⟩ n = 0 := by
  have e : shapeOf 37 = ⟨false, false, false, 2⟩ := by rfl
  unfold macF
  simp only [e, known, fieldF, numberF]
  simp
  omega
theorem macF_if {op a b k : Int} {n : Nat} (ho : 40 ≤ op ∧ op ≤ 43) (h1 : 0 ≤ a) (h2 : a ≤ 15) (h3 : 0 ≤ b) (h4 : b ≤ 15) (h5 : 0 ≤ k) (h6 : k < (n : Int)) : macF ⟨op, 0, a, b, k⟩ n = 0 := by
  have e : shapeOf op = ⟨false, true, true, 2⟩ := by
    have : op = 40 ∨ op = 41 ∨ op = 42 ∨ op = 43 := by omega
    rcases this with e | e | e | e <;> subst e <;> rfl
  unfold macF
  simp only [e, known, fieldF, numberF]
  simp
  omega

/-! ### The rules, in their order -/
section
open Classical
noncomputable def reachB (l : List Mac) (i : Nat) : Bool := decide (Reach l i)
noncomputable def liveB (l : List Mac) (i r : Nat) : Bool := decide (Live l r i)
noncomputable def behB (l : List Mac) (i r : Nat) : Bool := decide (behindP l i r)
end
theorem reachB_iff {l : List Mac} {i : Nat} : reachB l i = true ↔ Reach l i := by unfold reachB; simp
theorem reachB_not {l : List Mac} {i : Nat} : reachB l i = false ↔ ¬ Reach l i := by unfold reachB; simp
theorem liveB_iff {l : List Mac} {i r : Nat} : liveB l i r = true ↔ Live l r i := by unfold liveB; simp
theorem behB_iff {l : List Mac} {i r : Nat} : behB l i r = true ↔ behindP l i r := by unfold behB; simp
def markB (l : List Mac) (k : Nat) : Bool := l.any fun m => jumpsM m && decide (m.n = (k : Int))
def besB (l : List Mac) (i : Nat) : Bool := decide (i + 1 < l.length) && !markB l (i + 1) && !decide ((atL l i).op = 37) && !decide ((atL l i).op = 45)
def getB (l : List Mac) (n : Int) : Bool := l.any fun o => decide (o.op = 35) && decide (o.n = n)
theorem besB_iff {l : List Mac} {i : Nat} : besB l i = true ↔ besideP l i := by
  unfold besB besideP markB
  simp only [Bool.and_eq_true, decide_eq_true_eq, Bool.not_eq_true', List.any_eq_false, decide_eq_false_iff_not]
  constructor
  · rintro ⟨⟨⟨h1, h2⟩, h3⟩, h4⟩
    refine ⟨h1, h3, h4, ?_⟩
    rintro ⟨k, hk, h5, h6⟩
    exact h2 _ (atL_in hk) (by simp [h5, h6])
  · rintro ⟨h1, h3, h4, h2⟩
    refine ⟨⟨⟨h1, fun x hx => ?_⟩, h3⟩, h4⟩
    obtain ⟨k, hk, e⟩ := in_atL hx
    intro h5
    simp at h5
    exact h2 ⟨k, hk, by rw [e]; exact h5.1, by rw [e]; exact h5.2⟩
noncomputable def lostR (l : List Mac) (i : Nat) : Option (List Mac) := if reachB l i = true then none else some (goneL l i)
def itselfR (l : List Mac) (i : Nat) : Option (List Mac) := if (atL l i).op = 2 ∧ (atL l i).dst = (atL l i).a then some (goneL l i) else none
def shortR (l : List Mac) (i : Nat) : Option (List Mac) := if jumpsM (atL l i) = true ∧ (atL l i).n = (i : Int) + 1 then some (goneL l i) else none
def withN (m : Mac) (n : Int) : Mac := ⟨m.op, m.dst, m.a, m.b, n⟩
def farTo (l : List Mac) (i : Nat) : Option Int :=
  if jumpsM (atL l i) = true then (match ledL l l.length (atL l i).n with | some t => if t = (atL l i).n then none else some t | none => none) else none
def farR (l : List Mac) (i : Nat) : Option (List Mac) := (farTo l i).map fun t => l.set i (withN (atL l i) t)
noncomputable def vainR (l : List Mac) (i : Nat) : Option (List Mac) := if quietM (atL l i) = true ∧ behB l i (atL l i).dst.toNat = false then some (goneL l i) else none
def unreadR (l : List Mac) (i : Nat) : Option (List Mac) := if (atL l i).op = 36 ∧ getB l (atL l i).n = false then some (goneL l i) else none
def againR (l : List Mac) (i : Nat) : Option (List Mac) :=
  if besB l i = true ∧ (atL l i).op = 36 ∧ (atL l (i + 1)).op = 35 ∧ (atL l (i + 1)).n = (atL l i).n then some (l.set (i + 1) ⟨2, (atL l (i + 1)).dst, (atL l i).a, 0, 0⟩) else none
def backR (l : List Mac) (i : Nat) : Option (List Mac) := if besB l i = true ∧ (atL l i).op = 2 ∧ atL l (i + 1) = ⟨2, (atL l i).a, (atL l i).dst, 0, 0⟩ then some (goneL l (i + 1)) else none
def sureR (l : List Mac) (i : Nat) : Option (List Mac) :=
  if besB l i = true ∧ (atL l i).op = 1 ∧ asksM (atL l (i + 1)) (atL l i).dst = true then
    (if (decide ((atL l i).n = 0) == decide ((atL l (i + 1)).op = 38)) = true then some (goneL l (i + 1)) else some (l.set (i + 1) ⟨37, 0, 0, 0, (atL l (i + 1)).n⟩))
  else none
noncomputable def fusedR (l : List Mac) (i : Nat) : Option (List Mac) :=
  if besB l i = true ∧ (15 ≤ (atL l i).op ∧ (atL l i).op ≤ 18) ∧ asksM (atL l (i + 1)) (atL l i).dst = true ∧ behB l (i + 1) (atL l i).dst.toNat = false then some (goneL (l.set (i + 1) (ifsM (atL l i) (atL l (i + 1)))) i) else none
def idleR (l : List Mac) (i : Nat) : Option (List Mac) := if idleM (atL l i) = true then some (l.set i ⟨2, (atL l i).dst, (atL l i).a, 0, 0⟩) else none
/-- Rule j, of 11. -/
noncomputable def ruleR (l : List Mac) (i : Nat) : Nat → Option (List Mac)
  | 0 => lostR l i | 1 => itselfR l i | 2 => shortR l i | 3 => farR l i | 4 => vainR l i | 5 => unreadR l i | 6 => againR l i | 7 => backR l i | 8 => sureR l i | 9 => fusedR l i | 10 => idleR l i | _ => none
noncomputable def firstR (l : List Mac) (i : Nat) : Option (List Mac) := (List.range 11).findSome? (ruleR l i)
noncomputable def onceP (l : List Mac) : Option (List Mac) := (List.range l.length).findSome? (firstR l)
theorem range_first {α : Type} {f : Nat → Option α} : ∀ (n j : Nat) (x : α), j < n → (∀ k, k < j → f k = none) → f j = some x → (List.range n).findSome? f = some x
  | 0, j, _, h, _, _ => by omega
  | n + 1, j, x, h, hk, hx => by
    rw [List.range_succ, List.findSome?_append]
    rcases Nat.lt_or_ge j n with h1 | h1
    · rw [range_first n j x h1 hk hx]
      rfl
    · obtain rfl : j = n := by omega
      have : (List.range j).findSome? f = none := by
        rw [List.findSome?_eq_none_iff]
        intro k hk'
        exact hk k (List.mem_range.1 hk')
      rw [this]
      simp [hx]
theorem range_none {α : Type} {f : Nat → Option α} {n : Nat} : (List.range n).findSome? f = none ↔ ∀ k, k < n → f k = none := by
  rw [List.findSome?_eq_none_iff]
  constructor
  · intro h k hk
    exact h k (List.mem_range.2 hk)
  · intro h k hk
    exact h k (List.mem_range.1 hk)
theorem range_some {α : Type} {f : Nat → Option α} {x : α} : ∀ (n : Nat), (List.range n).findSome? f = some x → ∃ j, j < n ∧ (∀ k, k < j → f k = none) ∧ f j = some x
  | 0, h => by simp at h
  | n + 1, h => by
    rw [List.range_succ, List.findSome?_append] at h
    cases h0 : (List.range n).findSome? f with
    | some y =>
      rw [h0] at h
      obtain rfl : y = x := by simpa using h
      obtain ⟨j, h1, h2, h3⟩ := range_some n h0
      exact ⟨j, by omega, h2, h3⟩
    | none =>
      rw [h0] at h
      refine ⟨n, by omega, range_none.1 h0, ?_⟩
      simpa using h
theorem firstR_hit {l : List Mac} {i j : Nat} {x : List Mac} (hj : j < 11) (h : ∀ k, k < j → ruleR l i k = none) (hx : ruleR l i j = some x) : firstR l i = some x := range_first 11 j x hj h hx
theorem firstR_none {l : List Mac} {i : Nat} (h : ∀ k, k < 11 → ruleR l i k = none) : firstR l i = none := range_none.2 h
theorem onceP_hit {l : List Mac} {i : Nat} {x : List Mac} (hi : i < l.length) (h : ∀ k, k < i → firstR l k = none) (hx : firstR l i = some x) : onceP l = some x := range_first _ i x hi h hx
theorem onceP_none {l : List Mac} (h : ∀ k, k < l.length → firstR l k = none) : onceP l = none := range_none.2 h

/-! ### Where jumps lead -/
theorem ledL_ok {l : List Mac} (h : MacsOk l) : ∀ (f : Nat) (k t : Int), 0 ≤ k → k < (l.length : Int) → ledL l f k = some t → 0 ≤ t ∧ t < (l.length : Int) ∧ (atL l t.toNat).op ≠ 37
  | 0, _, _, _, _, e => by cases e
  | f + 1, k, t, h0, h1, e => by
    rw [ledL] at e
    by_cases hj : (atL l k.toNat).op ≠ 37
    · rw [if_pos hj] at e
      cases e
      exact ⟨h0, h1, hj⟩
    · rw [if_neg hj] at e
      have hb := (h.at_ (i := k.toNat) (by omega)).jump (by omega) (by omega)
      exact ledL_ok h f _ t hb.1 hb.2 e

/-! ### Why it ends -/
def cN (m : Mac) : Bool := decide (m.op = 38 ∨ m.op = 39 ∨ m.op = 35 ∨ m.op = 19 ∨ m.op = 20 ∨ m.op = 21 ∨ m.op = 22 ∨ m.op = 25 ∨ m.op = 26 ∨ m.op = 27 ∨ m.op = 28)
def dN (l : List Mac) (m : Mac) : Bool := jumpsM m && decide ((atL l m.n.toNat).op = 37)
def msr (l : List Mac) : Nat := l.length * 36000000 + l.countP cN * 6000 + l.countP (dN l)
theorem countP_set_lt {p : Mac → Bool} : ∀ {l : List Mac} {i : Nat} {m : Mac} (h : i < l.length), p l[i] = true → p m = false → (l.set i m).countP p + 1 = l.countP p
  | x :: l, 0, m, h, h1, h2 => by
    simp at h1
    simp [List.countP_cons, h1, h2]
  | x :: l, i + 1, m, h, h1, h2 => by
    have := countP_set_lt (l := l) (i := i) (m := m) (p := p) (by simpa using h) (by simpa using h1) h2
    simp only [List.set_cons_succ, List.countP_cons]
    omega
theorem countP_set_eq {p : Mac → Bool} : ∀ {l : List Mac} {i : Nat} {m : Mac} (h : i < l.length), p l[i] = p m → (l.set i m).countP p = l.countP p
  | x :: l, 0, m, h, h1 => by
    simp at h1
    simp [List.countP_cons, h1]
  | x :: l, i + 1, m, h, h1 => by
    have := countP_set_eq (l := l) (i := i) (m := m) (p := p) (by simpa using h) (by simpa using h1)
    simp only [List.set_cons_succ, List.countP_cons]
    omega
theorem msr_short {l l' : List Mac} (h : l.length ≤ 5000) (h' : l'.length < l.length) : msr l' < msr l := by
  unfold msr
  have h1 := List.countP_le_length (p := cN) (l := l')
  have h2 := List.countP_le_length (p := dN l') (l := l')
  omega
theorem msr_set {l : List Mac} (h : l.length ≤ 5000) {i : Nat} {m : Mac} (hi : i < l.length) (h1 : cN (atL l i) = true) (h2 : cN m = false) : msr (l.set i m) < msr l := by
  unfold msr
  rw [atL_get hi] at h1
  have h3 := countP_set_lt hi h1 h2
  have h4 := List.countP_le_length (p := dN (l.set i m)) (l := l.set i m)
  rw [List.length_set] at h4 ⊢
  omega
theorem msr_far {l : List Mac} {i : Nat} {t : Int} (hi : i < l.length) (hj : jumpsM (atL l i) = true) (h37 : (atL l (atL l i).n.toNat).op = 37) (ht : (atL l t.toNat).op ≠ 37) : msr (l.set i (withN (atL l i) t)) < msr l := by
  have hop : ∀ k, (atL (l.set i (withN (atL l i) t)) k).op = (atL l k).op := fun k => by
    rw [atL_set hi]
    split
    · rename_i e; rw [e]; rfl
    · rfl
  have hd : dN (l.set i (withN (atL l i) t)) = dN l := by
    funext m
    unfold dN
    rw [hop]
  have h1 : (l.set i (withN (atL l i) t)).countP cN = l.countP cN := countP_set_eq hi (by rw [← atL_get hi]; rfl)
  have h2 := countP_set_lt (p := dN l) (m := withN (atL l i) t) hi (by rw [← atL_get hi]; unfold dN; simp [hj, h37]) (by unfold dN withN; simp [ht])
  unfold msr
  rw [h1, hd, List.length_set]
  omega

theorem op_not_last {l : List Mac} (h : MacsOk l) {i : Nat} (hi : i < l.length) (h1 : (atL l i).op ≠ 37) (h2 : (atL l i).op ≠ 45) : i + 1 < l.length := by
  rcases Nat.lt_or_ge (i + 1) l.length with h3 | h3
  · exact h3
  · obtain rfl : i = l.length - 1 := by omega
    rcases h.last with e | e
    · exact absurd e h1
    · exact absurd e h2
theorem quiet_op {m : Mac} (h : quietM m = true) : m.op ≠ 37 ∧ m.op ≠ 45 := by
  unfold quietM at h
  refine ⟨fun e => ?_, fun e => ?_⟩ <;> rw [e] at h <;> simp at h
theorem idle_op {m : Mac} (h : idleM m = true) : cN m = true ∧ m.op ≠ 37 ∧ m.op ≠ 45 ∧ 19 ≤ m.op ∧ m.op ≤ 28 := by
  unfold idleM at h
  unfold cN
  split at h
  · simp; omega
  · simp at h
    simp; omega
theorem asks_op {o : Mac} {r : Int} (h : asksM o r = true) : (o.op = 38 ∨ o.op = 39) ∧ o.a = r := by
  unfold asksM at h
  simpa using h
/-- A rule that fits, where the earlier instructions are reached. -/
theorem rule_ok {l l' : List Mac} (h : MacsOk l) {i j : Nat} (hi : i < l.length) (hr : ∀ k, k < i → Reach l k) (hx : ruleR l i j = some l') : MacsOk l' ∧ msr l' < msr l ∧ l'.length ≤ l.length := by
  have gone_ : ∀ k, k + 1 < l.length → MacsOk (goneL l k) ∧ msr (goneL l k) < msr l ∧ (goneL l k).length ≤ l.length := fun k hk =>
    ⟨h.gone hk, msr_short h.few (by rw [goneL_len (by omega)]; omega), by rw [goneL_len (by omega)]; omega⟩
  have set_ : ∀ k m, k + 1 < l.length → macF m l.length = 0 → cN (atL l k) = true → cN m = false → MacsOk (l.set k m) ∧ msr (l.set k m) < msr l ∧ (l.set k m).length ≤ l.length := fun k m hk hm h1 h2 =>
    ⟨h.set (by omega) hm (.inl hk), msr_set h.few (by omega) h1 h2, by rw [List.length_set]; exact Nat.le_refl _⟩
  have hm := h.at_ hi
  match j with
  | 0 =>
    simp only [ruleR, lostR] at hx
    split at hx
    · cases hx
    · rename_i hn
      cases hx
      have hn' : ¬ Reach l i := fun e => hn (reachB_iff.2 e)
      rcases Nat.lt_or_ge (i + 1) l.length with h1 | h1
      · exact gone_ i h1
      · exact ⟨h.goneLast (by omega) hr hn', msr_short h.few (by rw [goneL_len hi]; omega), by rw [goneL_len hi]; omega⟩
  | 1 =>
    simp only [ruleR, itselfR] at hx
    split at hx
    · rename_i hc
      cases hx
      exact gone_ i (op_not_last h hi (by omega) (by omega))
    · cases hx
  | 2 =>
    simp only [ruleR, shortR] at hx
    split at hx
    · rename_i hc
      cases hx
      have hj' : 37 ≤ (atL l i).op ∧ (atL l i).op ≤ 43 := by have := hc.1; unfold jumpsM at this; simpa using this
      have := hm.jump hj'.1 hj'.2
      exact gone_ i (by omega)
    · cases hx
  | 3 =>
    simp only [ruleR, farR, farTo] at hx
    split at hx
    · rename_i hj
      have hj' : 37 ≤ (atL l i).op ∧ (atL l i).op ≤ 43 := by unfold jumpsM at hj; simpa using hj
      have hb := hm.jump hj'.1 hj'.2
      split at hx
      · rename_i t ht
        split at hx
        · cases hx
        · rename_i hne
          simp at hx
          subst hx
          obtain ⟨h0, h1, h2⟩ := ledL_ok h _ _ _ hb.1 hb.2 ht
          have h37 : (atL l (atL l i).n.toNat).op = 37 := by
            rcases Nat.eq_zero_or_pos l.length with e | e
            · omega
            · obtain ⟨n, hn⟩ : ∃ n, l.length = n + 1 := ⟨l.length - 1, by omega⟩
              rw [hn, ledL] at ht
              split at ht
              · cases ht; exact absurd rfl hne
              · rename_i h3; simpa using h3
          refine ⟨h.set hi (macF_jump (h.fine _ (atL_in hi)) hj h0 h1) ?_, msr_far hi hj h37 h2, by rw [List.length_set]; exact Nat.le_refl _⟩
          rcases Nat.lt_or_ge (i + 1) l.length with h3 | h3
          · exact .inl h3
          · right
            show (atL l i).op = 37 ∨ (atL l i).op = 45
            have := h.last
            rwa [show l.length - 1 = i from by omega] at this
      · simp at hx
    · simp at hx
  | 4 =>
    simp only [ruleR, vainR] at hx
    split at hx
    · rename_i hc
      cases hx
      have := quiet_op hc.1
      exact gone_ i (op_not_last h hi this.1 this.2)
    · cases hx
  | 5 =>
    simp only [ruleR, unreadR] at hx
    split at hx
    · rename_i hc
      cases hx
      exact gone_ i (op_not_last h hi (by omega) (by omega))
    · cases hx
  | 6 =>
    simp only [ruleR, againR] at hx
    split at hx
    · rename_i hc
      cases hx
      have hb := (besB_iff.1 hc.1).1
      have h2 := h.at_ hb
      have h3 := op_not_last h hb (by omega) (by omega)
      exact set_ _ _ h3 (macF_move h2.dst0 h2.dst1 hm.a0 hm.a1) (by unfold cN; simp [hc.2.2.1]) (by rfl)
    · cases hx
  | 7 =>
    simp only [ruleR, backR] at hx
    split at hx
    · rename_i hc
      cases hx
      have hb := (besB_iff.1 hc.1).1
      have ho : (atL l (i + 1)).op = 2 := by rw [hc.2.2]
      exact gone_ _ (op_not_last h hb (by omega) (by omega))
    · cases hx
  | 8 =>
    simp only [ruleR, sureR] at hx
    split at hx
    · rename_i hc
      have hb := (besB_iff.1 hc.1).1
      have h2 := h.at_ hb
      have ho := (asks_op hc.2.2).1
      have h3 := op_not_last h hb (by omega) (by omega)
      have hj := h2.jump (by omega) (by omega)
      split at hx
      · cases hx
        exact gone_ _ h3
      · cases hx
        exact set_ _ _ h3 (macF_goto hj.1 hj.2) (by unfold cN; simp; omega) (by rfl)
    · cases hx
  | 9 =>
    simp only [ruleR, fusedR] at hx
    split at hx
    · rename_i hc
      cases hx
      have hb := (besB_iff.1 hc.1).1
      have h2 := h.at_ hb
      have ho := (asks_op hc.2.2.1).1
      have h3 := op_not_last h hb (by omega) (by omega)
      have hj := h2.jump (by omega) (by omega)
      have hs : macF (ifsM (atL l i) (atL l (i + 1))) l.length = 0 := by
        have h5 := hc.2.1
        unfold ifsM
        split
        · exact macF_if (by omega) hm.a0 hm.a1 hm.b0 hm.b1 hj.1 hj.2
        split
        · exact macF_if (by omega) hm.a0 hm.a1 hm.b0 hm.b1 hj.1 hj.2
        split
        · exact macF_if (by omega) hm.a0 hm.a1 hm.b0 hm.b1 hj.1 hj.2
        split
        · exact macF_if (by omega) hm.b0 hm.b1 hm.a0 hm.a1 hj.1 hj.2
        · exact macF_if (by omega) hm.b0 hm.b1 hm.a0 hm.a1 hj.1 hj.2
      have h4 := h.set hb hs (.inl h3)
      have hlen : (l.set (i + 1) (ifsM (atL l i) (atL l (i + 1)))).length = l.length := List.length_set
      refine ⟨h4.gone (by rw [hlen]; omega), msr_short h.few ?_, ?_⟩
      · rw [goneL_len (by rw [hlen]; omega), hlen]; omega
      · rw [goneL_len (by rw [hlen]; omega), hlen]; omega
    · cases hx
  | 10 =>
    simp only [ruleR, idleR] at hx
    split at hx
    · rename_i hc
      cases hx
      obtain ⟨h1, h2, h3, _⟩ := idle_op hc
      exact set_ _ _ (op_not_last h hi h2 h3) (macF_move hm.dst0 hm.dst1 hm.a0 hm.a1) h1 (by rfl)
    · cases hx
  | j + 11 => simp [ruleR] at hx
theorem onceP_at {l l' : List Mac} (h : onceP l = some l') : ∃ i j, i < l.length ∧ (∀ k, k < i → Reach l k) ∧ j < 11 ∧ ruleR l i j = some l' := by
  obtain ⟨i, hi, h1, h2⟩ := range_some _ h
  obtain ⟨j, hj, _, h3⟩ := range_some _ h2
  refine ⟨i, j, hi, fun k hk => ?_, hj, h3⟩
  have := range_none.1 (h1 k hk) 0 (by omega)
  simp only [ruleR, lostR] at this
  split at this
  · exact reachB_iff.1 (by assumption)
  · cases this
theorem onceP_ok {l l' : List Mac} (h : MacsOk l) (hx : onceP l = some l') : MacsOk l' ∧ msr l' < msr l ∧ l'.length ≤ l.length := by
  obtain ⟨i, j, hi, hr, _, hj⟩ := onceP_at hx
  exact rule_ok h hi hr hj
/-- The rules, till none fits. -/
noncomputable def peepF : Nat → List Mac → List Mac
  | 0, l => l
  | f + 1, l => match onceP l with
    | none => l
    | some x => peepF f x
noncomputable def peepL (l : List Mac) : List Mac := peepF (msr l) l
theorem peepF_more (f : Nat) : ∀ (g : Nat) {l : List Mac}, MacsOk l → msr l ≤ f → f ≤ g → peepF g l = peepF f l := by
  induction f with
  | zero =>
    intro g l h h1 h2
    cases g with
    | zero => rfl
    | succ g =>
      rw [peepF, peepF]
      cases hx : onceP l with
      | none => rfl
      | some x => have := (onceP_ok h hx).2.1; omega
  | succ f ih =>
    intro g l h h1 h2
    cases g with
    | zero => omega
    | succ g =>
      rw [peepF, peepF]
      cases hx : onceP l with
      | none => rfl
      | some x =>
        have h3 := onceP_ok h hx
        exact ih g h3.1 (by omega) (by omega)
theorem peepL_none {l : List Mac} (hx : onceP l = none) : peepL l = l := by
  unfold peepL
  cases msr l with
  | zero => rfl
  | succ n => rw [peepF, hx]
theorem peepL_some {l l' : List Mac} (h : MacsOk l) (hx : onceP l = some l') : peepL l = peepL l' := by
  have h3 := onceP_ok h hx
  unfold peepL
  obtain ⟨n, hn⟩ : ∃ n, msr l = n + 1 := ⟨msr l - 1, by omega⟩
  rw [hn, peepF, hx]
  exact peepF_more (msr l') n h3.1 (Nat.le_refl _) (by omega)
/-- What the rules leave, and what holds of it. -/
theorem peepL_end (n : Nat) : ∀ {l : List Mac}, MacsOk l → msr l ≤ n → MacsOk (peepL l) ∧ onceP (peepL l) = none ∧ (peepL l).length ≤ l.length := by
  induction n with
  | zero =>
    intro l h h1
    cases hx : onceP l with
    | none => rw [peepL_none hx]; exact ⟨h, hx, Nat.le_refl _⟩
    | some x => have := (onceP_ok h hx).2.1; omega
  | succ n ih =>
    intro l h h1
    cases hx : onceP l with
    | none => rw [peepL_none hx]; exact ⟨h, hx, Nat.le_refl _⟩
    | some x =>
      have h3 := onceP_ok h hx
      rw [peepL_some h hx]
      obtain ⟨a, b, c⟩ := ih h3.1 (by omega)
      exact ⟨a, b, by omega⟩
theorem peepL_ok {l : List Mac} (h : MacsOk l) : MacsOk (peepL l) := (peepL_end _ h (Nat.le_refl _)).1
theorem peepL_done {l : List Mac} (h : MacsOk l) : onceP (peepL l) = none := (peepL_end _ h (Nat.le_refl _)).2.1
theorem peepL_len {l : List Mac} (h : MacsOk l) : (peepL l).length ≤ l.length := (peepL_end _ h (Nat.le_refl _)).2.2
theorem peepL_again {l : List Mac} (h : MacsOk l) : peepL (peepL l) = peepL l := peepL_none (peepL_done h)
end Go.Proofs.YtemakpjickbmnaaDoor

/- Runs of one routine that calls none, plainly: an instruction's doing; ends. -/
namespace Go.Proofs.YtemakpjickbmnaaDoor
open Go.RowKit
set_option linter.unusedSimpArgs false
set_option linter.unusedVariables false

structure Cfg where
  regs : List Int
  fr : List Int
  mem : List Int
  inp : List Int
  out : List Int
inductive Ctl where
  | fall : Ctl
  | jump : Nat → Ctl
  | stop : Int → Int → Ctl
def Cfg.reg (c : Cfg) (r : Int) : Int := c.regs.getD r.toNat 0
def Cfg.put (c : Cfg) (r x : Int) : Cfg := { c with regs := c.regs.set r.toNat x }
def Cfg.fits (c : Cfg) (n : Int) : Bool := decide (0 ≤ n) && decide (n < (c.mem.length : Int))
def exec (m : Mac) (c : Cfg) : Ctl × Cfg :=
  if 5 ≤ m.op ∧ m.op ≤ 18 then (match twoI (m.op - 3) (c.reg m.a) (c.reg m.b) with | none => (.stop 2 0, c) | some x => (.fall, c.put m.dst x))
  else if 19 ≤ m.op ∧ m.op ≤ 32 then (match twoI (m.op - 17) (c.reg m.a) m.n with | none => (.stop 2 0, c) | some x => (.fall, c.put m.dst x))
  else if 37 ≤ m.op ∧ m.op ≤ 43 then (if goesM m.op (c.reg m.a) (c.reg m.b) then (.jump m.n.toNat, c) else (.fall, c))
  else if m.op = 1 then (.fall, c.put m.dst m.n)
  else if m.op = 2 then (.fall, c.put m.dst (c.reg m.a))
  else if m.op = 3 then (.fall, c.put m.dst (wrap64 (-(c.reg m.a))))
  else if m.op = 4 then (.fall, c.put m.dst (bits .xor .i64 (-1) (c.reg m.a)))
  else if m.op = 33 then (if c.fits (wrap64 (c.reg m.a + m.n)) then (.fall, c.put m.dst (c.mem.getD (wrap64 (c.reg m.a + m.n)).toNat 0)) else (.stop 3 0, c))
  else if m.op = 34 then (if c.fits (wrap64 (c.reg m.a + m.n)) then (.fall, { c with mem := c.mem.set (wrap64 (c.reg m.a + m.n)).toNat (c.reg m.b) }) else (.stop 3 0, c))
  else if m.op = 35 then (.fall, c.put m.dst (c.fr.getD m.n.toNat 0))
  else if m.op = 36 then (.fall, { c with fr := c.fr.set m.n.toNat (c.reg m.a) })
  else if m.op = 45 then (.stop 0 (c.reg 0), c)
  else if m.op = 46 then (match c.inp with | [] => (.fall, c.put m.dst (-1)) | x :: l => (.fall, { c.put m.dst x with inp := l }))
  else if m.op = 47 then (if c.out.length = 200 then (.stop 5 0, c) else (.fall, { c with out := c.out ++ [c.reg m.a] }))
  else (.fall, c)
/-- A run ends: after so many steps, in a state, with what it told and printed. -/
inductive Ends (l : List Mac) : Nat → Cfg → Nat → Int × Int × List Int → Prop where
  | stop {pc : Nat} {c c' : Cfg} {st v : Int} : exec (atL l pc) c = (.stop st v, c') → Ends l pc c 1 (st, v, c'.out)
  | fall {pc k : Nat} {c c' : Cfg} {O : Int × Int × List Int} : exec (atL l pc) c = (.fall, c') → Ends l (pc + 1) c' k O → Ends l pc c (k + 1) O
  | jump {pc k n : Nat} {c c' : Cfg} {O : Int × Int × List Int} : exec (atL l pc) c = (.jump n, c') → Ends l n c' k O → Ends l pc c (k + 1) O
def cfgM (s : MS) (fr : List Int) : Cfg := ⟨s.regs, fr, s.mem, s.inp, s.out⟩
/-- The machine with one routine under way. -/
def oneM (s : MS) (pc : Nat) (fr : List Int) : Prop := s.calls = [⟨0, pc, fr⟩] ∧ s.over = false ∧ s.st = 0 ∧ s.val = 0
def Match (D : MS) (n pc : Nat) : Ctl × Cfg → Prop
  | (.stop st v, c') => D.over = true ∧ D.st = st ∧ D.val = v ∧ D.out = c'.out ∧ D.steps = n
  | (.fall, c') => oneM D (pc + 1) c'.fr ∧ cfgM D c'.fr = c' ∧ D.steps = n
  | (.jump k, c') => oneM D k c'.fr ∧ cfgM D c'.fr = c' ∧ D.steps = n
theorem match_ite {D1 D2 : MS} {n pc : Nat} {E1 E2 : Ctl × Cfg} (b1 b2 : Bool) (h : b1 = b2) (h1 : Match D1 n pc E1) (h2 : Match D2 n pc E2) : Match (if b1 = true then D1 else D2) n pc (if b2 = true then E1 else E2) := by
  subst h
  cases b1
  · exact h2
  · exact h1
theorem doM_exec (m : Mac) (pc : Nat) (fr regs mem inp out : List Int) (n : Nat) (h44 : m.op ≠ 44) (h1 : 1 ≤ m.op) (h47 : m.op ≤ 47) :
    Match (doM m ⟨0, pc + 1, fr⟩ [] ⟨regs, mem, [⟨0, pc + 1, fr⟩], inp, 0, 0, out, n, false⟩) n pc (exec m ⟨regs, fr, mem, inp, out⟩) := by
  unfold doM exec
  by_cases hA : 5 ≤ m.op ∧ m.op ≤ 18
  · rw [if_pos hA, if_pos hA]
    unfold reckM
    simp only [MS.reg, Cfg.reg]
    cases twoI (m.op - 3) (regs.getD m.a.toNat 0) (regs.getD m.b.toNat 0) with
    | none => exact ⟨rfl, rfl, rfl, rfl, rfl⟩
    | some x => exact ⟨⟨rfl, rfl, rfl, rfl⟩, rfl, rfl⟩
  rw [if_neg hA, if_neg hA]
  by_cases hB : 19 ≤ m.op ∧ m.op ≤ 32
  · rw [if_pos hB, if_pos hB]
    unfold reckM
    simp only [MS.reg, Cfg.reg]
    rw [show m.op - 14 - 3 = m.op - 17 from by omega]
    cases twoI (m.op - 17) (regs.getD m.a.toNat 0) m.n with
    | none => exact ⟨rfl, rfl, rfl, rfl, rfl⟩
    | some x => exact ⟨⟨rfl, rfl, rfl, rfl⟩, rfl, rfl⟩
  rw [if_neg hB, if_neg hB]
  by_cases hC : 37 ≤ m.op ∧ m.op ≤ 43
  · rw [if_pos hC, if_pos hC]
    exact match_ite _ _ rfl ⟨⟨rfl, rfl, rfl, rfl⟩, rfl, rfl⟩ ⟨⟨rfl, rfl, rfl, rfl⟩, rfl, rfl⟩
  rw [if_neg hC, if_neg hC]
  by_cases hD : 44 ≤ m.op
  · rw [if_pos hD, if_neg (by omega), if_neg (by omega), if_neg (by omega), if_neg (by omega), if_neg (by omega), if_neg (by omega), if_neg (by omega), if_neg (by omega)]
    unfold speaksM
    rw [if_neg h44]
    by_cases h45 : m.op = 45
    · rw [if_pos h45, if_pos h45, if_pos rfl]
      exact ⟨rfl, rfl, rfl, rfl, rfl⟩
    rw [if_neg h45, if_neg h45]
    by_cases h46 : m.op = 46
    · rw [if_pos h46, if_pos h46]
      cases inp with
      | nil => exact ⟨⟨rfl, rfl, rfl, rfl⟩, rfl, rfl⟩
      | cons x l => exact ⟨⟨rfl, rfl, rfl, rfl⟩, rfl, rfl⟩
    have h47' : m.op = 47 := by omega
    rw [if_neg h46, if_neg h46, if_pos h47', if_pos h47']
    simp only [MS.reg, Cfg.reg]
    by_cases h2 : out.length = 200
    · rw [if_pos h2, if_pos h2]
      exact ⟨rfl, rfl, rfl, rfl, rfl⟩
    · rw [if_neg h2, if_neg h2]
      exact ⟨⟨rfl, rfl, rfl, rfl⟩, rfl, rfl⟩
  rw [if_neg hD]
  unfold movesM
  by_cases k1 : m.op = 1
  · rw [if_pos k1, if_pos k1]
    exact ⟨⟨rfl, rfl, rfl, rfl⟩, rfl, rfl⟩
  rw [if_neg k1, if_neg k1]
  by_cases k2 : m.op = 2
  · rw [if_pos k2, if_pos k2]
    exact ⟨⟨rfl, rfl, rfl, rfl⟩, rfl, rfl⟩
  rw [if_neg k2, if_neg k2]
  by_cases k3 : m.op = 3
  · rw [if_pos k3, if_pos k3]
    exact ⟨⟨rfl, rfl, rfl, rfl⟩, rfl, rfl⟩
  rw [if_neg k3, if_neg k3]
  by_cases k4 : m.op = 4
  · rw [if_pos k4, if_pos k4]
    exact ⟨⟨rfl, rfl, rfl, rfl⟩, rfl, rfl⟩
  rw [if_neg k4, if_neg k4]
  by_cases k33 : m.op = 33
  · rw [if_pos k33, if_pos k33]
    exact match_ite _ _ rfl ⟨⟨rfl, rfl, rfl, rfl⟩, rfl, rfl⟩ ⟨rfl, rfl, rfl, rfl, rfl⟩
  rw [if_neg k33, if_neg k33]
  by_cases k34 : m.op = 34
  · rw [if_pos k34, if_pos k34]
    exact match_ite _ _ rfl ⟨⟨rfl, rfl, rfl, rfl⟩, rfl, rfl⟩ ⟨rfl, rfl, rfl, rfl, rfl⟩
  rw [if_neg k34, if_neg k34]
  by_cases k35 : m.op = 35
  · rw [if_pos k35, if_pos k35]
    exact ⟨⟨rfl, rfl, rfl, rfl⟩, rfl, rfl⟩
  rw [if_neg k35, if_neg k35]
  have k36 : m.op = 36 := by omega
  rw [if_pos k36, if_pos k36]
  exact ⟨⟨rfl, rfl, rfl, rfl⟩, rfl, rfl⟩
theorem step_exec {l : List Mac} {s : MS} {pc : Nat} {fr : List Int} (h : oneM s pc fr) (h44 : (atL l pc).op ≠ 44) (h1 : 1 ≤ (atL l pc).op) (h47 : (atL l pc).op ≤ 47) :
    Match (stepM [l] s) (s.steps + 1) pc (exec (atL l pc) (cfgM s fr)) := by
  obtain ⟨regs, mem, calls, inp, st0, val0, out, steps, over⟩ := s
  obtain ⟨hc, ho, hst, hv⟩ := h
  simp only at hc ho hst hv
  subst hc ho hst hv
  exact doM_exec (atL l pc) pc fr regs mem inp out (steps + 1) h44 h1 h47
/-- Code of one routine that calls none and may be. -/
structure Fine1 (l : List Mac) : Prop where
  code : CodeOk 1 l
  none : ∀ m ∈ l, m.op ≠ 44
theorem atL_mem {l : List Mac} {i : Nat} (h : i < l.length) : atL l i ∈ l := by
  unfold atL
  rw [List.getD_eq_getElem?_getD, List.getElem?_eq_getElem h]
  exact List.getElem_mem h
theorem Fine1.at_ {l : List Mac} (h : Fine1 l) {i : Nat} (hi : i < l.length) : MacOk (atL l i) l.length ∧ (atL l i).op ≠ 44 := ⟨macF_ok (h.code.fine _ (atL_mem hi)), h.none _ (atL_mem hi)⟩
theorem exec_fall {m : Mac} {c c' : Cfg} (h : exec m c = (.fall, c')) : m.op ≠ 37 ∧ m.op ≠ 45 := by
  refine ⟨fun e => ?_, fun e => ?_⟩
  · have : exec m c = (.jump m.n.toNat, c) := by unfold exec; rw [if_neg (by omega), if_neg (by omega), if_pos (by omega), e]; rfl
    rw [this] at h; cases h
  · have : exec m c = (.stop 0 (c.reg 0), c) := by
      unfold exec
      rw [if_neg (by omega), if_neg (by omega), if_neg (by omega), if_neg (by omega), if_neg (by omega), if_neg (by omega), if_neg (by omega), if_neg (by omega), if_neg (by omega), if_neg (by omega), if_neg (by omega), if_pos e]
    rw [this] at h; cases h
theorem exec_jump {m : Mac} {c c' : Cfg} {n : Nat} (h : exec m c = (.jump n, c')) : jumpsM m = true ∧ n = m.n.toNat ∧ c' = c ∧ goesM m.op (c.reg m.a) (c.reg m.b) = true := by
  by_cases hj : 37 ≤ m.op ∧ m.op ≤ 43
  · have e : exec m c = if goesM m.op (c.reg m.a) (c.reg m.b) then (.jump m.n.toNat, c) else (.fall, c) := by
      unfold exec
      rw [if_neg (by omega), if_neg (by omega), if_pos hj]
    rw [e] at h
    cases hg : goesM m.op (c.reg m.a) (c.reg m.b) with
    | false => rw [hg] at h; simp at h
    | true =>
      rw [hg] at h
      simp at h
      exact ⟨by unfold jumpsM; simpa using hj, h.1.symm, h.2.symm, rfl⟩
  · exfalso
    unfold exec at h
    by_cases hA : 5 ≤ m.op ∧ m.op ≤ 18
    · rw [if_pos hA] at h
      cases hx : twoI (m.op - 3) (c.reg m.a) (c.reg m.b) <;> rw [hx] at h <;> cases h
    rw [if_neg hA] at h
    by_cases hB : 19 ≤ m.op ∧ m.op ≤ 32
    · rw [if_pos hB] at h
      cases hx : twoI (m.op - 17) (c.reg m.a) m.n <;> rw [hx] at h <;> cases h
    rw [if_neg hB, if_neg hj] at h
    by_cases k1 : m.op = 1
    · rw [if_pos k1] at h; cases h
    rw [if_neg k1] at h
    by_cases k1 : m.op = 2
    · rw [if_pos k1] at h; cases h
    rw [if_neg k1] at h
    by_cases k1 : m.op = 3
    · rw [if_pos k1] at h; cases h
    rw [if_neg k1] at h
    by_cases k1 : m.op = 4
    · rw [if_pos k1] at h; cases h
    rw [if_neg k1] at h
    by_cases k1 : m.op = 33
    · rw [if_pos k1] at h
      by_cases hf : c.fits (wrap64 (c.reg m.a + m.n)) = true
      · rw [if_pos hf] at h; cases h
      · rw [if_neg hf] at h; cases h
    rw [if_neg k1] at h
    by_cases k1 : m.op = 34
    · rw [if_pos k1] at h
      by_cases hf : c.fits (wrap64 (c.reg m.a + m.n)) = true
      · rw [if_pos hf] at h; cases h
      · rw [if_neg hf] at h; cases h
    rw [if_neg k1] at h
    by_cases k1 : m.op = 35
    · rw [if_pos k1] at h; cases h
    rw [if_neg k1] at h
    by_cases k1 : m.op = 36
    · rw [if_pos k1] at h; cases h
    rw [if_neg k1] at h
    by_cases k1 : m.op = 45
    · rw [if_pos k1] at h; cases h
    rw [if_neg k1] at h
    by_cases k1 : m.op = 46
    · rw [if_pos k1] at h
      cases hx : c.inp <;> rw [hx] at h <;> cases h
    rw [if_neg k1] at h
    by_cases k1 : m.op = 47
    · rw [if_pos k1] at h
      by_cases hf : c.out.length = 200
      · rw [if_pos hf] at h; cases h
      · rw [if_neg hf] at h; cases h
    rw [if_neg k1] at h
    cases h
theorem Fine1.fall {l : List Mac} (h : Fine1 l) {pc : Nat} {c c' : Cfg} (hp : pc < l.length) (he : exec (atL l pc) c = (.fall, c')) : pc + 1 < l.length := pc_next h.code hp (exec_fall he).1 (exec_fall he).2
theorem Fine1.jump {l : List Mac} (h : Fine1 l) {pc n : Nat} {c c' : Cfg} (hp : pc < l.length) (he : exec (atL l pc) c = (.jump n, c')) : n < l.length := by
  obtain ⟨hj, hn, _⟩ := exec_jump he
  have h1 : 37 ≤ (atL l pc).op ∧ (atL l pc).op ≤ 43 := by unfold jumpsM at hj; simpa using hj
  have := (h.at_ hp).1.jump h1.1 h1.2
  omega
/-- A run that ends, step by step, and as the machine has it. -/
theorem run_ends {l : List Mac} (h : Fine1 l) : ∀ (n : Nat) (s : MS) (pc : Nat) (fr : List Int), oneM s pc fr → pc < l.length → (runM [l] n s).over = true →
    ∃ k, k ≤ n ∧ Ends l pc (cfgM s fr) k ((runM [l] n s).st, (runM [l] n s).val, (runM [l] n s).out) ∧ (runM [l] n s).steps = s.steps + k
  | 0, s, pc, fr, ho, _, hov => by
    rw [runM, ho.2.1] at hov
    cases hov
  | n + 1, s, pc, fr, ho, hp, hov => by
    have ⟨hm, h44⟩ := h.at_ hp
    have hst := step_exec (l := l) ho h44 hm.op1 hm.op47
    rw [runM_step ho.2.1] at hov ⊢
    cases he : exec (atL l pc) (cfgM s fr) with
    | mk ct c' =>
      rw [he] at hst
      cases ct with
      | stop st v =>
        obtain ⟨h1, h2, h3, h4, h5⟩ := hst
        rw [runM_over h1]
        refine ⟨1, by omega, ?_, h5⟩
        rw [h2, h3, h4]
        exact .stop he
      | fall =>
        obtain ⟨h1, h2, h3⟩ := hst
        obtain ⟨k, hk, he2, hs⟩ := run_ends h n _ _ _ h1 (h.fall hp he) hov
        refine ⟨k + 1, by omega, .fall he (by rw [h2] at he2; exact he2), by rw [hs, h3]; omega⟩
      | jump t =>
        obtain ⟨h1, h2, h3⟩ := hst
        obtain ⟨k, hk, he2, hs⟩ := run_ends h n _ _ _ h1 (h.jump hp he) hov
        refine ⟨k + 1, by omega, .jump he (by rw [h2] at he2; exact he2), by rw [hs, h3]; omega⟩
theorem ends_run {l : List Mac} (h : Fine1 l) {pc : Nat} {c : Cfg} {k : Nat} {O : Int × Int × List Int} (he : Ends l pc c k O) : ∀ (s : MS) (fr : List Int) (n : Nat), oneM s pc fr → cfgM s fr = c → pc < l.length → k ≤ n →
    (runM [l] n s).over = true ∧ ((runM [l] n s).st, (runM [l] n s).val, (runM [l] n s).out) = O ∧ (runM [l] n s).steps = s.steps + k := by
  induction he with
  | @stop pc c c' st v he =>
    intro s fr n ho hc hp hk
    subst hc
    have ⟨hm, h44⟩ := h.at_ hp
    have hst := step_exec (l := l) ho h44 hm.op1 hm.op47
    rw [he] at hst
    obtain ⟨h1, h2, h3, h4, h5⟩ := hst
    obtain ⟨n, rfl⟩ : ∃ n', n = n' + 1 := ⟨n - 1, by omega⟩
    rw [runM_step ho.2.1, runM_over h1]
    exact ⟨h1, by rw [h2, h3, h4], h5⟩
  | @fall pc k c c' O he _ ih =>
    intro s fr n ho hc hp hk
    subst hc
    have ⟨hm, h44⟩ := h.at_ hp
    have hst := step_exec (l := l) ho h44 hm.op1 hm.op47
    rw [he] at hst
    obtain ⟨h1, h2, h3⟩ := hst
    obtain ⟨n, rfl⟩ : ∃ n', n = n' + 1 := ⟨n - 1, by omega⟩
    rw [runM_step ho.2.1]
    obtain ⟨e1, e2, e3⟩ := ih _ _ n h1 h2 (h.fall hp he) (by omega)
    exact ⟨e1, e2, by rw [e3, h3]; omega⟩
  | @jump pc k t c c' O he _ ih =>
    intro s fr n ho hc hp hk
    subst hc
    have ⟨hm, h44⟩ := h.at_ hp
    have hst := step_exec (l := l) ho h44 hm.op1 hm.op47
    rw [he] at hst
    obtain ⟨h1, h2, h3⟩ := hst
    obtain ⟨n, rfl⟩ : ∃ n', n = n' + 1 := ⟨n - 1, by omega⟩
    rw [runM_step ho.2.1]
    obtain ⟨e1, e2, e3⟩ := ih _ _ n h1 h2 (h.jump hp he) (by omega)
    exact ⟨e1, e2, by rw [e3, h3]; omega⟩
end Go.Proofs.YtemakpjickbmnaaDoor

/- What a rule leaves means what was there, plainly. -/
namespace Go.Proofs.YtemakpjickbmnaaDoor
open Go.RowKit
set_option linter.unusedSimpArgs false
set_option linter.unusedVariables false

/-- Two states that agree on registers P and on words Q of the frame. -/
structure Agr (P Q : Nat → Prop) (c c' : Cfg) : Prop where
  l1 : c.regs.length = 16
  l2 : c'.regs.length = 16
  f1 : c.fr.length = 120
  f2 : c'.fr.length = 120
  regs : ∀ r, r < 16 → P r → c.regs.getD r 0 = c'.regs.getD r 0
  fr : ∀ w, w < 120 → Q w → c.fr.getD w 0 = c'.fr.getD w 0
  mem : c.mem = c'.mem
  inp : c.inp = c'.inp
  out : c.out = c'.out
theorem Agr.mono {P P' Q : Nat → Prop} {c c' : Cfg} (h : Agr P Q c c') (hp : ∀ r, r < 16 → P' r → P r) : Agr P' Q c c' := { h with regs := fun r h1 h2 => h.regs r h1 (hp r h1 h2) }
theorem getD_put {l : List Int} {k j : Nat} {x : Int} (hk : k < l.length) : (l.set k x).getD j 0 = if j = k then x else l.getD j 0 := by
  rw [List.getD_eq_getElem?_getD, List.getD_eq_getElem?_getD, List.getElem?_set]
  by_cases h : k = j
  · subst h
    simp [hk]
  · rw [if_neg h, if_neg (fun e => h e.symm)]
theorem Agr.put {P Q : Nat → Prop} {c c' : Cfg} (h : Agr P Q c c') (r : Int) (h0 : 0 ≤ r) (h1 : r ≤ 15) (x : Int) : Agr (fun k => P k ∨ (k : Int) = r) Q (c.put r x) (c'.put r x) where
  l1 := by simp [Cfg.put, h.l1]
  l2 := by simp [Cfg.put, h.l2]
  f1 := h.f1
  f2 := h.f2
  regs := fun k hk hp => by
    show (c.regs.set r.toNat x).getD k 0 = (c'.regs.set r.toNat x).getD k 0
    rw [getD_put (by rw [h.l1]; omega), getD_put (by rw [h.l2]; omega)]
    by_cases e : k = r.toNat
    · rw [if_pos e, if_pos e]
    · rw [if_neg e, if_neg e]
      rcases hp with hp | hp
      · exact h.regs k hk hp
      · omega
  fr := h.fr
  mem := h.mem
  inp := h.inp
  out := h.out
/-- What an instruction speaks of, by its Op. -/
theorem shape_at (op : Int) (h1 : 1 ≤ op) (h2 : op ≤ 47) : (5 ≤ op ∧ op ≤ 18 → shapeOf op = ⟨true, true, true, 0⟩) ∧ (19 ≤ op ∧ op ≤ 32 → shapeOf op = ⟨true, true, false, 1⟩) ∧ (op = 1 → shapeOf op = ⟨true, false, false, 1⟩) ∧ (2 ≤ op ∧ op ≤ 4 → shapeOf op = ⟨true, true, false, 0⟩) ∧
    (op = 33 → shapeOf op = ⟨true, true, false, 1⟩) ∧ (op = 34 → shapeOf op = ⟨false, true, true, 1⟩) ∧ (op = 35 → shapeOf op = ⟨true, false, false, 3⟩) ∧ (op = 36 → shapeOf op = ⟨false, true, false, 3⟩) ∧ (op = 37 → shapeOf op = ⟨false, false, false, 2⟩) ∧
    (op = 38 ∨ op = 39 → shapeOf op = ⟨false, true, false, 2⟩) ∧ (40 ≤ op ∧ op ≤ 43 → shapeOf op = ⟨false, true, true, 2⟩) ∧ (op = 45 → shapeOf op = ⟨false, false, false, 0⟩) ∧ (op = 46 → shapeOf op = ⟨true, false, false, 0⟩) ∧ (op = 47 → shapeOf op = ⟨false, true, false, 0⟩) := by
  have h : op = 1 ∨ op = 2 ∨ op = 3 ∨ op = 4 ∨ op = 5 ∨ op = 6 ∨ op = 7 ∨ op = 8 ∨ op = 9 ∨ op = 10 ∨ op = 11 ∨ op = 12 ∨ op = 13 ∨ op = 14 ∨ op = 15 ∨ op = 16 ∨ op = 17 ∨ op = 18 ∨ op = 19 ∨ op = 20 ∨ op = 21 ∨ op = 22 ∨ op = 23 ∨ op = 24 ∨ op = 25 ∨ op = 26 ∨ op = 27 ∨ op = 28 ∨ op = 29 ∨ op = 30 ∨ op = 31 ∨ op = 32 ∨ op = 33 ∨ op = 34 ∨ op = 35 ∨ op = 36 ∨ op = 37 ∨ op = 38 ∨ op = 39 ∨ op = 40 ∨ op = 41 ∨ op = 42 ∨ op = 43 ∨ op = 44 ∨ op = 45 ∨ op = 46 ∨ op = 47 := by omega
  rcases h with h | h | h | h | h | h | h | h | h | h | h | h | h | h | h | h | h | h | h | h | h | h | h | h | h | h | h | h | h | h | h | h | h | h | h | h | h | h | h | h | h | h | h | h | h | h | h <;> subst h <;> (refine ⟨?_, ?_, ?_, ?_, ?_, ?_, ?_, ?_, ?_, ?_, ?_, ?_, ?_, ?_⟩ <;> intro h <;> first | rfl | (exfalso; omega))
theorem goes_same {op a b a' b' : Int} (h1 : 38 ≤ op → a = a') (h2 : 40 ≤ op → b = b') (ho : 37 ≤ op) : goesM op a b = goesM op a' b' := by
  by_cases e : op = 37
  · subst e; rfl
  have := h1 (by omega)
  subst this
  by_cases e2 : op = 38
  · subst e2; rfl
  by_cases e3 : op = 39
  · subst e3; rfl
  have := h2 (by omega)
  subst this
  rfl
theorem Agr.setFr {P Q : Nat → Prop} {c c' : Cfg} (h : Agr P Q c c') (n : Int) (h0 : 0 ≤ n) (h1 : n < 120) (x : Int) : Agr P (fun k => Q k ∨ (k : Int) = n) { c with fr := c.fr.set n.toNat x } { c' with fr := c'.fr.set n.toNat x } where
  l1 := h.l1
  l2 := h.l2
  f1 := by show (c.fr.set n.toNat x).length = 120; rw [List.length_set]; exact h.f1
  f2 := by show (c'.fr.set n.toNat x).length = 120; rw [List.length_set]; exact h.f2
  regs := h.regs
  fr := fun k hk hp => by
    show (c.fr.set n.toNat x).getD k 0 = (c'.fr.set n.toNat x).getD k 0
    rw [getD_put (by rw [h.f1]; omega), getD_put (by rw [h.f2]; omega)]
    by_cases e : k = n.toNat
    · rw [if_pos e, if_pos e]
    · rw [if_neg e, if_neg e]
      rcases hp with hp | hp
      · exact h.fr k hk hp
      · omega
  mem := h.mem
  inp := h.inp
  out := h.out
theorem Agr.monoQ {P Q Q' : Nat → Prop} {c c' : Cfg} (h : Agr P Q c c') (hp : ∀ r, r < 120 → Q' r → Q r) : Agr P Q' c c' := { h with fr := fun r h1 h2 => h.fr r h1 (hp r h1 h2) }
def Ctl.stops : Ctl → Bool
  | .stop _ _ => true
  | _ => false
set_option maxHeartbeats 400000 in
/-- An instruction does the same from two states that agree on what it reads. -/
theorem exec_rel {m : Mac} {len : Nat} (hm : MacOk m len) (h44 : m.op ≠ 44) {P Q : Nat → Prop} (hP : ∀ r, r < 16 → readsM m r = true → P r) (hQ : m.op = 35 → Q m.n.toNat) {c c' : Cfg} (h : Agr P Q c c') :
    ∃ ct c1 c1', exec m c = (ct, c1) ∧ exec m c' = (ct, c1') ∧ (ct.stops = false → Agr (fun r => P r ∨ writesM m r = true) Q c1 c1') ∧ c1.out = c1'.out := by
  obtain ⟨s1, s2, s3, s4, s5, s6, s7, s8, s9, s10, s11, s12, s13, s14⟩ := shape_at m.op hm.op1 hm.op47
  have hra : (shapeOf m.op).a = true → m.op ≠ 45 → c.reg m.a = c'.reg m.a := fun ha h45 => h.regs m.a.toNat (by have := hm.a1; omega) (hP _ (by have := hm.a1; omega) (by
    unfold readsM
    rw [if_neg h44, if_neg h45, ha]
    have := hm.a0
    simp
    exact .inl (by omega)))
  have hrb : (shapeOf m.op).b = true → m.op ≠ 45 → c.reg m.b = c'.reg m.b := fun ha h45 => h.regs m.b.toNat (by have := hm.b1; omega) (hP _ (by have := hm.b1; omega) (by
    unfold readsM
    rw [if_neg h44, if_neg h45, ha]
    have := hm.b0
    simp
    exact .inr (by omega)))
  have hw : (shapeOf m.op).d = true → ∀ x, Agr (fun r => P r ∨ writesM m r = true) Q (c.put m.dst x) (c'.put m.dst x) := fun hd x => (h.put m.dst hm.dst0 hm.dst1 x).mono fun r _ hr => by
    rcases hr with hr | hr
    · exact .inl hr
    · right
      unfold writesM at hr
      rw [if_neg h44, hd] at hr
      simp at hr
      exact hr.symm
  have hnow : (shapeOf m.op).d = false → ∀ {c c' : Cfg}, Agr P Q c c' → Agr (fun r => P r ∨ writesM m r = true) Q c c' := fun hd _ _ h => h.mono fun r _ hr => by
    rcases hr with hr | hr
    · exact hr
    · unfold writesM at hr
      rw [if_neg h44, hd] at hr
      cases hr
  have hfits : ∀ n, c.fits n = c'.fits n := fun n => by unfold Cfg.fits; rw [h.mem]
  unfold exec
  by_cases hA : 5 ≤ m.op ∧ m.op ≤ 18
  · rw [if_pos hA, if_pos hA]
    have hs := s1 hA
    rw [hra (by rw [hs]) (by omega), hrb (by rw [hs]) (by omega)]
    cases twoI (m.op - 3) (c'.reg m.a) (c'.reg m.b) with
    | none => exact ⟨_, _, _, rfl, rfl, fun e => by simp [Ctl.stops] at e, h.out⟩
    | some x => exact ⟨_, _, _, rfl, rfl, fun _ => hw (by rw [hs]) x, h.out⟩
  rw [if_neg hA, if_neg hA]
  by_cases hB : 19 ≤ m.op ∧ m.op ≤ 32
  · rw [if_pos hB, if_pos hB]
    have hs := s2 hB
    rw [hra (by rw [hs]) (by omega)]
    cases twoI (m.op - 17) (c'.reg m.a) m.n with
    | none => exact ⟨_, _, _, rfl, rfl, fun e => by simp [Ctl.stops] at e, h.out⟩
    | some x => exact ⟨_, _, _, rfl, rfl, fun _ => hw (by rw [hs]) x, h.out⟩
  rw [if_neg hB, if_neg hB]
  by_cases hC : 37 ≤ m.op ∧ m.op ≤ 43
  · rw [if_pos hC, if_pos hC]
    have hd : (shapeOf m.op).d = false := by
      rcases (show m.op = 37 ∨ (m.op = 38 ∨ m.op = 39) ∨ (40 ≤ m.op ∧ m.op ≤ 43) from by omega) with e | e | e
      · rw [s9 e]
      · rw [s10 e]
      · rw [s11 e]
    have hg : goesM m.op (c.reg m.a) (c.reg m.b) = goesM m.op (c'.reg m.a) (c'.reg m.b) := goes_same (fun e => hra (by
      rcases (show (m.op = 38 ∨ m.op = 39) ∨ (40 ≤ m.op ∧ m.op ≤ 43) from by omega) with e | e
      · rw [s10 e]
      · rw [s11 e]) (by omega)) (fun e => hrb (by rw [s11 ⟨e, hC.2⟩]) (by omega)) hC.1
    rw [hg]
    cases goesM m.op (c'.reg m.a) (c'.reg m.b) with
    | true => exact ⟨_, _, _, rfl, rfl, fun _ => hnow hd h, h.out⟩
    | false => exact ⟨_, _, _, rfl, rfl, fun _ => hnow hd h, h.out⟩
  rw [if_neg hC, if_neg hC]
  by_cases k1 : m.op = 1
  · rw [if_pos k1, if_pos k1]
    exact ⟨_, _, _, rfl, rfl, fun _ => hw (by rw [s3 k1]) _, h.out⟩
  rw [if_neg k1, if_neg k1]
  by_cases k2 : m.op = 2
  · rw [if_pos k2, if_pos k2, hra (by rw [s4 (by omega)]) (by omega)]
    exact ⟨_, _, _, rfl, rfl, fun _ => hw (by rw [s4 (by omega)]) _, h.out⟩
  rw [if_neg k2, if_neg k2]
  by_cases k3 : m.op = 3
  · rw [if_pos k3, if_pos k3, hra (by rw [s4 (by omega)]) (by omega)]
    exact ⟨_, _, _, rfl, rfl, fun _ => hw (by rw [s4 (by omega)]) _, h.out⟩
  rw [if_neg k3, if_neg k3]
  by_cases k4 : m.op = 4
  · rw [if_pos k4, if_pos k4, hra (by rw [s4 (by omega)]) (by omega)]
    exact ⟨_, _, _, rfl, rfl, fun _ => hw (by rw [s4 (by omega)]) _, h.out⟩
  rw [if_neg k4, if_neg k4]
  by_cases k33 : m.op = 33
  · rw [if_pos k33, if_pos k33, hra (by rw [s5 k33]) (by omega), hfits, h.mem]
    cases c'.fits (wrap64 (c'.reg m.a + m.n)) with
    | true => exact ⟨_, _, _, rfl, rfl, fun _ => hw (by rw [s5 k33]) _, h.out⟩
    | false => exact ⟨_, _, _, rfl, rfl, fun e => by simp [Ctl.stops] at e, h.out⟩
  rw [if_neg k33, if_neg k33]
  by_cases k34 : m.op = 34
  · rw [if_pos k34, if_pos k34, hra (by rw [s6 k34]) (by omega), hrb (by rw [s6 k34]) (by omega), hfits, h.mem]
    cases c'.fits (wrap64 (c'.reg m.a + m.n)) with
    | true => exact ⟨_, _, _, rfl, rfl, fun _ => hnow (by rw [s6 k34]) ⟨h.l1, h.l2, h.f1, h.f2, h.regs, h.fr, rfl, h.inp, h.out⟩, h.out⟩
    | false => exact ⟨_, _, _, rfl, rfl, fun e => by simp [Ctl.stops] at e, h.out⟩
  rw [if_neg k34, if_neg k34]
  by_cases k35 : m.op = 35
  · have hb := hm.word (.inl k35)
    rw [if_pos k35, if_pos k35, h.fr m.n.toNat (by omega) (hQ k35)]
    exact ⟨_, _, _, rfl, rfl, fun _ => hw (by rw [s7 k35]) _, h.out⟩
  rw [if_neg k35, if_neg k35]
  by_cases k36 : m.op = 36
  · have hb := hm.word (.inr k36)
    rw [if_pos k36, if_pos k36, hra (by rw [s8 k36]) (by omega)]
    exact ⟨_, _, _, rfl, rfl, fun _ => hnow (by rw [s8 k36]) ((h.setFr m.n hb.1 hb.2 _).monoQ fun r _ hr => .inl hr), h.out⟩
  rw [if_neg k36, if_neg k36]
  by_cases k45 : m.op = 45
  · have h0 : c.reg 0 = c'.reg 0 := h.regs 0 (by omega) (hP 0 (by omega) (by unfold readsM; rw [if_neg h44, if_pos k45]; simp))
    rw [if_pos k45, if_pos k45, h0]
    exact ⟨_, _, _, rfl, rfl, fun e => by simp [Ctl.stops] at e, h.out⟩
  rw [if_neg k45, if_neg k45]
  by_cases k46 : m.op = 46
  · rw [if_pos k46, if_pos k46, h.inp]
    cases hi : c'.inp with
    | nil => exact ⟨_, _, _, rfl, rfl, fun _ => hw (by rw [s13 k46]) _, h.out⟩
    | cons x l => exact ⟨_, _, _, rfl, rfl, fun _ => by
        have := hw (by rw [s13 k46]) x
        exact ⟨this.l1, this.l2, this.f1, this.f2, this.regs, this.fr, this.mem, rfl, this.out⟩, h.out⟩
  rw [if_neg k46, if_neg k46]
  have k47 : m.op = 47 := by
    have h1 := hm.op1
    have h2 := hm.op47
    clear s1 s2 s3 s4 s5 s6 s7 s8 s9 s10 s11 s12 s13 s14 hra hrb hw hnow hfits
    have e0 : 5 ≤ m.op := by clear hA hB hC h44 k33 k34 k35 k36 k45 k46; omega
    have e1 : 33 ≤ m.op := by clear hC h44 k1 k2 k3 k4 k33 k34 k35 k36 k45 k46; omega
    have e2 : 37 ≤ m.op := by clear hA hB hC h44 k1 k2 k3 k4 k45 k46; omega
    clear hA hB k1 k2 k3 k4 k33 k34 k35 k36
    omega
  rewrite [if_pos k47, if_pos k47, hra (by rw [s14 k47]) (by omega)]
  by_cases ho : c'.out.length = 200
  · have ho' : c.out.length = 200 := by rw [h.out]; exact ho
    rw [if_pos ho', if_pos ho]
    exact ⟨_, _, _, rfl, rfl, fun e => by simp [Ctl.stops] at e, h.out⟩
  · have ho' : ¬ c.out.length = 200 := by rw [h.out]; exact ho
    have ho2 : c.out ++ [c'.reg m.a] = c'.out ++ [c'.reg m.a] := by rw [h.out]
    rw [if_neg ho', if_neg ho]
    exact ⟨_, _, _, rfl, rfl, fun _ => hnow (by rw [s14 k47]) ⟨h.l1, h.l2, h.f1, h.f2, h.regs, h.fr, h.mem, h.inp, ho2⟩, ho2⟩
end Go.Proofs.YtemakpjickbmnaaDoor

/- What a rule of peep leaves ends as what was there, in as few steps, plainly. -/
namespace Go.Proofs.YtemakpjickbmnaaDoor
open Go.RowKit
set_option linter.unusedSimpArgs false
set_option linter.unusedVariables false

abbrev Oc := Int × Int × List Int
def Ctl.map (φ : Nat → Nat) : Ctl → Ctl
  | .fall => .fall
  | .jump n => .jump (φ n)
  | .stop a b => .stop a b
def phi (i n : Nat) : Nat := if n ≤ i then n else n - 1
theorem jumps_op {m : Mac} : jumpsM m = true ↔ 37 ≤ m.op ∧ m.op ≤ 43 := by unfold jumpsM; simp
theorem exec_of_jump {m : Mac} (hj : jumpsM m = true) (c : Cfg) : exec m c = if goesM m.op (c.reg m.a) (c.reg m.b) = true then (.jump m.n.toNat, c) else (.fall, c) := by
  have h := jumps_op.1 hj
  unfold exec
  rw [if_neg (by omega), if_neg (by omega), if_pos h]
theorem exec_dec {i : Nat} {m : Mac} {c c1 : Cfg} {ct : Ctl} (hn : jumpsM m = true → 0 ≤ m.n) (he : exec m c = (ct, c1)) : exec (decM i m) c = (ct.map (phi i), c1) := by
  cases hj : jumpsM m
  · have e : decM i m = m := by unfold decM; rw [hj, if_neg (by simp)]
    rw [e, he]
    cases ct with
    | jump n => have := (exec_jump he).1; rw [hj] at this; cases this
    | fall => rfl
    | stop a b => rfl
  · have hj' : jumpsM (decM i m) = true := by rw [jumps_op, decM_op]; exact jumps_op.1 hj
    have h0 := hn hj
    have ha : (decM i m).a = m.a ∧ (decM i m).b = m.b := by unfold decM; split <;> exact ⟨rfl, rfl⟩
    rw [exec_of_jump hj] at he
    rw [exec_of_jump hj', decM_op, ha.1, ha.2]
    cases hg : goesM m.op (c.reg m.a) (c.reg m.b)
    · rw [hg, if_neg (by simp)] at he
      rw [if_neg (by simp)]
      cases he
      rfl
    · rw [hg, if_pos rfl] at he
      rw [if_pos rfl]
      cases he
      have : (decM i m).n.toNat = phi i m.n.toNat := by
        unfold decM phi
        by_cases h1 : (i : Int) < m.n
        · rw [if_pos ⟨hj, h1⟩, if_neg (by omega)]
          show (m.n - 1).toNat = _
          omega
        · rw [if_neg (fun e => h1 e.2), if_pos (by omega)]
      rw [this]
      rfl

/-- A step of a simulation. -/
def Goes1 (l l' : List Mac) (R : Nat → Cfg → Nat → Cfg → Prop) (k : Nat) (pc' : Nat) (c' : Cfg) (O : Oc) : Prop :=
  (∃ k', k' ≤ k ∧ Ends l' pc' c' k' O) ∨
  ∃ pc1 c1 k1 pc1' c1', k1 < k ∧ R pc1 c1 pc1' c1' ∧ Ends l pc1 c1 k1 O ∧ ∀ k', Ends l' pc1' c1' k' O → ∃ k'', k'' + k1 ≤ k' + k ∧ Ends l' pc' c' k'' O
theorem sim_ends {l l' : List Mac} {R : Nat → Cfg → Nat → Cfg → Prop} (h : ∀ pc c pc' c' k O, R pc c pc' c' → Ends l pc c k O → Goes1 l l' R k pc' c' O) :
    ∀ (n k : Nat) (pc : Nat) (c : Cfg) (pc' : Nat) (c' : Cfg) (O : Oc), k ≤ n → R pc c pc' c' → Ends l pc c k O → ∃ k', k' ≤ k ∧ Ends l' pc' c' k' O := by
  intro n
  induction n with
  | zero =>
    intro k pc c pc' c' O hk hR hE
    obtain rfl : k = 0 := by omega
    cases hE
  | succ n ih =>
    intro k pc c pc' c' O hk hR hE
    rcases h _ _ _ _ _ _ hR hE with h1 | ⟨pc1, c1, k1, pc1', c1', h1, h2, h3, h4⟩
    · exact h1
    · obtain ⟨k', h5, h6⟩ := ih k1 pc1 c1 pc1' c1' O (by omega) h2 h3
      obtain ⟨k'', h7, h8⟩ := h4 k' h6
      exact ⟨k'', by omega, h8⟩
/-- A step that both make. -/
theorem both_step {l l' : List Mac} {R : Nat → Cfg → Nat → Cfg → Prop} {φ : Nat → Nat} {pc pc' k : Nat} {c c' : Cfg} {O : Oc} (hE : Ends l pc c k O)
    (hx : ∀ ct c1, exec (atL l pc) c = (ct, c1) → ∃ c1', exec (atL l' pc') c' = (ct.map φ, c1') ∧ c1.out = c1'.out ∧ (ct = .fall → R (pc + 1) c1 (pc' + 1) c1') ∧ (∀ n, ct = .jump n → R n c1 (φ n) c1')) : Goes1 l l' R k pc' c' O := by
  cases hE with
  | stop he =>
    obtain ⟨c1', h1, h2, _, _⟩ := hx _ _ he
    exact .inl ⟨1, Nat.le_refl _, by rw [h2]; exact .stop h1⟩
  | @fall pc k c c1 O he h =>
    obtain ⟨c1', h1, _, h2, _⟩ := hx _ _ he
    exact .inr ⟨_, _, k, _, _, by omega, h2 rfl, h, fun k' h3 => ⟨k' + 1, by omega, .fall h1 h3⟩⟩
  | @jump pc k n c c1 O he h =>
    obtain ⟨c1', h1, _, _, h2⟩ := hx _ _ he
    exact .inr ⟨_, _, k, _, _, by omega, h2 n rfl, h, fun k' h3 => ⟨k' + 1, by omega, .jump h1 h3⟩⟩
/-- A step that only the elder one makes. -/
theorem skip_step {l l' : List Mac} {R : Nat → Cfg → Nat → Cfg → Prop} {pc pc' k : Nat} {c c' : Cfg} {O : Oc} (hE : Ends l pc c k O)
    (hx : ∀ ct c1, exec (atL l pc) c = (ct, c1) → (ct = .fall ∧ R (pc + 1) c1 pc' c') ∨ ∃ n, ct = .jump n ∧ R n c1 pc' c') : Goes1 l l' R k pc' c' O := by
  cases hE with
  | stop he => rcases hx _ _ he with ⟨e, _⟩ | ⟨n, e, _⟩ <;> cases e
  | @fall pc k c c1 O he h =>
    rcases hx _ _ he with ⟨e, hR⟩ | ⟨n, e, _⟩
    · exact .inr ⟨_, _, k, _, _, by omega, hR, h, fun k' h3 => ⟨k', by omega, h3⟩⟩
    · cases e
  | @jump pc k n c c1 O he h =>
    rcases hx _ _ he with ⟨e, _⟩ | ⟨n', e, hR⟩
    · cases e
    · cases e
      exact .inr ⟨_, _, k, _, _, by omega, hR, h, fun k' h3 => ⟨k', by omega, h3⟩⟩

/-- Code that may be and calls nothing. -/
structure Lone (l : List Mac) : Prop where
  ok : MacsOk l
  none : ∀ m ∈ l, m.op ≠ 44
  nums : ∀ m ∈ l, -9223372036854775808 ≤ m.n ∧ m.n ≤ 9223372036854775807
theorem Lone.at_ {l : List Mac} (h : Lone l) {i : Nat} (hi : i < l.length) : MacOk (atL l i) l.length ∧ (atL l i).op ≠ 44 := ⟨h.ok.at_ hi, h.none _ (atL_in hi)⟩
theorem Lone.goes {l : List Mac} (h : Lone l) {pc k : Nat} {c c1 : Cfg} {ct : Ctl} (hp : pc < l.length) (he : exec (atL l pc) c = (ct, c1)) (hk : (ct = .fall ∧ k = pc + 1) ∨ ct = .jump k) : k < l.length ∧ stepsTo l pc k := by
  rcases hk with ⟨rfl, rfl⟩ | rfl
  · have := exec_fall he
    exact ⟨op_not_last h.ok hp this.1 this.2, hp, .inl ⟨this.2, this.1, rfl⟩⟩
  · obtain ⟨hj, hn, _⟩ := exec_jump he
    have h1 := jumps_op.1 hj
    have := (h.at_ hp).1.jump h1.1 h1.2
    exact ⟨by omega, hp, .inr ⟨hj, by omega⟩⟩

/-- An instruction is taken out that does nothing that is wanted. -/
theorem sim_gone {l : List Mac} (h : Lone l) {i : Nat} (hi : i < l.length) (P : Nat → Nat → Prop) (Q : Nat → Prop) (J : Nat → Cfg → Prop)
    (hread : ∀ k, k < l.length → k ≠ i → ∀ r, r < 16 → readsM (atL l k) r = true → P k r)
    (hget : ∀ k, k < l.length → k ≠ i → (atL l k).op = 35 → Q (atL l k).n.toNat)
    (hnext : ∀ k k', k ≠ i → stepsTo l k k' → ∀ r, r < 16 → P k' r → P k r ∨ writesM (atL l k) r = true)
    (hJ : ∀ k k' c ct c1, k < l.length → c.regs.length = 16 → J k c → exec (atL l k) c = (ct, c1) → ((ct = .fall ∧ k' = k + 1) ∨ ct = .jump k') → J k' c1)
    (hskip : ∀ c c' ct c1, J i c → Agr (P i) Q c c' → exec (atL l i) c = (ct, c1) → i + 1 < l.length ∧ (ct = .fall ∨ ct = .jump (i + 1)) ∧ Agr (P (i + 1)) Q c1 c')
    {k : Nat} {c c' : Cfg} {O : Oc} (hJ0 : J 0 c) (ha : Agr (P 0) Q c c') (hE : Ends l 0 c k O) : ∃ k', k' ≤ k ∧ Ends (goneL l i) 0 c' k' O := by
  have h0 := h.ok.some_
  refine sim_ends (l := l) (R := fun pc c pc' c' => pc < l.length ∧ pc' = phi i pc ∧ Agr (P pc) Q c c' ∧ J pc c) ?_ k k 0 c 0 c' O (Nat.le_refl _) ⟨h0, by simp [phi], ha, hJ0⟩ hE
  rintro pc c pc' c' k O ⟨hp, rfl, ha, hj⟩ hE
  by_cases hpi : pc = i
  · subst hpi
    refine skip_step hE fun ct c1 he => ?_
    obtain ⟨h1, h2, h3⟩ := hskip c c' ct c1 hj ha he
    have hphi : phi pc pc = phi pc (pc + 1) := by unfold phi; rw [if_pos (Nat.le_refl _), if_neg (by omega)]; omega
    rcases h2 with rfl | rfl
    · exact .inl ⟨rfl, h1, hphi, h3, hJ _ _ _ _ _ hp ha.l1 hj he (.inl ⟨rfl, rfl⟩)⟩
    · exact .inr ⟨_, rfl, h1, hphi, h3, hJ _ _ _ _ _ hp ha.l1 hj he (.inr rfl)⟩
  · refine both_step (φ := phi i) hE fun ct c1 he => ?_
    have hm := h.at_ hp
    obtain ⟨ct', c2, c1', e1, e2, e3, e4⟩ := exec_rel hm.1 hm.2 (P := P pc) (Q := Q) (fun r hr h1 => hread pc hp hpi r hr h1) (fun h35 => hget pc hp hpi h35) ha
    rw [he] at e1
    cases e1
    have hat : atL (goneL l i) (phi i pc) = decM i (atL l pc) := by
      unfold phi
      by_cases h1 : pc ≤ i
      · rw [if_pos h1, atL_gone hi (by omega), if_pos (by omega)]
      · rw [if_neg h1, atL_gone hi (by omega), if_neg (by omega), show pc - 1 + 1 = pc from by omega]
    refine ⟨c1', ?_, e4, ?_, ?_⟩
    · rw [hat]
      exact exec_dec (fun hj => (hm.1.jump (jumps_op.1 hj).1 (jumps_op.1 hj).2).1) e2
    · rintro rfl
      obtain ⟨g1, g2⟩ := h.goes hp he (.inl ⟨rfl, rfl⟩)
      refine ⟨g1, ?_, (e3 rfl).mono fun r hr hP => hnext pc _ hpi g2 r hr hP, hJ _ _ _ _ _ hp ha.l1 hj he (.inl ⟨rfl, rfl⟩)⟩
      unfold phi
      by_cases h1 : pc ≤ i
      · rw [if_pos h1, if_pos (by omega)]
      · rw [if_neg h1, if_neg (by omega)]; omega
    · rintro n rfl
      obtain ⟨g1, g2⟩ := h.goes hp he (.inr rfl)
      exact ⟨g1, rfl, (e3 rfl).mono fun r hr hP => hnext pc _ hpi g2 r hr hP, hJ _ _ _ _ _ hp ha.l1 hj he (.inr rfl)⟩
/-- An instruction is another one that does the same there. -/
theorem sim_set {l : List Mac} (h : Lone l) {i : Nat} (hi : i < l.length) (m : Mac) (J : Nat → Cfg → Prop)
    (hJ : ∀ k k' c ct c1, k < l.length → J k c → exec (atL l k) c = (ct, c1) → ((ct = .fall ∧ k' = k + 1) ∨ ct = .jump k') → J k' c1)
    (hsame : ∀ c, J i c → exec m c = exec (atL l i) c)
    {k : Nat} {c : Cfg} {O : Oc} (hJ0 : J 0 c) (hE : Ends l 0 c k O) : ∃ k', k' ≤ k ∧ Ends (l.set i m) 0 c k' O := by
  have h0 := h.ok.some_
  refine sim_ends (l := l) (R := fun pc c pc' c' => pc < l.length ∧ pc' = pc ∧ c' = c ∧ J pc c) ?_ k k 0 c 0 c O (Nat.le_refl _) ⟨h0, rfl, rfl, hJ0⟩ hE
  rintro pc c pc' c' k O ⟨hp, rfl, rfl, hj⟩ hE
  refine both_step (φ := id) hE fun ct c1 he => ?_
  have hid : ct.map id = ct := by cases ct <;> rfl
  refine ⟨c1, ?_, rfl, ?_, ?_⟩
  · rw [hid, atL_set hi]
    by_cases e : pc' = i
    · rw [if_pos e, hsame _ (e ▸ hj), ← e, he]
    · rw [if_neg e, he]
  · rintro rfl
    obtain ⟨g1, g2⟩ := h.goes hp he (.inl ⟨rfl, rfl⟩)
    exact ⟨g1, rfl, rfl, hJ _ _ _ _ _ hp hj he (.inl ⟨rfl, rfl⟩)⟩
  · rintro n rfl
    obtain ⟨g1, g2⟩ := h.goes hp he (.inr rfl)
    exact ⟨g1, rfl, rfl, hJ _ _ _ _ _ hp hj he (.inr rfl)⟩
/-- Where MacJumps lead, a run is later. -/
theorem led_ends {l : List Mac} (h : Lone l) : ∀ (f : Nat) (tg t : Int) (c : Cfg) (k : Nat) (O : Oc), 0 ≤ tg → tg < (l.length : Int) → ledL l f tg = some t → Ends l tg.toNat c k O → ∃ k1, k1 ≤ k ∧ Ends l t.toNat c k1 O
  | 0, _, _, _, _, _, _, _, e, _ => by cases e
  | f + 1, tg, t, c, k, O, h0, h1, e, hE => by
    rw [ledL] at e
    by_cases hj : (atL l tg.toNat).op ≠ 37
    · rw [if_pos hj] at e
      cases e
      exact ⟨k, Nat.le_refl _, hE⟩
    · rw [if_neg hj] at e
      have h37 : (atL l tg.toNat).op = 37 := Decidable.of_not_not hj
      have hb := (h.at_ (i := tg.toNat) (by omega)).1.jump (by omega) (by omega)
      have hx : exec (atL l tg.toNat) c = (.jump (atL l tg.toNat).n.toNat, c) := by
        rw [exec_of_jump (jumps_op.2 (by omega)), h37]
        rfl
      cases hE with
      | stop he => rw [hx] at he; cases he
      | fall he _ => rw [hx] at he; cases he
      | jump he h2 =>
        rw [hx] at he
        cases he
        obtain ⟨k1, h3, h4⟩ := led_ends h f _ t c _ O hb.1 hb.2 e h2
        exact ⟨k1, by omega, h4⟩
theorem sim_far {l : List Mac} (h : Lone l) {i : Nat} (hi : i < l.length) {t : Int} (hj : jumpsM (atL l i) = true) (ht : ledL l l.length (atL l i).n = some t)
    {k : Nat} {c : Cfg} {O : Oc} (hE : Ends l 0 c k O) : ∃ k', k' ≤ k ∧ Ends (l.set i (withN (atL l i) t)) 0 c k' O := by
  have h0 := h.ok.some_
  have h1 := jumps_op.1 hj
  have hb := (h.at_ hi).1.jump h1.1 h1.2
  have hto := ledL_ok h.ok _ _ _ hb.1 hb.2 ht
  refine sim_ends (l := l) (R := fun pc c pc' c' => pc < l.length ∧ pc' = pc ∧ c' = c) ?_ k k 0 c 0 c O (Nat.le_refl _) ⟨h0, rfl, rfl⟩ hE
  rintro pc c pc' c' k O ⟨hp, rfl, rfl⟩ hE
  by_cases e : pc' = i
  · subst e
    have hx := exec_of_jump hj c'
    have hj' : jumpsM (withN (atL l pc') t) = true := hj
    have hx' : exec (atL (l.set pc' (withN (atL l pc') t)) pc') c' = if goesM (atL l pc').op (c'.reg (atL l pc').a) (c'.reg (atL l pc').b) = true then (.jump t.toNat, c') else (.fall, c') := by
      rw [atL_set hi, if_pos rfl]
      exact exec_of_jump hj' c'
    cases hg : goesM (atL l pc').op (c'.reg (atL l pc').a) (c'.reg (atL l pc').b)
    · rw [hg, if_neg (by simp)] at hx hx'
      cases hE with
      | stop he => rw [hx] at he; cases he
      | jump he _ => rw [hx] at he; cases he
      | @fall _ k _ _ _ he h2 =>
        rw [hx] at he
        cases he
        obtain ⟨g1, _⟩ := h.goes hp hx (.inl ⟨rfl, rfl⟩)
        exact .inr ⟨_, _, k, _, _, by omega, ⟨g1, rfl, rfl⟩, h2, fun k' h3 => ⟨k' + 1, by omega, .fall hx' h3⟩⟩
    · rw [hg, if_pos rfl] at hx hx'
      cases hE with
      | stop he => rw [hx] at he; cases he
      | fall he _ => rw [hx] at he; cases he
      | @jump _ k _ _ _ _ he h2 =>
        rw [hx] at he
        cases he
        obtain ⟨k1, h3, h4⟩ := led_ends h _ _ _ _ _ _ hb.1 hb.2 ht h2
        exact .inr ⟨t.toNat, c', k1, _, _, by omega, ⟨by omega, rfl, rfl⟩, h4, fun k' h5 => ⟨k' + 1, by omega, .jump hx' h5⟩⟩
  · refine both_step (φ := id) hE fun ct c1 he => ?_
    have hid : ct.map id = ct := by cases ct <;> rfl
    refine ⟨c1, by rw [hid, atL_set hi, if_neg e, he], rfl, ?_, ?_⟩
    · rintro rfl
      exact ⟨(h.goes hp he (.inl ⟨rfl, rfl⟩)).1, rfl, rfl⟩
    · rintro n rfl
      exact ⟨(h.goes hp he (.inr rfl)).1, rfl, rfl⟩
end Go.Proofs.YtemakpjickbmnaaDoor

/- Each rule of peep leaves code that ends as the code was to end, in as few steps, plainly. -/
namespace Go.Proofs.YtemakpjickbmnaaDoor
open Go.RowKit
set_option linter.unusedSimpArgs false
set_option linter.unusedVariables false

/-- A state as the machine has it. -/
structure CfgOk (c : Cfg) : Prop where
  l1 : c.regs.length = 16
  f1 : c.fr.length = 120
def N64 (x : Int) : Prop := -9223372036854775808 ≤ x ∧ x ≤ 9223372036854775807
structure CfgIn (c : Cfg) : Prop where
  regs : ∀ x ∈ c.regs, N64 x
  fr : ∀ x ∈ c.fr, N64 x
  mem : ∀ x ∈ c.mem, N64 x
  inp : ∀ x ∈ c.inp, N64 x
abbrev allP : Nat → Prop := fun _ => True
abbrev allPP : Nat → Nat → Prop := fun _ _ => True
theorem CfgOk.agr {c : Cfg} (h : CfgOk c) (P Q : Nat → Prop) : Agr P Q c c := ⟨h.l1, h.l1, h.f1, h.f1, fun _ _ _ => rfl, fun _ _ _ => rfl, rfl, rfl, rfl⟩
theorem exec_len {m : Mac} {len : Nat} (hm : MacOk m len) (h44 : m.op ≠ 44) {c c1 : Cfg} {ct : Ctl} (h : CfgOk c) (he : exec m c = (ct, c1)) (hs : ct.stops = false) : CfgOk c1 := by
  obtain ⟨ct', c2, c1', e1, e2, e3, e4⟩ := exec_rel hm h44 (P := allP) (Q := allP) (fun _ _ _ => trivial) (fun _ => trivial) (h.agr _ _)
  rw [he] at e1
  cases e1
  have := e3 hs
  exact ⟨this.l1, this.f1⟩
theorem next_stops {ct : Ctl} {k k' : Nat} (h : (ct = .fall ∧ k' = k + 1) ∨ ct = .jump k') : ct.stops = false := by
  rcases h with ⟨rfl, _⟩ | rfl <;> rfl
theorem put_self {c : Cfg} (h : c.regs.length = 16) {d : Int} (h0 : 0 ≤ d) (h1 : d ≤ 15) : c.put d (c.reg d) = c := by
  obtain ⟨regs, fr, mem, inp, out⟩ := c
  show (⟨regs.set d.toNat (regs.getD d.toNat 0), fr, mem, inp, out⟩ : Cfg) = _
  have : regs.set d.toNat (regs.getD d.toNat 0) = regs := by
    apply List.ext_getElem?
    intro j
    rw [List.getElem?_set]
    by_cases e : d.toNat = j
    · subst e
      rw [if_pos rfl]
      have hl : d.toNat < regs.length := by simp only at h; omega
      rw [if_pos hl, List.getD_eq_getElem?_getD, List.getElem?_eq_getElem hl]
      rfl
    · rw [if_neg e]
  rw [this]
theorem reg_put {c : Cfg} (h : c.regs.length = 16) {d r : Int} (h0 : 0 ≤ d) (h1 : d ≤ 15) (h2 : 0 ≤ r) (x : Int) : (c.put d x).reg r = if r = d then x else c.reg r := by
  show (c.regs.set d.toNat x).getD r.toNat 0 = _
  rw [getD_put (by omega)]
  by_cases e : r = d
  · rw [if_pos (by rw [e]), if_pos e]
  · rw [if_neg (by omega), if_neg e]
    rfl
theorem exec_move {m : Mac} (h : m.op = 2) (c : Cfg) : exec m c = (.fall, c.put m.dst (c.reg m.a)) := by
  unfold exec
  rw [if_neg (by omega), if_neg (by omega), if_neg (by omega), if_neg (by omega), if_pos h]
theorem exec_setN {m : Mac} (h : m.op = 1) (c : Cfg) : exec m c = (.fall, c.put m.dst m.n) := by
  unfold exec
  rw [if_neg (by omega), if_neg (by omega), if_neg (by omega), if_pos h]
theorem exec_get {m : Mac} (h : m.op = 35) (c : Cfg) : exec m c = (.fall, c.put m.dst (c.fr.getD m.n.toNat 0)) := by
  unfold exec
  rw [if_neg (by omega), if_neg (by omega), if_neg (by omega), if_neg (by omega), if_neg (by omega), if_neg (by omega), if_neg (by omega), if_neg (by omega), if_neg (by omega), if_pos h]
theorem exec_put {m : Mac} (h : m.op = 36) (c : Cfg) : exec m c = (.fall, { c with fr := c.fr.set m.n.toNat (c.reg m.a) }) := by
  unfold exec
  rw [if_neg (by omega), if_neg (by omega), if_neg (by omega), if_neg (by omega), if_neg (by omega), if_neg (by omega), if_neg (by omega), if_neg (by omega), if_neg (by omega), if_neg (by omega), if_pos h]
theorem twoI_some {op a b : Int} (h : op ≠ 5 ∧ op ≠ 6 ∨ b ≠ 0) : ∃ x, twoI op a b = some x := by
  unfold twoI
  by_cases e2 : op = 2
  · rw [if_pos e2]; exact ⟨_, rfl⟩
  rw [if_neg e2]
  by_cases e3 : op = 3
  · rw [if_pos e3]; exact ⟨_, rfl⟩
  rw [if_neg e3]
  by_cases e4 : op = 4
  · rw [if_pos e4]; exact ⟨_, rfl⟩
  rw [if_neg e4]
  by_cases e5 : op = 5
  · rw [if_pos e5, if_neg (by omega)]; exact ⟨_, rfl⟩
  rw [if_neg e5]
  by_cases e6 : op = 6
  · rw [if_pos e6, if_neg (by omega)]; exact ⟨_, rfl⟩
  rw [if_neg e6]
  by_cases e7 : op = 7
  · rw [if_pos e7]; exact ⟨_, rfl⟩
  rw [if_neg e7]
  by_cases e8 : op = 8
  · rw [if_pos e8]; exact ⟨_, rfl⟩
  rw [if_neg e8]
  by_cases e9 : op = 9
  · rw [if_pos e9]; exact ⟨_, rfl⟩
  rw [if_neg e9]
  by_cases e10 : op = 10
  · rw [if_pos e10]; exact ⟨_, rfl⟩
  rw [if_neg e10]
  by_cases e11 : op = 11
  · rw [if_pos e11]; exact ⟨_, rfl⟩
  rw [if_neg e11]
  by_cases e12 : op = 12
  · rw [if_pos e12]; exact ⟨_, rfl⟩
  rw [if_neg e12]
  by_cases e13 : op = 13
  · rw [if_pos e13]; exact ⟨_, rfl⟩
  rw [if_neg e13]
  by_cases e14 : op = 14
  · rw [if_pos e14]; exact ⟨_, rfl⟩
  rw [if_neg e14]
  exact ⟨_, rfl⟩
theorem quiet_exec {m : Mac} (h : quietM m = true) (c : Cfg) : ∃ x, exec m c = (.fall, c.put m.dst x) := by
  unfold quietM at h
  split at h
  · rename_i h1
    have : m.op = 1 ∨ m.op = 2 ∨ m.op = 3 ∨ m.op = 4 := by omega
    rcases this with e | e | e | e
    · exact ⟨_, exec_setN e c⟩
    · exact ⟨_, exec_move e c⟩
    · unfold exec
      rw [if_neg (by omega), if_neg (by omega), if_neg (by omega), if_neg (by omega), if_neg (by omega), if_pos e]
      exact ⟨_, rfl⟩
    · unfold exec
      rw [if_neg (by omega), if_neg (by omega), if_neg (by omega), if_neg (by omega), if_neg (by omega), if_neg (by omega), if_pos e]
      exact ⟨_, rfl⟩
  split at h
  · rename_i h1
    exact ⟨_, exec_get h1 c⟩
  split at h
  · rename_i h1
    simp at h
    obtain ⟨x, hx⟩ := twoI_some (op := m.op - 17) (a := c.reg m.a) (b := m.n) (.inr h)
    unfold exec
    rw [if_neg (by omega), if_pos (by omega), hx]
    exact ⟨_, rfl⟩
  · rename_i h1
    simp at h
    by_cases hA : m.op ≤ 18
    · obtain ⟨x, hx⟩ := twoI_some (op := m.op - 3) (a := c.reg m.a) (b := c.reg m.b) (.inl (by omega))
      unfold exec
      rw [if_pos (by omega), hx]
      exact ⟨_, rfl⟩
    · obtain ⟨x, hx⟩ := twoI_some (op := m.op - 17) (a := c.reg m.a) (b := m.n) (.inl (by omega))
      unfold exec
      rw [if_neg (by omega), if_pos (by omega), hx]
      exact ⟨_, rfl⟩
theorem quiet_writes {m : Mac} {len : Nat} (hm : MacOk m len) (h : quietM m = true) (r : Nat) : writesM m r = decide (m.dst = (r : Int)) := by
  obtain ⟨s1, s2, s3, s4, s5, s6, s7, s8, s9, s10, s11, s12, s13, s14⟩ := shape_at m.op hm.op1 hm.op47
  have hop : (1 ≤ m.op ∧ m.op ≤ 32) ∨ m.op = 35 := by
    unfold quietM at h
    split at h
    · omega
    split at h
    · omega
    split at h
    · omega
    · simp at h; omega
  have hd : (shapeOf m.op).d = true := by
    rcases (show (5 ≤ m.op ∧ m.op ≤ 18) ∨ (19 ≤ m.op ∧ m.op ≤ 32) ∨ m.op = 1 ∨ (2 ≤ m.op ∧ m.op ≤ 4) ∨ m.op = 35 from by omega) with e | e | e | e | e
    · rw [s1 e]
    · rw [s2 e]
    · rw [s3 e]
    · rw [s4 e]
    · rw [s7 e]
  unfold writesM
  rw [if_neg (by omega), hd, Bool.true_and]

theorem means_lost {l : List Mac} (h : Lone l) {i : Nat} (hi : i < l.length) (hn : ¬ Reach l i) {k : Nat} {c : Cfg} {O : Oc} (hc : CfgOk c) (hE : Ends l 0 c k O) : ∃ k', k' ≤ k ∧ Ends (goneL l i) 0 c k' O :=
  sim_gone h hi allPP allP (fun k _ => Reach l k) (fun _ _ _ _ _ _ => trivial) (fun _ _ _ _ => trivial) (fun _ _ _ _ _ _ _ => .inl trivial)
    (fun k k' c ct c1 hk _ hj he hg => by
      obtain ⟨h1, h2⟩ := h.goes hk he hg
      exact .next hj h2 h1)
    (fun c c' ct c1 hj => absurd hj hn) .first (hc.agr _ _) hE
theorem means_itself {l : List Mac} (h : Lone l) {i : Nat} (hi : i < l.length) (h2 : (atL l i).op = 2) (hd : (atL l i).dst = (atL l i).a) {k : Nat} {c : Cfg} {O : Oc} (hc : CfgOk c) (hE : Ends l 0 c k O) : ∃ k', k' ≤ k ∧ Ends (goneL l i) 0 c k' O := by
  have hm := (h.at_ hi).1
  exact sim_gone h hi allPP allP (fun _ _ => True) (fun _ _ _ _ _ _ => trivial) (fun _ _ _ _ => trivial) (fun _ _ _ _ _ _ _ => .inl trivial) (fun _ _ _ _ _ _ _ _ _ _ => trivial)
    (fun c c' ct c1 _ ha he => by
      rw [exec_move h2] at he
      cases he
      rw [← hd, put_self ha.l1 hm.dst0 hm.dst1]
      exact ⟨op_not_last h.ok hi (by omega) (by omega), .inl rfl, ha⟩) trivial (hc.agr _ _) hE
theorem means_short {l : List Mac} (h : Lone l) {i : Nat} (hi : i < l.length) (hj : jumpsM (atL l i) = true) (hn : (atL l i).n = (i : Int) + 1) {k : Nat} {c : Cfg} {O : Oc} (hc : CfgOk c) (hE : Ends l 0 c k O) : ∃ k', k' ≤ k ∧ Ends (goneL l i) 0 c k' O := by
  have hm := (h.at_ hi).1
  have hb := hm.jump (jumps_op.1 hj).1 (jumps_op.1 hj).2
  exact sim_gone h hi allPP allP (fun _ _ => True) (fun _ _ _ _ _ _ => trivial) (fun _ _ _ _ => trivial) (fun _ _ _ _ _ _ _ => .inl trivial) (fun _ _ _ _ _ _ _ _ _ _ => trivial)
    (fun c c' ct c1 _ ha he => by
      rw [exec_of_jump hj] at he
      refine ⟨by omega, ?_⟩
      split at he
      · cases he
        exact ⟨.inr (by rw [hn]; congr 1), ha⟩
      · cases he
        exact ⟨.inl rfl, ha⟩) trivial (hc.agr _ _) hE
theorem means_vain {l : List Mac} (h : Lone l) {i : Nat} (hi : i < l.length) (hq : quietM (atL l i) = true) (hn : ¬ behindP l i (atL l i).dst.toNat) {k : Nat} {c : Cfg} {O : Oc} (hc : CfgOk c) (hE : Ends l 0 c k O) : ∃ k', k' ≤ k ∧ Ends (goneL l i) 0 c k' O := by
  have hm := (h.at_ hi).1
  have ho := quiet_op hq
  have hl := op_not_last h.ok hi ho.1 ho.2
  have hst : stepsTo l i (i + 1) := ⟨hi, .inl ⟨ho.2, ho.1, rfl⟩⟩
  exact sim_gone h hi (fun k r => Live l r k) allP (fun _ _ => True) (fun k hk _ r _ hr => .use hk hr) (fun _ _ _ _ => trivial)
    (fun k k' _ hs r _ hL => by
      cases hw : writesM (atL l k) r
      · exact .inl (.via hs.1 hw hs hL)
      · exact .inr rfl) (fun _ _ _ _ _ _ _ _ _ _ => trivial)
    (fun c c' ct c1 _ ha he => by
      obtain ⟨x, hx⟩ := quiet_exec hq c
      rw [hx] at he
      cases he
      refine ⟨hl, .inl rfl, ?_, ha.l2, ha.f1, ha.f2, fun r hr hL => ?_, fun w hw _ => ha.fr w hw trivial, ha.mem, ha.inp, ha.out⟩
      · show (c.regs.set _ _).length = 16
        rw [List.length_set]; exact ha.l1
      · have hne : r ≠ (atL l i).dst.toNat := fun e => hn ⟨i + 1, hst, by rw [← e]; exact hL⟩
        show (c.regs.set (atL l i).dst.toNat x).getD r 0 = _
        rw [getD_put (by have := hm.dst1; have := ha.l1; omega), if_neg hne]
        refine ha.regs r hr (.via hi ?_ hst hL)
        rw [quiet_writes hm hq]
        have := hm.dst0
        simp
        omega) trivial (hc.agr _ _) hE
theorem means_unread {l : List Mac} (h : Lone l) {i : Nat} (hi : i < l.length) (h36 : (atL l i).op = 36) (hn : getB l (atL l i).n = false) {k : Nat} {c : Cfg} {O : Oc} (hc : CfgOk c) (hE : Ends l 0 c k O) : ∃ k', k' ≤ k ∧ Ends (goneL l i) 0 c k' O := by
  have hm := (h.at_ hi).1
  have hb := hm.word (.inr h36)
  exact sim_gone h hi allPP (fun w => ∃ o ∈ l, o.op = 35 ∧ o.n.toNat = w) (fun _ _ => True) (fun _ _ _ _ _ _ => trivial) (fun k hk _ h35 => ⟨_, atL_in hk, h35, rfl⟩) (fun _ _ _ _ _ _ _ => .inl trivial) (fun _ _ _ _ _ _ _ _ _ _ => trivial)
    (fun c c' ct c1 _ ha he => by
      rw [exec_put h36] at he
      cases he
      refine ⟨op_not_last h.ok hi (by omega) (by omega), .inl rfl, ha.l1, ha.l2, ?_, ha.f2, fun r hr _ => ha.regs r hr trivial, fun w hw hQ => ?_, ha.mem, ha.inp, ha.out⟩
      · show (c.fr.set _ _).length = 120
        rw [List.length_set]; exact ha.f1
      · have hne : w ≠ (atL l i).n.toNat := fun e => by
          obtain ⟨o, ho, h35, he⟩ := hQ
          have hw' := (macF_ok (h.ok.fine o ho)).word (.inl h35)
          unfold getB at hn
          rw [List.any_eq_false] at hn
          exact hn o ho (by simp [h35]; omega)
        show (c.fr.set (atL l i).n.toNat _).getD w 0 = _
        rw [getD_put (by rw [ha.f1]; omega), if_neg hne]
        exact ha.fr w hw hQ) trivial (hc.agr _ _) hE
/-- What holds behind an instruction that alone leads to the next one. -/
theorem beside_from {l : List Mac} (h : Lone l) {i : Nat} (hb : besideP l i) {k : Nat} {c c1 : Cfg} {ct : Ctl} (hk : k < l.length) (he : exec (atL l k) c = (ct, c1)) (hg : (ct = .fall ∧ i + 1 = k + 1) ∨ ct = .jump (i + 1)) : k = i ∧ ct = .fall := by
  rcases hg with ⟨rfl, e⟩ | rfl
  · exact ⟨by omega, rfl⟩
  · obtain ⟨hj, hn, _⟩ := exec_jump he
    have := (h.at_ hk).1.jump (jumps_op.1 hj).1 (jumps_op.1 hj).2
    exact absurd ⟨k, hk, hj, by omega⟩ hb.2.2.2
theorem means_back {l : List Mac} (h : Lone l) {i : Nat} (hb : besideP l i) (h2 : (atL l i).op = 2) (ho : atL l (i + 1) = ⟨2, (atL l i).a, (atL l i).dst, 0, 0⟩) {k : Nat} {c : Cfg} {O : Oc} (hc : CfgOk c) (hE : Ends l 0 c k O) : ∃ k', k' ≤ k ∧ Ends (goneL l (i + 1)) 0 c k' O := by
  have hi : i < l.length := by have := hb.1; omega
  have hm := (h.at_ hi).1
  have h2' : (atL l (i + 1)).op = 2 := by rw [ho]
  exact sim_gone h hb.1 allPP allP (fun k c => k = i + 1 → c.reg (atL l i).a = c.reg (atL l i).dst) (fun _ _ _ _ _ _ => trivial) (fun _ _ _ _ => trivial) (fun _ _ _ _ _ _ _ => .inl trivial)
    (fun k k' c ct c1 hk hlen _ he hg e => by
      subst e
      obtain ⟨rfl, rfl⟩ := beside_from h hb hk he hg
      rw [exec_move h2] at he
      cases he
      rw [reg_put hlen hm.dst0 hm.dst1 hm.a0, reg_put hlen hm.dst0 hm.dst1 hm.dst0, if_pos rfl]
      split <;> rfl)
    (fun c c' ct c1 hj ha he => by
      rw [exec_move h2', ho] at he
      cases he
      have := hj rfl
      rw [← this, put_self ha.l1 hm.a0 hm.a1]
      exact ⟨op_not_last h.ok hb.1 (by omega) (by omega), .inl rfl, ha⟩) (fun e => by omega) (hc.agr _ _) hE
theorem means_sureNo {l : List Mac} (h : Lone l) {i : Nat} (hb : besideP l i) (h1 : (atL l i).op = 1) (ho : asksM (atL l (i + 1)) (atL l i).dst = true) (hs : (decide ((atL l i).n = 0) == decide ((atL l (i + 1)).op = 38)) = true)
    {k : Nat} {c : Cfg} {O : Oc} (hc : CfgOk c) (hE : Ends l 0 c k O) : ∃ k', k' ≤ k ∧ Ends (goneL l (i + 1)) 0 c k' O := by
  have hi : i < l.length := by have := hb.1; omega
  have hm := (h.at_ hi).1
  obtain ⟨ho1, ho2⟩ := asks_op ho
  exact sim_gone h hb.1 allPP allP (fun k c => k = i + 1 → c.reg (atL l i).dst = (atL l i).n) (fun _ _ _ _ _ _ => trivial) (fun _ _ _ _ => trivial) (fun _ _ _ _ _ _ _ => .inl trivial)
    (fun k k' c ct c1 hk hlen _ he hg e => by
      subst e
      obtain ⟨rfl, rfl⟩ := beside_from h hb hk he hg
      rw [exec_setN h1] at he
      cases he
      rw [reg_put hlen hm.dst0 hm.dst1 hm.dst0, if_pos rfl])
    (fun c c' ct c1 hj ha he => by
      rw [exec_of_jump (jumps_op.2 (by omega)), ho2, hj rfl] at he
      have hg : goesM (atL l (i + 1)).op (atL l i).n (c.reg (atL l (i + 1)).b) = false := by
        rcases ho1 with e | e
        · rw [e] at hs ⊢
          have : (atL l i).n = 0 := by simpa using hs
          rw [this]; rfl
        · rw [e] at hs ⊢
          have : ¬ (atL l i).n = 0 := by simpa using hs
          simp [goesM, this]
      rw [hg, if_neg (by simp)] at he
      cases he
      exact ⟨op_not_last h.ok hb.1 (by omega) (by omega), .inl rfl, ha⟩) (fun e => by omega) (hc.agr _ _) hE
theorem means_sureYes {l : List Mac} (h : Lone l) {i : Nat} (hb : besideP l i) (h1 : (atL l i).op = 1) (ho : asksM (atL l (i + 1)) (atL l i).dst = true) (hs : ¬ (decide ((atL l i).n = 0) == decide ((atL l (i + 1)).op = 38)) = true)
    {k : Nat} {c : Cfg} {O : Oc} (hc : CfgOk c) (hE : Ends l 0 c k O) : ∃ k', k' ≤ k ∧ Ends (l.set (i + 1) ⟨37, 0, 0, 0, (atL l (i + 1)).n⟩) 0 c k' O := by
  have hi : i < l.length := by have := hb.1; omega
  have hm := (h.at_ hi).1
  obtain ⟨ho1, ho2⟩ := asks_op ho
  exact sim_set h hb.1 _ (fun k c => CfgOk c ∧ (k = i + 1 → c.reg (atL l i).dst = (atL l i).n))
    (fun k k' c ct c1 hk hj he hg => by
      have hm' := h.at_ hk
      refine ⟨exec_len hm'.1 hm'.2 hj.1 he (next_stops hg), fun e => ?_⟩
      subst e
      obtain ⟨rfl, rfl⟩ := beside_from h hb hk he hg
      rw [exec_setN h1] at he
      cases he
      rw [reg_put hj.1.l1 hm.dst0 hm.dst1 hm.dst0, if_pos rfl])
    (fun c hj => by
      rw [exec_of_jump (m := atL l (i + 1)) (jumps_op.2 (by omega)), ho2, hj.2 rfl]
      have hg : goesM (atL l (i + 1)).op (atL l i).n (c.reg (atL l (i + 1)).b) = true := by
        rcases ho1 with e | e
        · rw [e] at hs ⊢
          have : ¬ (atL l i).n = 0 := by simpa using hs
          simp [goesM, this]
        · rw [e] at hs ⊢
          have : (atL l i).n = 0 := by simpa using hs
          rw [this]; rfl
      rw [hg, if_pos rfl]
      rfl) ⟨hc, fun e => by omega⟩ hE
theorem means_again {l : List Mac} (h : Lone l) {i : Nat} (hb : besideP l i) (h36 : (atL l i).op = 36) (h35 : (atL l (i + 1)).op = 35) (hn : (atL l (i + 1)).n = (atL l i).n)
    {k : Nat} {c : Cfg} {O : Oc} (hc : CfgOk c) (hE : Ends l 0 c k O) : ∃ k', k' ≤ k ∧ Ends (l.set (i + 1) ⟨2, (atL l (i + 1)).dst, (atL l i).a, 0, 0⟩) 0 c k' O := by
  have hi : i < l.length := by have := hb.1; omega
  have hm := (h.at_ hi).1
  have hw := hm.word (.inr h36)
  exact sim_set h hb.1 _ (fun k c => CfgOk c ∧ (k = i + 1 → c.fr.getD (atL l i).n.toNat 0 = c.reg (atL l i).a))
    (fun k k' c ct c1 hk hj he hg => by
      have hm' := h.at_ hk
      refine ⟨exec_len hm'.1 hm'.2 hj.1 he (next_stops hg), fun e => ?_⟩
      subst e
      obtain ⟨rfl, rfl⟩ := beside_from h hb hk he hg
      rw [exec_put h36] at he
      cases he
      show (c.fr.set _ _).getD _ 0 = c.reg _
      rw [getD_put (by rw [hj.1.f1]; omega), if_pos rfl])
    (fun c hj => by
      rw [exec_get h35, exec_move rfl, hn, hj.2 rfl]) ⟨hc, fun e => by omega⟩ hE

/-! ### Numbers that fit -/
theorem n64_wrap (x : Int) : N64 (wrap64 x) := by unfold wrap64 N64; omega
theorem n64_kwrap (x : Int) : N64 (IntKind.i64.wrap x) := by rw [IntKind.wrap_i64]; unfold N64; omega
theorem n64_bits (o : BinOp) (a b : Int) : N64 (bits o .i64 a b) := n64_kwrap _
theorem n64_get {l : List Int} (h : ∀ x ∈ l, N64 x) (k : Nat) : N64 (l.getD k 0) := by
  rw [List.getD_eq_getElem?_getD]
  rcases Nat.lt_or_ge k l.length with h1 | h1
  · rw [List.getElem?_eq_getElem h1]; exact h _ (List.getElem_mem h1)
  · rw [List.getElem?_eq_none h1]; exact ⟨by decide, by decide⟩
theorem n64_tmod {a b : Int} (ha : N64 a) : N64 (a.tmod b) := by
  have h2 : (a.tmod b).natAbs ≤ a.natAbs := by
    rw [Int.natAbs_tmod]
    exact Nat.mod_le _ _
  unfold N64 at ha ⊢
  rcases Int.le_total 0 a with h0 | h0
  · have h1 := Int.tmod_nonneg b h0
    omega
  · have h3 : a.tmod b ≤ 0 := by
      have := Int.tmod_nonneg b (a := -a) (by omega)
      rw [Int.neg_tmod] at this
      omega
    omega
theorem n64_shr {a : Int} (ha : N64 a) (n : Nat) : N64 (a / 2 ^ n) := by
  have hp : (0 : Int) < 2 ^ n := Int.pow_pos (by decide)
  generalize (2 : Int) ^ n = p at hp ⊢
  unfold N64 at ha ⊢
  rcases Int.le_total 0 a with h0 | h0
  · have h1 := Int.ediv_le_self p h0
    have h2 := Int.ediv_nonneg h0 (Int.le_of_lt hp)
    omega
  · have h1 : a / p ≤ 0 := by
      have := Int.ediv_le_ediv hp h0
      rw [Int.zero_ediv] at this
      exact this
    have h2 : a ≤ a / p := by
      rw [Int.le_ediv_iff_mul_le hp]
      have h3 : a * p ≤ a * 1 := Int.mul_le_mul_of_nonpos_left h0 (by omega)
      omega
    omega
theorem n64_one {P : Prop} [Decidable P] {x y : Int} (hx : N64 x) (hy : N64 y) : N64 (if P then x else y) := by split <;> assumption
theorem n64_0 : N64 0 := ⟨by decide, by decide⟩
theorem n64_1 : N64 1 := ⟨by decide, by decide⟩
theorem n64_two {op a b x : Int} (ha : N64 a) (h : twoI op a b = some x) : N64 x := by
  unfold twoI at h
  by_cases e2 : op = 2
  · rw [if_pos e2] at h; rw [← Option.some.inj h]; exact n64_wrap _
  rw [if_neg e2] at h
  by_cases e3 : op = 3
  · rw [if_pos e3] at h; rw [← Option.some.inj h]; exact n64_wrap _
  rw [if_neg e3] at h
  by_cases e4 : op = 4
  · rw [if_pos e4] at h; rw [← Option.some.inj h]; exact n64_wrap _
  rw [if_neg e4] at h
  by_cases e5 : op = 5
  · rw [if_pos e5] at h
    by_cases hb : b = 0
    · rw [if_pos hb] at h; cases h
    · rw [if_neg hb] at h; rw [← Option.some.inj h]; exact n64_wrap _
  rw [if_neg e5] at h
  by_cases e6 : op = 6
  · rw [if_pos e6] at h
    by_cases hb : b = 0
    · rw [if_pos hb] at h; cases h
    · rw [if_neg hb] at h; rw [← Option.some.inj h]; exact n64_tmod ha
  rw [if_neg e6] at h
  by_cases e7 : op = 7
  · rw [if_pos e7] at h; rw [← Option.some.inj h]; exact n64_bits _ _ _
  rw [if_neg e7] at h
  by_cases e8 : op = 8
  · rw [if_pos e8] at h; rw [← Option.some.inj h]; exact n64_bits _ _ _
  rw [if_neg e8] at h
  by_cases e9 : op = 9
  · rw [if_pos e9] at h; rw [← Option.some.inj h]; exact n64_bits _ _ _
  rw [if_neg e9] at h
  by_cases e10 : op = 10
  · rw [if_pos e10] at h; rw [← Option.some.inj h]; exact n64_wrap _
  rw [if_neg e10] at h
  by_cases e11 : op = 11
  · rw [if_pos e11] at h; rw [← Option.some.inj h]; exact n64_shr ha _
  rw [if_neg e11] at h
  by_cases e12 : op = 12
  · rw [if_pos e12] at h; rw [← Option.some.inj h]; exact n64_one n64_1 n64_0
  rw [if_neg e12] at h
  by_cases e13 : op = 13
  · rw [if_pos e13] at h; rw [← Option.some.inj h]; exact n64_one n64_0 n64_1
  rw [if_neg e13] at h
  by_cases e14 : op = 14
  · rw [if_pos e14] at h; rw [← Option.some.inj h]; exact n64_one n64_1 n64_0
  rw [if_neg e14] at h
  rw [← Option.some.inj h]
  exact n64_one n64_1 n64_0
theorem CfgIn.put {c : Cfg} (h : CfgIn c) (d : Int) {x : Int} (hx : N64 x) : CfgIn (c.put d x) :=
  ⟨fun y hy => by
    rcases List.mem_or_eq_of_mem_set hy with e | e
    · exact h.regs y e
    · rw [e]; exact hx, h.fr, h.mem, h.inp⟩
theorem CfgIn.reg {c : Cfg} (h : CfgIn c) (r : Int) : N64 (c.reg r) := n64_get h.regs _
theorem exec_in {m : Mac} {c c1 : Cfg} {ct : Ctl} (hn : N64 m.n) (h : CfgIn c) (he : exec m c = (ct, c1)) : CfgIn c1 := by
  unfold exec at he
  by_cases hA : 5 ≤ m.op ∧ m.op ≤ 18
  · rw [if_pos hA] at he
    cases hx : twoI (m.op - 3) (c.reg m.a) (c.reg m.b) with
    | none => rw [hx] at he; cases he; exact h
    | some x => rw [hx] at he; cases he; exact h.put _ (n64_two (h.reg _) hx)
  rw [if_neg hA] at he
  by_cases hB : 19 ≤ m.op ∧ m.op ≤ 32
  · rw [if_pos hB] at he
    cases hx : twoI (m.op - 17) (c.reg m.a) m.n with
    | none => rw [hx] at he; cases he; exact h
    | some x => rw [hx] at he; cases he; exact h.put _ (n64_two (h.reg _) hx)
  rw [if_neg hB] at he
  by_cases hC : 37 ≤ m.op ∧ m.op ≤ 43
  · rw [if_pos hC] at he
    split at he
    · cases he; exact h
    · cases he; exact h
  rw [if_neg hC] at he
  by_cases k1 : m.op = 1
  · rw [if_pos k1] at he; cases he; exact h.put _ hn
  rw [if_neg k1] at he
  by_cases k2 : m.op = 2
  · rw [if_pos k2] at he; cases he; exact h.put _ (h.reg _)
  rw [if_neg k2] at he
  by_cases k3 : m.op = 3
  · rw [if_pos k3] at he; cases he; exact h.put _ (n64_wrap _)
  rw [if_neg k3] at he
  by_cases k4 : m.op = 4
  · rw [if_pos k4] at he; cases he; exact h.put _ (n64_bits _ _ _)
  rw [if_neg k4] at he
  by_cases k33 : m.op = 33
  · rw [if_pos k33] at he
    split at he
    · cases he; exact h.put _ (n64_get h.mem _)
    · cases he; exact h
  rw [if_neg k33] at he
  by_cases k34 : m.op = 34
  · rw [if_pos k34] at he
    split at he
    · cases he
      exact ⟨h.regs, h.fr, fun y hy => by
        rcases List.mem_or_eq_of_mem_set hy with e | e
        · exact h.mem y e
        · rw [e]; exact h.reg _, h.inp⟩
    · cases he; exact h
  rw [if_neg k34] at he
  by_cases k35 : m.op = 35
  · rw [if_pos k35] at he; cases he; exact h.put _ (n64_get h.fr _)
  rw [if_neg k35] at he
  by_cases k36 : m.op = 36
  · rw [if_pos k36] at he
    cases he
    exact ⟨h.regs, fun y hy => by
      rcases List.mem_or_eq_of_mem_set hy with e | e
      · exact h.fr y e
      · rw [e]; exact h.reg _, h.mem, h.inp⟩
  rw [if_neg k36] at he
  by_cases k45 : m.op = 45
  · rw [if_pos k45] at he; cases he; exact h
  rw [if_neg k45] at he
  by_cases k46 : m.op = 46
  · rw [if_pos k46] at he
    cases hi : c.inp with
    | nil => rw [hi] at he; cases he; exact h.put _ ⟨by decide, by decide⟩
    | cons x l =>
      rw [hi] at he
      cases he
      have hx : N64 x := h.inp x (by rw [hi]; simp)
      have := h.put m.dst hx
      exact ⟨this.regs, this.fr, this.mem, fun y hy => h.inp y (by rw [hi]; simp [hy])⟩
  rw [if_neg k46] at he
  by_cases k47 : m.op = 47
  · rw [if_pos k47] at he
    split at he
    · cases he; exact h
    · cases he; exact ⟨h.regs, h.fr, h.mem, h.inp⟩
  rw [if_neg k47] at he
  cases he
  exact h
theorem ofInt64 {a : Int} (ha : N64 a) : IntKind.i64.wrap ((BitVec.ofInt 64 a).toNat : Nat) = a := by
  rw [IntKind.wrap_i64, BitVec.toNat_ofInt]
  unfold N64 at ha
  omega
theorem or_nought {a : Int} (ha : N64 a) : bits .or .i64 a 0 = a := by
  have e : bits .or .i64 a 0 = IntKind.i64.wrap ((BitVec.ofInt 64 a ||| 0#64).toNat : Nat) := rfl
  rw [e, BitVec.or_zero, ofInt64 ha]
theorem xor_nought {a : Int} (ha : N64 a) : bits .xor .i64 a 0 = a := by
  have e : bits .xor .i64 a 0 = IntKind.i64.wrap ((BitVec.ofInt 64 a ^^^ 0#64).toNat : Nat) := rfl
  rw [e, BitVec.xor_zero, ofInt64 ha]
theorem wrap_id {a : Int} (ha : N64 a) : wrap64 a = a := by unfold wrap64; unfold N64 at ha; omega
/-- What an idle instruction does. -/
theorem idle_exec {m : Mac} (h : idleM m = true) {c : Cfg} (hc : CfgIn c) : exec m c = (.fall, c.put m.dst (c.reg m.a)) := by
  obtain ⟨_, _, _, h19, h28⟩ := idle_op h
  have ha := hc.reg m.a
  have hx : twoI (m.op - 17) (c.reg m.a) m.n = some (c.reg m.a) := by
    have hz : (bits .and .i64 0 63).toNat = 0 := by rfl
    unfold idleM at h
    split at h
    · rename_i ho
      have hn : m.n = 1 := by simpa using h
      rw [hn]
      rcases ho with e | e
      · rw [e]
        show some (wrap64 (c.reg m.a * 1)) = _
        rw [Int.mul_one, wrap_id ha]
      · rw [e]
        show some (wrap64 ((c.reg m.a).tdiv 1)) = _
        rw [Int.tdiv_one, wrap_id ha]
    · simp only [Bool.and_eq_true, decide_eq_true_eq] at h
      rw [h.1]
      rcases h.2 with e | e | e | e | e | e
      · rw [e]
        show some (wrap64 (c.reg m.a + 0)) = _
        rw [Int.add_zero, wrap_id ha]
      · rw [e]
        show some (wrap64 (c.reg m.a - 0)) = _
        rw [Int.sub_zero, wrap_id ha]
      · rw [e]
        show some (bits .or .i64 (c.reg m.a) 0) = _
        rw [or_nought ha]
      · rw [e]
        show some (bits .xor .i64 (c.reg m.a) 0) = _
        rw [xor_nought ha]
      · rw [e]
        show some (wrap64 (c.reg m.a * 2 ^ (bits .and .i64 0 63).toNat)) = _
        rw [hz, Int.pow_zero, Int.mul_one, wrap_id ha]
      · rw [e]
        show some (c.reg m.a / 2 ^ (bits .and .i64 0 63).toNat) = _
        rw [hz, Int.pow_zero, Int.ediv_one]
  unfold exec
  rw [if_neg (by omega), if_pos (by omega), hx]
theorem means_idle {l : List Mac} (h : Lone l) {i : Nat} (hi : i < l.length) (hd : idleM (atL l i) = true) {k : Nat} {c : Cfg} {O : Oc} (hc : CfgIn c) (hE : Ends l 0 c k O) :
    ∃ k', k' ≤ k ∧ Ends (l.set i ⟨2, (atL l i).dst, (atL l i).a, 0, 0⟩) 0 c k' O :=
  sim_set h hi _ (fun _ c => CfgIn c) (fun k k' c ct c1 hk hj he hg => exec_in (h.nums _ (atL_in hk)) hj he) (fun c hj => by rw [idle_exec hd hj, exec_move rfl]) hc hE

/-- What a comparison tells, and the jump that compares. -/
theorem cmp_two {op a b : Int} (h1 : 15 ≤ op) (h2 : op ≤ 18) : twoI (op - 3) a b = some (if goesM (op + 25) a b = true then 1 else 0) := by
  have : op = 15 ∨ op = 16 ∨ op = 17 ∨ op = 18 := by omega
  rcases this with e | e | e | e
  · subst e
    by_cases h : a = b <;> simp [twoI, goesM, h]
  · subst e
    by_cases h : a = b <;> simp [twoI, goesM, h]
  · subst e
    by_cases h : a < b <;> simp [twoI, goesM, h]
  · subst e
    by_cases h : a ≤ b <;> simp [twoI, goesM, h]
theorem ifs_goes {m o : Mac} (h1 : 15 ≤ m.op) (h2 : m.op ≤ 18) (ho : o.op = 38 ∨ o.op = 39) (c : Cfg) (y : Int) :
    goesM (ifsM m o).op (c.reg (ifsM m o).a) (c.reg (ifsM m o).b) = goesM o.op (if goesM (m.op + 25) (c.reg m.a) (c.reg m.b) = true then 1 else 0) y := by
  have hm : m.op = 15 ∨ m.op = 16 ∨ m.op = 17 ∨ m.op = 18 := by omega
  obtain ⟨mo, md, ma, mb, mn⟩ := m
  obtain ⟨oo, od, oa, ob, on⟩ := o
  simp only at hm ho ⊢
  rcases ho with e | e <;> subst e
  · rcases hm with e | e | e | e <;> subst e <;> simp only [ifsM, if_pos]
    · by_cases h : c.reg ma = c.reg mb <;> simp [goesM, h]
    · by_cases h : c.reg ma = c.reg mb <;> simp [goesM, h]
    · by_cases h : c.reg ma < c.reg mb <;> simp [goesM, h]
    · by_cases h : c.reg ma ≤ c.reg mb <;> simp [goesM, h]
  · rcases hm with e | e | e | e <;> subst e
    · by_cases h : c.reg ma = c.reg mb <;> simp [ifsM, goesM, h]
    · by_cases h : c.reg ma = c.reg mb <;> simp [ifsM, goesM, h]
    · by_cases h : c.reg ma < c.reg mb <;> simp [ifsM, goesM, h] <;> omega
    · by_cases h : c.reg ma ≤ c.reg mb <;> simp [ifsM, goesM, h] <;> omega
theorem ifs_op {m o : Mac} (h1 : 15 ≤ m.op) (h2 : m.op ≤ 18) : (40 ≤ (ifsM m o).op ∧ (ifsM m o).op ≤ 43) ∧ (ifsM m o).n = o.n := by
  unfold ifsM
  split
  · exact ⟨⟨by simp only; omega, by simp only; omega⟩, rfl⟩
  split
  · exact ⟨⟨by simp, by simp⟩, rfl⟩
  split
  · exact ⟨⟨by simp, by simp⟩, rfl⟩
  split
  · exact ⟨⟨by simp, by simp⟩, rfl⟩
  · exact ⟨⟨by simp, by simp⟩, rfl⟩
theorem Agr.drop {P P' Q : Nat → Prop} {c c' : Cfg} (h : Agr P Q c c') {d : Int} (h0 : 0 ≤ d) (h1 : d ≤ 15) (x : Int) (hp : ∀ r, r < 16 → P' r → r ≠ d.toNat ∧ P r) : Agr P' Q (c.put d x) c' where
  l1 := by show (c.regs.set _ _).length = 16; rw [List.length_set]; exact h.l1
  l2 := h.l2
  f1 := h.f1
  f2 := h.f2
  regs := fun r hr hr' => by
    show (c.regs.set d.toNat x).getD r 0 = _
    rw [getD_put (by have := h.l1; omega), if_neg (hp r hr hr').1]
    exact h.regs r hr (hp r hr hr').2
  fr := h.fr
  mem := h.mem
  inp := h.inp
  out := h.out
theorem means_fused {l : List Mac} (h : Lone l) {i : Nat} (hb : besideP l i) (h1 : 15 ≤ (atL l i).op) (h2 : (atL l i).op ≤ 18) (ho : asksM (atL l (i + 1)) (atL l i).dst = true) (hn : ¬ behindP l (i + 1) (atL l i).dst.toNat)
    {k : Nat} {c : Cfg} {O : Oc} (hc : CfgOk c) (hE : Ends l 0 c k O) : ∃ k', k' ≤ k ∧ Ends (goneL (l.set (i + 1) (ifsM (atL l i) (atL l (i + 1)))) i) 0 c k' O := by
  have hi : i < l.length := by have := hb.1; omega
  have h0 := h.ok.some_
  have hm := (h.at_ hi).1
  have hm1 := (h.at_ hb.1).1
  obtain ⟨ho1, ho2⟩ := asks_op ho
  have hj1 := hm1.jump (by omega) (by omega)
  have hl2 := op_not_last h.ok hb.1 (by omega) (by omega)
  obtain ⟨hxo, hxn⟩ := ifs_op (m := atL l i) (o := atL l (i + 1)) h1 h2
  generalize hX : ifsM (atL l i) (atL l (i + 1)) = X at *
  have hlen : (l.set (i + 1) X).length = l.length := List.length_set
  have hst : stepsTo l i (i + 1) := ⟨hi, .inl ⟨by omega, by omega, rfl⟩⟩
  have hst1 : stepsTo l (i + 1) (i + 2) := ⟨hb.1, .inl ⟨by omega, by omega, rfl⟩⟩
  have hst2 : stepsTo l (i + 1) (atL l (i + 1)).n.toNat := ⟨hb.1, .inr ⟨jumps_op.2 (by omega), by omega⟩⟩
  have hnl : ∀ k, stepsTo l (i + 1) k → ∀ r, r < 16 → Live l r k → r ≠ (atL l i).dst.toNat ∧ Live l r i := fun k hs r hr hL => by
    have hne : r ≠ (atL l i).dst.toNat := fun e => hn ⟨k, hs, by rw [← e]; exact hL⟩
    refine ⟨hne, .via hi ?_ hst (.via hb.1 ?_ hs hL)⟩
    · have hsh := (shape_at _ hm.op1 hm.op47).1 ⟨by omega, by omega⟩
      unfold writesM
      rw [if_neg (by omega), hsh]
      have := hm.dst0
      simp
      omega
    · have hsh := (shape_at _ hm1.op1 hm1.op47).2.2.2.2.2.2.2.2.2.1 ho1
      unfold writesM
      rw [if_neg (by omega), hsh]
      rfl
  refine sim_ends (l := l) (R := fun pc c pc' c' => pc < l.length ∧ pc ≠ i + 1 ∧ pc' = phi i pc ∧ Agr (fun r => Live l r pc) allP c c') ?_ k k 0 c 0 c O (Nat.le_refl _) ⟨h0, by omega, by simp [phi], hc.agr _ _⟩ hE
  rintro pc c pc' c' k O ⟨hp, hp1, rfl, ha⟩ hE
  by_cases hpi : pc = i
  · subst hpi
    have hv := cmp_two (a := c.reg (atL l pc).a) (b := c.reg (atL l pc).b) h1 h2
    have hx : exec (atL l pc) c = (.fall, c.put (atL l pc).dst (if goesM ((atL l pc).op + 25) (c.reg (atL l pc).a) (c.reg (atL l pc).b) = true then 1 else 0)) := by
      unfold exec
      rw [if_pos (by omega), hv]
    have hra : c.reg (atL l pc).a = c'.reg (atL l pc).a := ha.regs _ (by have := hm.a1; omega) (.use hi (by
      have hsh := (shape_at _ hm.op1 hm.op47).1 ⟨by omega, by omega⟩
      unfold readsM
      rw [if_neg (by omega), if_neg (by omega), hsh]
      have := hm.a0
      simp
      exact .inl (by omega)))
    have hrb : c.reg (atL l pc).b = c'.reg (atL l pc).b := ha.regs _ (by have := hm.b1; omega) (.use hi (by
      have hsh := (shape_at _ hm.op1 hm.op47).1 ⟨by omega, by omega⟩
      unfold readsM
      rw [if_neg (by omega), if_neg (by omega), hsh]
      have := hm.b0
      simp
      exact .inr (by omega)))
    generalize hV : (if goesM ((atL l pc).op + 25) (c.reg (atL l pc).a) (c.reg (atL l pc).b) = true then (1 : Int) else 0) = V at *
    have hx1 : exec (atL l (pc + 1)) (c.put (atL l pc).dst V) = if goesM (atL l (pc + 1)).op V ((c.put (atL l pc).dst V).reg (atL l (pc + 1)).b) = true then (.jump (atL l (pc + 1)).n.toNat, c.put (atL l pc).dst V) else (.fall, c.put (atL l pc).dst V) := by
      rw [exec_of_jump (jumps_op.2 (by omega)), ho2, reg_put ha.l1 hm.dst0 hm.dst1 hm.dst0, if_pos rfl]
    have hxj : jumpsM X = true := jumps_op.2 (by omega)
    have hx2 : exec X c' = if goesM X.op (c'.reg X.a) (c'.reg X.b) = true then (.jump X.n.toNat, c') else (.fall, c') := exec_of_jump hxj c'
    have hgo := ifs_goes (m := atL l pc) (o := atL l (pc + 1)) h1 h2 ho1 c' ((c.put (atL l pc).dst V).reg (atL l (pc + 1)).b)
    rw [hX, ← hra, ← hrb, hV] at hgo
    have hat : atL (goneL (l.set (pc + 1) X) pc) (phi pc pc) = decM pc X := by
      unfold phi
      rw [if_pos (Nat.le_refl _), atL_gone (by rw [hlen]; exact hi) (by rw [hlen]; omega), if_neg (by omega), atL_set hb.1, if_pos rfl]
    have hX0 : jumpsM X = true → 0 ≤ X.n := fun _ => by rw [hxn]; exact hj1.1
    have hf : exec (atL l pc) c = (.fall, c.put (atL l pc).dst V) := hx
    cases hE with
    | stop he => rw [hf] at he; cases he
    | jump he _ => rw [hf] at he; cases he
    | @fall _ k _ _ _ he hE1 =>
      rw [hf] at he
      cases he
      rw [← hgo] at hx1
      cases hg : goesM X.op (c'.reg X.a) (c'.reg X.b)
      · rw [hg, if_neg (by simp)] at hx1 hx2
        have hd := exec_dec (i := pc) hX0 hx2
        rw [← hat] at hd
        cases hE1 with
        | stop he => rw [hx1] at he; cases he
        | jump he _ => rw [hx1] at he; cases he
        | @fall _ k _ _ _ he hE2 =>
          rw [hx1] at he
          cases he
          refine .inr ⟨pc + 2, _, k, phi pc pc + 1, c', by omega, ⟨hl2, by omega, ?_, ha.drop hm.dst0 hm.dst1 V (hnl _ hst1)⟩, hE2, fun k' h3 => ⟨k' + 1, by omega, .fall hd h3⟩⟩
          unfold phi
          rw [if_pos (Nat.le_refl _), if_neg (by omega)]
          omega
      · rw [hg, if_pos rfl] at hx1 hx2
        have hd := exec_dec (i := pc) hX0 hx2
        rw [← hat] at hd
        cases hE1 with
        | stop he => rw [hx1] at he; cases he
        | fall he _ => rw [hx1] at he; cases he
        | @jump _ k _ _ _ _ he hE2 =>
          rw [hx1] at he
          cases he
          rw [hxn] at hd
          refine .inr ⟨_, _, k, phi pc (atL l (pc + 1)).n.toNat, c', by omega, ⟨by omega, fun e => hb.2.2.2 ⟨pc + 1, hb.1, jumps_op.2 (by omega), by omega⟩, rfl, ha.drop hm.dst0 hm.dst1 V (hnl _ hst2)⟩, hE2, fun k' h3 => ⟨k' + 1, by omega, .jump hd h3⟩⟩
  · refine both_step (φ := phi i) hE fun ct c1 he => ?_
    have hm' := h.at_ hp
    obtain ⟨ct', c2, c1', e1, e2, e3, e4⟩ := exec_rel hm'.1 hm'.2 (P := fun r => Live l r pc) (Q := allP) (fun r hr h1 => .use hp h1) (fun _ => trivial) ha
    rw [he] at e1
    cases e1
    have hat : atL (goneL (l.set (i + 1) X) i) (phi i pc) = decM i (atL l pc) := by
      unfold phi
      by_cases h1 : pc ≤ i
      · rw [if_pos h1, atL_gone (by rw [hlen]; exact hi) (by rw [hlen]; omega), if_pos (by omega), atL_set hb.1, if_neg (by omega)]
      · rw [if_neg h1, atL_gone (by rw [hlen]; exact hi) (by rw [hlen]; omega), if_neg (by omega), show pc - 1 + 1 = pc from by omega, atL_set hb.1, if_neg hp1]
    have hlive : ∀ k, stepsTo l pc k → ∀ r, r < 16 → Live l r k → Live l r pc ∨ writesM (atL l pc) r = true := fun k hs r _ hL => by
      cases hw : writesM (atL l pc) r
      · exact .inl (.via hs.1 hw hs hL)
      · exact .inr rfl
    refine ⟨c1', ?_, e4, ?_, ?_⟩
    · rw [hat]
      exact exec_dec (fun hj => (hm'.1.jump (jumps_op.1 hj).1 (jumps_op.1 hj).2).1) e2
    · rintro rfl
      obtain ⟨g1, g2⟩ := h.goes hp he (.inl ⟨rfl, rfl⟩)
      refine ⟨g1, by omega, ?_, (e3 rfl).mono fun r hr hP => hlive _ g2 r hr hP⟩
      unfold phi
      by_cases h1 : pc ≤ i
      · rw [if_pos h1, if_pos (by omega)]
      · rw [if_neg h1, if_neg (by omega)]; omega
    · rintro n rfl
      obtain ⟨g1, g2⟩ := h.goes hp he (.inr rfl)
      refine ⟨g1, fun e => ?_, rfl, (e3 rfl).mono fun r hr hP => hlive _ g2 r hr hP⟩
      subst e
      exact hpi (beside_from h hb hp he (.inr rfl)).1

/-! ### All of them -/
theorem gone_lone {l : List Mac} {i : Nat} (h : ∀ m ∈ l, m.op ≠ 44 ∧ N64 m.n) (hf : ∀ m ∈ l, jumpsM m = true → 0 ≤ m.n) : ∀ m ∈ goneL l i, m.op ≠ 44 ∧ N64 m.n := fun m hm => by
  obtain ⟨x, hx, rfl⟩ := mem_gone hm
  refine ⟨by rw [decM_op]; exact (h x hx).1, ?_⟩
  have h1 := (h x hx).2
  unfold decM
  split
  · rename_i hc
    have := hf x hx hc.1
    unfold N64 at h1 ⊢
    show -9223372036854775808 ≤ x.n - 1 ∧ x.n - 1 ≤ 9223372036854775807
    omega
  · exact h1
theorem set_lone {l : List Mac} {i : Nat} {m : Mac} (h : ∀ m ∈ l, m.op ≠ 44 ∧ N64 m.n) (hm : m.op ≠ 44 ∧ N64 m.n) : ∀ x ∈ l.set i m, x.op ≠ 44 ∧ N64 x.n := fun x hx => by
  rcases List.mem_or_eq_of_mem_set hx with e | e
  · exact h x e
  · rw [e]; exact hm
theorem Lone.jump0 {l : List Mac} (h : Lone l) : ∀ m ∈ l, jumpsM m = true → 0 ≤ m.n := fun m hm hj => ((macF_ok (h.ok.fine m hm)).jump (jumps_op.1 hj).1 (jumps_op.1 hj).2).1
/-- A rule that fits leaves what means the same. -/
theorem rule_means {l l' : List Mac} (h : Lone l) {i j : Nat} (hi : i < l.length) (hr : ∀ k, k < i → Reach l k) (hx : ruleR l i j = some l') :
    Lone l' ∧ ∀ k c O, CfgOk c → CfgIn c → Ends l 0 c k O → ∃ k', k' ≤ k ∧ Ends l' 0 c k' O := by
  have hok := (rule_ok h.ok hi hr hx).1
  have hall : ∀ m ∈ l, m.op ≠ 44 ∧ N64 m.n := fun m hm => ⟨h.none m hm, h.nums m hm⟩
  have fin : ∀ {x : List Mac}, MacsOk x → (∀ m ∈ x, m.op ≠ 44 ∧ N64 m.n) → Lone x := fun h1 h2 => ⟨h1, fun m hm => (h2 m hm).1, fun m hm => (h2 m hm).2⟩
  have g_ : ∀ k, MacsOk (goneL l k) → Lone (goneL l k) := fun k hk => fin hk (gone_lone hall h.jump0)
  have n0 : N64 0 := n64_0
  match j with
  | 0 =>
    simp only [ruleR, lostR] at hx
    split at hx
    · cases hx
    · rename_i hn
      cases hx
      exact ⟨g_ _ hok, fun k c O hc _ hE => means_lost h hi (fun e => hn (reachB_iff.2 e)) hc hE⟩
  | 1 =>
    simp only [ruleR, itselfR] at hx
    split at hx
    · rename_i hc
      cases hx
      exact ⟨g_ _ hok, fun k c O hc' _ hE => means_itself h hi hc.1 hc.2 hc' hE⟩
    · cases hx
  | 2 =>
    simp only [ruleR, shortR] at hx
    split at hx
    · rename_i hc
      cases hx
      exact ⟨g_ _ hok, fun k c O hc' _ hE => means_short h hi hc.1 hc.2 hc' hE⟩
    · cases hx
  | 3 =>
    simp only [ruleR, farR, farTo] at hx
    split at hx
    · rename_i hj
      split at hx
      · rename_i t ht
        split at hx
        · cases hx
        · simp at hx
          subst hx
          have hb := (h.at_ hi).1.jump (jumps_op.1 hj).1 (jumps_op.1 hj).2
          have hto := ledL_ok h.ok _ _ _ hb.1 hb.2 ht
          have hfew := h.ok.few
          exact ⟨fin hok (set_lone hall ⟨(h.at_ hi).2, by unfold N64; show -9223372036854775808 ≤ t ∧ t ≤ 9223372036854775807; omega⟩), fun k c O hc' _ hE => sim_far h hi hj ht hE⟩
      · simp at hx
    · simp at hx
  | 4 =>
    simp only [ruleR, vainR] at hx
    split at hx
    · rename_i hc
      cases hx
      exact ⟨g_ _ hok, fun k c O hc' _ hE => means_vain h hi hc.1 (fun e => by have := behB_iff.2 e; rw [hc.2] at this; cases this) hc' hE⟩
    · cases hx
  | 5 =>
    simp only [ruleR, unreadR] at hx
    split at hx
    · rename_i hc
      cases hx
      exact ⟨g_ _ hok, fun k c O hc' _ hE => means_unread h hi hc.1 hc.2 hc' hE⟩
    · cases hx
  | 6 =>
    simp only [ruleR, againR] at hx
    split at hx
    · rename_i hc
      cases hx
      exact ⟨fin hok (set_lone hall ⟨by simp, n0⟩), fun k c O hc' _ hE => means_again h (besB_iff.1 hc.1) hc.2.1 hc.2.2.1 hc.2.2.2 hc' hE⟩
    · cases hx
  | 7 =>
    simp only [ruleR, backR] at hx
    split at hx
    · rename_i hc
      cases hx
      exact ⟨g_ _ hok, fun k c O hc' _ hE => means_back h (besB_iff.1 hc.1) hc.2.1 hc.2.2 hc' hE⟩
    · cases hx
  | 8 =>
    simp only [ruleR, sureR] at hx
    split at hx
    · rename_i hc
      have hb := besB_iff.1 hc.1
      split at hx
      · rename_i hs
        cases hx
        exact ⟨g_ _ hok, fun k c O hc' _ hE => means_sureNo h hb hc.2.1 hc.2.2 hs hc' hE⟩
      · rename_i hs
        cases hx
        exact ⟨fin hok (set_lone hall ⟨by simp, (hall _ (atL_in hb.1)).2⟩), fun k c O hc' _ hE => means_sureYes h hb hc.2.1 hc.2.2 hs hc' hE⟩
    · cases hx
  | 9 =>
    simp only [ruleR, fusedR] at hx
    split at hx
    · rename_i hc
      cases hx
      have hb := besB_iff.1 hc.1
      obtain ⟨h15, h18⟩ := hc.2.1
      obtain ⟨h3, h4⟩ := ifs_op (m := atL l i) (o := atL l (i + 1)) h15 h18
      have ho1 := (asks_op hc.2.2.1).1
      have hj1 := ((h.at_ hb.1).1).jump (by omega) (by omega)
      refine ⟨fin hok (gone_lone (set_lone hall ⟨by omega, by rw [h4]; exact (hall _ (atL_in hb.1)).2⟩) fun m hm hj => ?_), fun k c O hc' _ hE => means_fused h hb h15 h18 hc.2.2.1 (fun e => by have := behB_iff.2 e; rw [hc.2.2.2] at this; cases this) hc' hE⟩
      rcases List.mem_or_eq_of_mem_set hm with e | e
      · exact h.jump0 m e hj
      · rw [e, h4]; exact hj1.1
    · cases hx
  | 10 =>
    simp only [ruleR, idleR] at hx
    split at hx
    · rename_i hc
      cases hx
      exact ⟨fin hok (set_lone hall ⟨by simp, n0⟩), fun k c O _ hin hE => means_idle h hi hc hin hE⟩
    · cases hx
  | j + 11 => simp [ruleR] at hx
theorem once_means {l l' : List Mac} (h : Lone l) (hx : onceP l = some l') : Lone l' ∧ ∀ k c O, CfgOk c → CfgIn c → Ends l 0 c k O → ∃ k', k' ≤ k ∧ Ends l' 0 c k' O := by
  obtain ⟨i, j, hi, hr, _, hj⟩ := onceP_at hx
  exact rule_means h hi hr hj
theorem peep_means (n : Nat) : ∀ {l : List Mac}, Lone l → msr l ≤ n → Lone (peepL l) ∧ ∀ k c O, CfgOk c → CfgIn c → Ends l 0 c k O → ∃ k', k' ≤ k ∧ Ends (peepL l) 0 c k' O := by
  induction n with
  | zero =>
    intro l h h1
    cases hx : onceP l with
    | none => rw [peepL_none hx]; exact ⟨h, fun k c O _ _ hE => ⟨k, Nat.le_refl _, hE⟩⟩
    | some x => have := (onceP_ok h.ok hx).2.1; omega
  | succ n ih =>
    intro l h h1
    cases hx : onceP l with
    | none => rw [peepL_none hx]; exact ⟨h, fun k c O _ _ hE => ⟨k, Nat.le_refl _, hE⟩⟩
    | some x =>
      have h3 := onceP_ok h.ok hx
      obtain ⟨h4, h5⟩ := once_means h hx
      obtain ⟨h6, h7⟩ := ih h4 (by omega)
      rw [peepL_some h.ok hx]
      refine ⟨h6, fun k c O hc hin hE => ?_⟩
      obtain ⟨k1, h8, h9⟩ := h5 k c O hc hin hE
      obtain ⟨k2, h10, h11⟩ := h7 k1 c O hc hin h9
      exact ⟨k2, by omega, h11⟩
end Go.Proofs.YtemakpjickbmnaaDoor
