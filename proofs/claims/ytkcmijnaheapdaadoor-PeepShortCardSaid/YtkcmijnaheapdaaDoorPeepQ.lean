/- peep, plainly: its rules in their order; code that may be stays so; why it ends. -/
import Derived.Test.YtkcmijnaheapdaaDoorPeepP
namespace Go.Proofs.YtkcmijnaheapdaaDoor
open Go.RowKit
set_option linter.unusedSimpArgs false
set_option linter.unusedVariables false

/-- Code that may be. -/
structure MacsOk (l : List Mac) : Prop where
  some_ : 0 < l.length
  few : l.length ≤ 5000
  fine : ∀ m ∈ l, macF m l.length = 0
  last : (atL l (l.length - 1)).op = 37 ∨ (atL l (l.length - 1)).op = 45
theorem atL_get {l : List Mac} {i : Nat} (h : i < l.length) : atL l i = l[i] := by
  unfold atL
  rw [List.getD_eq_getElem?_getD, List.getElem?_eq_getElem h]
  rfl
theorem atL_in {l : List Mac} {i : Nat} (h : i < l.length) : atL l i ∈ l := by
  rw [atL_get h]
  exact List.getElem_mem h
theorem in_atL {l : List Mac} {m : Mac} (h : m ∈ l) : ∃ i, i < l.length ∧ atL l i = m := by
  obtain ⟨i, hi, e⟩ := List.mem_iff_getElem.1 h
  exact ⟨i, hi, (atL_get hi).trans e⟩
theorem atL_set {l : List Mac} {i k : Nat} {m : Mac} (h : i < l.length) : atL (l.set i m) k = if k = i then m else atL l k := by
  unfold atL
  rw [List.getD_eq_getElem?_getD, List.getD_eq_getElem?_getD, List.getElem?_set]
  by_cases e : i = k
  · subst e
    rw [if_pos rfl, if_pos h, if_pos rfl]
    rfl
  · rw [if_neg e, if_neg (fun x => e x.symm)]
theorem goneL_len {l : List Mac} {i : Nat} (h : i < l.length) : (goneL l i).length = l.length - 1 := by
  unfold goneL
  rw [List.length_map, List.length_eraseIdx, if_pos h]
theorem atL_gone {l : List Mac} {i k : Nat} (h : i < l.length) (hk : k < l.length - 1) : atL (goneL l i) k = decM i (atL l (if k < i then k else k + 1)) := by
  have hk' : k < (goneL l i).length := by rw [goneL_len h]; exact hk
  have e0 : (goneL l i)[k] = decM i ((l.eraseIdx i)[k]'(by rw [List.length_eraseIdx, if_pos h]; exact hk)) := List.getElem_map ..
  rw [atL_get hk', e0, List.getElem_eraseIdx]
  by_cases e : k < i
  · rw [dif_pos e, if_pos e, atL_get]
  · rw [dif_neg e, if_neg e, atL_get]
theorem MacsOk.at_ {l : List Mac} (h : MacsOk l) {i : Nat} (hi : i < l.length) : MacOk (atL l i) l.length := macF_ok (h.fine _ (atL_in hi))
theorem decM_op (i : Nat) (m : Mac) : (decM i m).op = m.op := by unfold decM; split <;> rfl

/-- An Op's kind of number. -/
theorem shape_n (op : Int) (h1 : 1 ≤ op) (h2 : op ≤ 47) : (shapeOf op).n = 2 ↔ 37 ≤ op ∧ op ≤ 43 := by
  have h : op = 1 ∨ op = 2 ∨ op = 3 ∨ op = 4 ∨ op = 5 ∨ op = 6 ∨ op = 7 ∨ op = 8 ∨ op = 9 ∨ op = 10 ∨ op = 11 ∨ op = 12 ∨ op = 13 ∨ op = 14 ∨ op = 15 ∨ op = 16 ∨ op = 17 ∨ op = 18 ∨ op = 19 ∨ op = 20 ∨ op = 21 ∨ op = 22 ∨ op = 23 ∨ op = 24 ∨ op = 25 ∨ op = 26 ∨ op = 27 ∨ op = 28 ∨ op = 29 ∨ op = 30 ∨ op = 31 ∨ op = 32 ∨ op = 33 ∨ op = 34 ∨ op = 35 ∨ op = 36 ∨ op = 37 ∨ op = 38 ∨ op = 39 ∨ op = 40 ∨ op = 41 ∨ op = 42 ∨ op = 43 ∨ op = 44 ∨ op = 45 ∨ op = 46 ∨ op = 47 := by omega
  rcases h with h | h | h | h | h | h | h | h | h | h | h | h | h | h | h | h | h | h | h | h | h | h | h | h | h | h | h | h | h | h | h | h | h | h | h | h | h | h | h | h | h | h | h | h | h | h | h <;> subst h <;> decide +kernel
theorem numberF_same {k n a b : Int} (h : k ≠ 2) (h3 : numberF k n a = numberF k n b ∨ True) : k = 0 ∨ k = 1 ∨ k = 3 ∨ k = 4 → numberF k n a = numberF k n b := by
  rintro (e | e | e | e) <;> subst e <;> simp [numberF]
theorem shape_kinds (op : Int) (h1 : 1 ≤ op) (h2 : op ≤ 47) : (shapeOf op).n = 0 ∨ (shapeOf op).n = 1 ∨ (shapeOf op).n = 2 ∨ (shapeOf op).n = 3 ∨ (shapeOf op).n = 4 := by
  have h : op = 1 ∨ op = 2 ∨ op = 3 ∨ op = 4 ∨ op = 5 ∨ op = 6 ∨ op = 7 ∨ op = 8 ∨ op = 9 ∨ op = 10 ∨ op = 11 ∨ op = 12 ∨ op = 13 ∨ op = 14 ∨ op = 15 ∨ op = 16 ∨ op = 17 ∨ op = 18 ∨ op = 19 ∨ op = 20 ∨ op = 21 ∨ op = 22 ∨ op = 23 ∨ op = 24 ∨ op = 25 ∨ op = 26 ∨ op = 27 ∨ op = 28 ∨ op = 29 ∨ op = 30 ∨ op = 31 ∨ op = 32 ∨ op = 33 ∨ op = 34 ∨ op = 35 ∨ op = 36 ∨ op = 37 ∨ op = 38 ∨ op = 39 ∨ op = 40 ∨ op = 41 ∨ op = 42 ∨ op = 43 ∨ op = 44 ∨ op = 45 ∨ op = 46 ∨ op = 47 := by omega
  rcases h with h | h | h | h | h | h | h | h | h | h | h | h | h | h | h | h | h | h | h | h | h | h | h | h | h | h | h | h | h | h | h | h | h | h | h | h | h | h | h | h | h | h | h | h | h | h | h <;> subst h <;> decide +kernel
/-- A fault of an instruction, with another number or another length. -/
theorem macF_swap {m : Mac} {n' : Int} {a b : Int} (h : macF m a = 0) (hn : numberF (shapeOf m.op).n n' b ≠ 3 ∧ numberF (shapeOf m.op).n n' b ≠ 5) : macF ⟨m.op, m.dst, m.a, m.b, n'⟩ b = 0 := by
  unfold macF at h ⊢
  cases hk : known m.op
  · rw [hk, if_pos rfl] at h; omega
  rw [hk, if_neg (by simp)] at h
  rw [if_neg (by simp [hk])]
  simp only [] at h ⊢
  by_cases h3 : fieldF (shapeOf m.op).d m.dst = 3 ∨ fieldF (shapeOf m.op).a m.a = 3 ∨ fieldF (shapeOf m.op).b m.b = 3 ∨ numberF (shapeOf m.op).n m.n a = 3
  · rw [if_pos h3] at h; omega
  rw [if_neg h3] at h
  by_cases h5 : fieldF (shapeOf m.op).d m.dst = 5 ∨ fieldF (shapeOf m.op).a m.a = 5 ∨ fieldF (shapeOf m.op).b m.b = 5 ∨ numberF (shapeOf m.op).n m.n a = 5
  · rw [if_pos h5] at h; omega
  rw [if_neg (fun e => e.elim (fun e => h3 (.inl e)) fun e => e.elim (fun e => h3 (.inr (.inl e))) fun e => e.elim (fun e => h3 (.inr (.inr (.inl e)))) hn.1)]
  rw [if_neg (fun e => e.elim (fun e => h5 (.inl e)) fun e => e.elim (fun e => h5 (.inr (.inl e))) fun e => e.elim (fun e => h5 (.inr (.inr (.inl e)))) hn.2)]
theorem macF_num {m : Mac} {a : Int} (h : macF m a = 0) : numberF (shapeOf m.op).n m.n a ≠ 3 ∧ numberF (shapeOf m.op).n m.n a ≠ 5 := by
  unfold macF at h
  cases hk : known m.op
  · rw [hk, if_pos rfl] at h; omega
  rw [hk, if_neg (by simp)] at h
  simp only [] at h
  refine ⟨fun e => ?_, fun e => ?_⟩
  · rw [if_pos (.inr (.inr (.inr e)))] at h; omega
  · split at h
    · omega
    · rw [if_pos (.inr (.inr (.inr e)))] at h; omega
theorem macF_jump {m : Mac} {n' : Int} {a b : Nat} (h : macF m a = 0) (hj : jumpsM m = true) (h0 : 0 ≤ n') (h1 : n' < (b : Int)) : macF ⟨m.op, m.dst, m.a, m.b, n'⟩ b = 0 := by
  have hj' : 37 ≤ m.op ∧ m.op ≤ 43 := by unfold jumpsM at hj; simpa using hj
  refine macF_swap h ?_
  rw [(shape_n m.op (by omega) (by omega)).2 hj']
  simp [numberF]
  omega
theorem macF_len {m : Mac} {a b : Nat} (h : macF m a = 0) (hj : jumpsM m = false) : macF m b = 0 := by
  have ho := macF_ok h
  have h1 := ho.op1
  have h2 := ho.op47
  have hn : (shapeOf m.op).n ≠ 2 := fun e => by
    have := (shape_n m.op h1 h2).1 e
    unfold jumpsM at hj
    simp at hj
    omega
  have hs := macF_num h
  have hk := shape_kinds m.op h1 h2
  have e : numberF (shapeOf m.op).n m.n a = numberF (shapeOf m.op).n m.n b := numberF_same hn (.inr trivial) (by omega)
  rw [e] at hs
  exact macF_swap (n' := m.n) h hs
theorem macF_dec {m : Mac} {i a : Nat} (h : macF m a = 0) (ha : 0 < a) (hi : jumpsM m = true → m.n ≤ (i : Int) → m.n < (a : Int) - 1) : macF (decM i m) ((a - 1 : Nat) : Int) = 0 := by
  unfold decM
  cases hj : jumpsM m
  · rw [if_neg (by simp)]
    exact macF_len h hj
  · have hj' : 37 ≤ m.op ∧ m.op ≤ 43 := by unfold jumpsM at hj; simpa using hj
    have hb := (macF_ok h).jump hj'.1 hj'.2
    by_cases hn : (i : Int) < m.n
    · rw [if_pos ⟨rfl, hn⟩]
      exact macF_jump h hj (by omega) (by omega)
    · rw [if_neg (fun e => hn e.2)]
      have := hi hj (by omega)
      exact macF_jump (n' := m.n) h hj hb.1 (by omega)
theorem mem_gone {l : List Mac} {i : Nat} {m : Mac} (h : m ∈ goneL l i) : ∃ x ∈ l, m = decM i x := by
  unfold goneL at h
  obtain ⟨x, hx, e⟩ := List.mem_map.1 h
  exact ⟨x, List.mem_of_mem_eraseIdx hx, e.symm⟩
theorem MacsOk.gone {l : List Mac} (h : MacsOk l) {i : Nat} (hi : i + 1 < l.length) : MacsOk (goneL l i) where
  some_ := by rw [goneL_len (by omega)]; omega
  few := by rw [goneL_len (by omega)]; have := h.few; omega
  fine := fun m hm => by
    obtain ⟨x, hx, rfl⟩ := mem_gone hm
    rw [goneL_len (by omega)]
    exact macF_dec (h.fine x hx) h.some_ fun _ h1 => by omega
  last := by
    rw [goneL_len (by omega), atL_gone (by omega) (by omega), if_neg (by omega), decM_op, show l.length - 1 - 1 + 1 = l.length - 1 from by omega]
    exact h.last
theorem reach_lt {l : List Mac} (h0 : 0 < l.length) {i : Nat} (h : Reach l i) : i < l.length := by
  cases h with
  | first => exact h0
  | next _ _ h => exact h
theorem MacsOk.goneLast {l : List Mac} (h : MacsOk l) {i : Nat} (hi : i + 1 = l.length) (hr : ∀ j, j < i → Reach l j) (hn : ¬ Reach l i) : MacsOk (goneL l i) := by
  have hi0 : 0 < i := by
    rcases Nat.eq_zero_or_pos i with e | e
    · subst e; exact absurd Reach.first hn
    · exact e
  have hstep : ∀ j, j < i → ¬ stepsTo l j i := fun j hj hs => hn (.next (hr j hj) hs (by omega))
  refine ⟨?_, ?_, fun m hm => ?_, ?_⟩
  · rw [goneL_len (by omega)]; omega
  · rw [goneL_len (by omega)]; have := h.few; omega
  · unfold goneL at hm
    obtain ⟨x, hx, e⟩ := List.mem_map.1 hm
    obtain ⟨k, hk, hx'⟩ := List.mem_iff_getElem.1 hx
    rw [List.length_eraseIdx, if_pos (by omega)] at hk
    rw [List.getElem_eraseIdx, dif_pos (by omega)] at hx'
    rw [← e, goneL_len (by omega)]
    have hxl : x ∈ l := by rw [← hx']; exact List.getElem_mem _
    refine macF_dec (h.fine x hxl) h.some_ fun hj hle => ?_
    have hj' : 37 ≤ x.op ∧ x.op ≤ 43 := by unfold jumpsM at hj; simpa using hj
    have hb := (macF_ok (h.fine x hxl)).jump hj'.1 hj'.2
    rcases Int.lt_or_le x.n ((l.length : Int) - 1) with h1 | h1
    · exact h1
    · exact absurd ⟨by omega, .inr ⟨by rw [atL_get (by omega), hx']; exact hj, by rw [atL_get (by omega), hx']; omega⟩⟩ (hstep k (by omega))
  · rw [goneL_len (by omega), atL_gone (by omega) (by omega), if_pos (by omega), decM_op]
    by_cases e1 : (atL l (l.length - 1 - 1)).op = 37
    · exact .inl e1
    by_cases e2 : (atL l (l.length - 1 - 1)).op = 45
    · exact .inr e2
    exact absurd ⟨by omega, .inl ⟨e2, e1, by omega⟩⟩ (hstep (l.length - 1 - 1) (by omega))
theorem MacsOk.set {l : List Mac} (h : MacsOk l) {i : Nat} {m : Mac} (hi : i < l.length) (hm : macF m l.length = 0) (hl : i + 1 < l.length ∨ m.op = 37 ∨ m.op = 45) : MacsOk (l.set i m) where
  some_ := by rw [List.length_set]; exact h.some_
  few := by rw [List.length_set]; exact h.few
  fine := fun x hx => by
    rw [List.length_set]
    rcases List.mem_or_eq_of_mem_set hx with e | e
    · exact h.fine x e
    · rw [e]; exact hm
  last := by
    rw [List.length_set, atL_set hi]
    by_cases e : l.length - 1 = i
    · rw [if_pos e]; omega
    · rw [if_neg e]; exact h.last
theorem macF_move {d a : Int} {n : Int} (h1 : 0 ≤ d) (h2 : d ≤ 15) (h3 : 0 ≤ a) (h4 : a ≤ 15) : macF ⟨2, d, a, 0, 0⟩ n = 0 := by
  have e : shapeOf 2 = ⟨true, true, false, 0⟩ := by rfl
  unfold macF
  simp only [e, known, fieldF, numberF]
  simp
  omega
theorem macF_goto {k : Int} {n : Nat} (h1 : 0 ≤ k) (h2 : k < (n : Int)) : macF ⟨37, 0, 0, 0, k⟩ n = 0 := by
  have e : shapeOf 37 = ⟨false, false, false, 2⟩ := by rfl
  unfold macF
  simp only [e, known, fieldF, numberF]
  simp
  omega
theorem macF_if {op a b k : Int} {n : Nat} (ho : 40 ≤ op ∧ op ≤ 43) (h1 : 0 ≤ a) (h2 : a ≤ 15) (h3 : 0 ≤ b) (h4 : b ≤ 15) (h5 : 0 ≤ k) (h6 : k < (n : Int)) : macF ⟨op, 0, a, b, k⟩ n = 0 := by
  have e : shapeOf op = ⟨false, true, true, 2⟩ := by
    have : op = 40 ∨ op = 41 ∨ op = 42 ∨ op = 43 := by omega
    rcases this with e | e | e | e <;> subst e <;> rfl
  unfold macF
  simp only [e, known, fieldF, numberF]
  simp
  omega

/-! ### The rules, in their order -/
section
open Classical
noncomputable def reachB (l : List Mac) (i : Nat) : Bool := decide (Reach l i)
noncomputable def liveB (l : List Mac) (i r : Nat) : Bool := decide (Live l r i)
noncomputable def behB (l : List Mac) (i r : Nat) : Bool := decide (behindP l i r)
end
theorem reachB_iff {l : List Mac} {i : Nat} : reachB l i = true ↔ Reach l i := by unfold reachB; simp
theorem reachB_not {l : List Mac} {i : Nat} : reachB l i = false ↔ ¬ Reach l i := by unfold reachB; simp
theorem liveB_iff {l : List Mac} {i r : Nat} : liveB l i r = true ↔ Live l r i := by unfold liveB; simp
theorem behB_iff {l : List Mac} {i r : Nat} : behB l i r = true ↔ behindP l i r := by unfold behB; simp
def markB (l : List Mac) (k : Nat) : Bool := l.any fun m => jumpsM m && decide (m.n = (k : Int))
def besB (l : List Mac) (i : Nat) : Bool := decide (i + 1 < l.length) && !markB l (i + 1) && !decide ((atL l i).op = 37) && !decide ((atL l i).op = 45)
def getB (l : List Mac) (n : Int) : Bool := l.any fun o => decide (o.op = 35) && decide (o.n = n)
theorem besB_iff {l : List Mac} {i : Nat} : besB l i = true ↔ besideP l i := by
  unfold besB besideP markB
  simp only [Bool.and_eq_true, decide_eq_true_eq, Bool.not_eq_true', List.any_eq_false, decide_eq_false_iff_not]
  constructor
  · rintro ⟨⟨⟨h1, h2⟩, h3⟩, h4⟩
    refine ⟨h1, h3, h4, ?_⟩
    rintro ⟨k, hk, h5, h6⟩
    exact h2 _ (atL_in hk) (by simp [h5, h6])
  · rintro ⟨h1, h3, h4, h2⟩
    refine ⟨⟨⟨h1, fun x hx => ?_⟩, h3⟩, h4⟩
    obtain ⟨k, hk, e⟩ := in_atL hx
    intro h5
    simp at h5
    exact h2 ⟨k, hk, by rw [e]; exact h5.1, by rw [e]; exact h5.2⟩
noncomputable def lostR (l : List Mac) (i : Nat) : Option (List Mac) := if reachB l i = true then none else some (goneL l i)
def itselfR (l : List Mac) (i : Nat) : Option (List Mac) := if (atL l i).op = 2 ∧ (atL l i).dst = (atL l i).a then some (goneL l i) else none
def shortR (l : List Mac) (i : Nat) : Option (List Mac) := if jumpsM (atL l i) = true ∧ (atL l i).n = (i : Int) + 1 then some (goneL l i) else none
def withN (m : Mac) (n : Int) : Mac := ⟨m.op, m.dst, m.a, m.b, n⟩
def farTo (l : List Mac) (i : Nat) : Option Int :=
  if jumpsM (atL l i) = true then (match ledL l l.length (atL l i).n with | some t => if t = (atL l i).n then none else some t | none => none) else none
def farR (l : List Mac) (i : Nat) : Option (List Mac) := (farTo l i).map fun t => l.set i (withN (atL l i) t)
noncomputable def vainR (l : List Mac) (i : Nat) : Option (List Mac) := if quietM (atL l i) = true ∧ behB l i (atL l i).dst.toNat = false then some (goneL l i) else none
def unreadR (l : List Mac) (i : Nat) : Option (List Mac) := if (atL l i).op = 36 ∧ getB l (atL l i).n = false then some (goneL l i) else none
def againR (l : List Mac) (i : Nat) : Option (List Mac) :=
  if besB l i = true ∧ (atL l i).op = 36 ∧ (atL l (i + 1)).op = 35 ∧ (atL l (i + 1)).n = (atL l i).n then some (l.set (i + 1) ⟨2, (atL l (i + 1)).dst, (atL l i).a, 0, 0⟩) else none
def backR (l : List Mac) (i : Nat) : Option (List Mac) := if besB l i = true ∧ (atL l i).op = 2 ∧ atL l (i + 1) = ⟨2, (atL l i).a, (atL l i).dst, 0, 0⟩ then some (goneL l (i + 1)) else none
def sureR (l : List Mac) (i : Nat) : Option (List Mac) :=
  if besB l i = true ∧ (atL l i).op = 1 ∧ asksM (atL l (i + 1)) (atL l i).dst = true then
    (if (decide ((atL l i).n = 0) == decide ((atL l (i + 1)).op = 38)) = true then some (goneL l (i + 1)) else some (l.set (i + 1) ⟨37, 0, 0, 0, (atL l (i + 1)).n⟩))
  else none
noncomputable def fusedR (l : List Mac) (i : Nat) : Option (List Mac) :=
  if besB l i = true ∧ (15 ≤ (atL l i).op ∧ (atL l i).op ≤ 18) ∧ asksM (atL l (i + 1)) (atL l i).dst = true ∧ behB l (i + 1) (atL l i).dst.toNat = false then some (goneL (l.set (i + 1) (ifsM (atL l i) (atL l (i + 1)))) i) else none
def idleR (l : List Mac) (i : Nat) : Option (List Mac) := if idleM (atL l i) = true then some (l.set i ⟨2, (atL l i).dst, (atL l i).a, 0, 0⟩) else none
/-- Rule j, of 11. -/
noncomputable def ruleR (l : List Mac) (i : Nat) : Nat → Option (List Mac)
  | 0 => lostR l i | 1 => itselfR l i | 2 => shortR l i | 3 => farR l i | 4 => vainR l i | 5 => unreadR l i | 6 => againR l i | 7 => backR l i | 8 => sureR l i | 9 => fusedR l i | 10 => idleR l i | _ => none
noncomputable def firstR (l : List Mac) (i : Nat) : Option (List Mac) := (List.range 11).findSome? (ruleR l i)
noncomputable def onceP (l : List Mac) : Option (List Mac) := (List.range l.length).findSome? (firstR l)
theorem range_first {α : Type} {f : Nat → Option α} : ∀ (n j : Nat) (x : α), j < n → (∀ k, k < j → f k = none) → f j = some x → (List.range n).findSome? f = some x
  | 0, j, _, h, _, _ => by omega
  | n + 1, j, x, h, hk, hx => by
    rw [List.range_succ, List.findSome?_append]
    rcases Nat.lt_or_ge j n with h1 | h1
    · rw [range_first n j x h1 hk hx]
      rfl
    · obtain rfl : j = n := by omega
      have : (List.range j).findSome? f = none := by
        rw [List.findSome?_eq_none_iff]
        intro k hk'
        exact hk k (List.mem_range.1 hk')
      rw [this]
      simp [hx]
theorem range_none {α : Type} {f : Nat → Option α} {n : Nat} : (List.range n).findSome? f = none ↔ ∀ k, k < n → f k = none := by
  rw [List.findSome?_eq_none_iff]
  constructor
  · intro h k hk
    exact h k (List.mem_range.2 hk)
  · intro h k hk
    exact h k (List.mem_range.1 hk)
theorem range_some {α : Type} {f : Nat → Option α} {x : α} : ∀ (n : Nat), (List.range n).findSome? f = some x → ∃ j, j < n ∧ (∀ k, k < j → f k = none) ∧ f j = some x
  | 0, h => by simp at h
  | n + 1, h => by
    rw [List.range_succ, List.findSome?_append] at h
    cases h0 : (List.range n).findSome? f with
    | some y =>
      rw [h0] at h
      obtain rfl : y = x := by simpa using h
      obtain ⟨j, h1, h2, h3⟩ := range_some n h0
      exact ⟨j, by omega, h2, h3⟩
    | none =>
      rw [h0] at h
      refine ⟨n, by omega, range_none.1 h0, ?_⟩
      simpa using h
theorem firstR_hit {l : List Mac} {i j : Nat} {x : List Mac} (hj : j < 11) (h : ∀ k, k < j → ruleR l i k = none) (hx : ruleR l i j = some x) : firstR l i = some x := range_first 11 j x hj h hx
theorem firstR_none {l : List Mac} {i : Nat} (h : ∀ k, k < 11 → ruleR l i k = none) : firstR l i = none := range_none.2 h
theorem onceP_hit {l : List Mac} {i : Nat} {x : List Mac} (hi : i < l.length) (h : ∀ k, k < i → firstR l k = none) (hx : firstR l i = some x) : onceP l = some x := range_first _ i x hi h hx
theorem onceP_none {l : List Mac} (h : ∀ k, k < l.length → firstR l k = none) : onceP l = none := range_none.2 h

/-! ### Where jumps lead -/
theorem ledL_ok {l : List Mac} (h : MacsOk l) : ∀ (f : Nat) (k t : Int), 0 ≤ k → k < (l.length : Int) → ledL l f k = some t → 0 ≤ t ∧ t < (l.length : Int) ∧ (atL l t.toNat).op ≠ 37
  | 0, _, _, _, _, e => by cases e
  | f + 1, k, t, h0, h1, e => by
    rw [ledL] at e
    by_cases hj : (atL l k.toNat).op ≠ 37
    · rw [if_pos hj] at e
      cases e
      exact ⟨h0, h1, hj⟩
    · rw [if_neg hj] at e
      have hb := (h.at_ (i := k.toNat) (by omega)).jump (by omega) (by omega)
      exact ledL_ok h f _ t hb.1 hb.2 e

/-! ### Why it ends -/
def cN (m : Mac) : Bool := decide (m.op = 38 ∨ m.op = 39 ∨ m.op = 35 ∨ m.op = 19 ∨ m.op = 20 ∨ m.op = 21 ∨ m.op = 22 ∨ m.op = 25 ∨ m.op = 26 ∨ m.op = 27 ∨ m.op = 28)
def dN (l : List Mac) (m : Mac) : Bool := jumpsM m && decide ((atL l m.n.toNat).op = 37)
def msr (l : List Mac) : Nat := l.length * 36000000 + l.countP cN * 6000 + l.countP (dN l)
theorem countP_set_lt {p : Mac → Bool} : ∀ {l : List Mac} {i : Nat} {m : Mac} (h : i < l.length), p l[i] = true → p m = false → (l.set i m).countP p + 1 = l.countP p
  | x :: l, 0, m, h, h1, h2 => by
    simp at h1
    simp [List.countP_cons, h1, h2]
  | x :: l, i + 1, m, h, h1, h2 => by
    have := countP_set_lt (l := l) (i := i) (m := m) (p := p) (by simpa using h) (by simpa using h1) h2
    simp only [List.set_cons_succ, List.countP_cons]
    omega
theorem countP_set_eq {p : Mac → Bool} : ∀ {l : List Mac} {i : Nat} {m : Mac} (h : i < l.length), p l[i] = p m → (l.set i m).countP p = l.countP p
  | x :: l, 0, m, h, h1 => by
    simp at h1
    simp [List.countP_cons, h1]
  | x :: l, i + 1, m, h, h1 => by
    have := countP_set_eq (l := l) (i := i) (m := m) (p := p) (by simpa using h) (by simpa using h1)
    simp only [List.set_cons_succ, List.countP_cons]
    omega
theorem msr_short {l l' : List Mac} (h : l.length ≤ 5000) (h' : l'.length < l.length) : msr l' < msr l := by
  unfold msr
  have h1 := List.countP_le_length (p := cN) (l := l')
  have h2 := List.countP_le_length (p := dN l') (l := l')
  omega
theorem msr_set {l : List Mac} (h : l.length ≤ 5000) {i : Nat} {m : Mac} (hi : i < l.length) (h1 : cN (atL l i) = true) (h2 : cN m = false) : msr (l.set i m) < msr l := by
  unfold msr
  rw [atL_get hi] at h1
  have h3 := countP_set_lt hi h1 h2
  have h4 := List.countP_le_length (p := dN (l.set i m)) (l := l.set i m)
  rw [List.length_set] at h4 ⊢
  omega
theorem msr_far {l : List Mac} {i : Nat} {t : Int} (hi : i < l.length) (hj : jumpsM (atL l i) = true) (h37 : (atL l (atL l i).n.toNat).op = 37) (ht : (atL l t.toNat).op ≠ 37) : msr (l.set i (withN (atL l i) t)) < msr l := by
  have hop : ∀ k, (atL (l.set i (withN (atL l i) t)) k).op = (atL l k).op := fun k => by
    rw [atL_set hi]
    split
    · rename_i e; rw [e]; rfl
    · rfl
  have hd : dN (l.set i (withN (atL l i) t)) = dN l := by
    funext m
    unfold dN
    rw [hop]
  have h1 : (l.set i (withN (atL l i) t)).countP cN = l.countP cN := countP_set_eq hi (by rw [← atL_get hi]; rfl)
  have h2 := countP_set_lt (p := dN l) (m := withN (atL l i) t) hi (by rw [← atL_get hi]; unfold dN; simp [hj, h37]) (by unfold dN withN; simp [ht])
  unfold msr
  rw [h1, hd, List.length_set]
  omega

theorem op_not_last {l : List Mac} (h : MacsOk l) {i : Nat} (hi : i < l.length) (h1 : (atL l i).op ≠ 37) (h2 : (atL l i).op ≠ 45) : i + 1 < l.length := by
  rcases Nat.lt_or_ge (i + 1) l.length with h3 | h3
  · exact h3
  · obtain rfl : i = l.length - 1 := by omega
    rcases h.last with e | e
    · exact absurd e h1
    · exact absurd e h2
theorem quiet_op {m : Mac} (h : quietM m = true) : m.op ≠ 37 ∧ m.op ≠ 45 := by
  unfold quietM at h
  refine ⟨fun e => ?_, fun e => ?_⟩ <;> rw [e] at h <;> simp at h
theorem idle_op {m : Mac} (h : idleM m = true) : cN m = true ∧ m.op ≠ 37 ∧ m.op ≠ 45 ∧ 19 ≤ m.op ∧ m.op ≤ 28 := by
  unfold idleM at h
  unfold cN
  split at h
  · simp; omega
  · simp at h
    simp; omega
theorem asks_op {o : Mac} {r : Int} (h : asksM o r = true) : (o.op = 38 ∨ o.op = 39) ∧ o.a = r := by
  unfold asksM at h
  simpa using h
/-- A rule that fits, where the earlier instructions are reached. -/
theorem rule_ok {l l' : List Mac} (h : MacsOk l) {i j : Nat} (hi : i < l.length) (hr : ∀ k, k < i → Reach l k) (hx : ruleR l i j = some l') : MacsOk l' ∧ msr l' < msr l ∧ l'.length ≤ l.length := by
  have gone_ : ∀ k, k + 1 < l.length → MacsOk (goneL l k) ∧ msr (goneL l k) < msr l ∧ (goneL l k).length ≤ l.length := fun k hk =>
    ⟨h.gone hk, msr_short h.few (by rw [goneL_len (by omega)]; omega), by rw [goneL_len (by omega)]; omega⟩
  have set_ : ∀ k m, k + 1 < l.length → macF m l.length = 0 → cN (atL l k) = true → cN m = false → MacsOk (l.set k m) ∧ msr (l.set k m) < msr l ∧ (l.set k m).length ≤ l.length := fun k m hk hm h1 h2 =>
    ⟨h.set (by omega) hm (.inl hk), msr_set h.few (by omega) h1 h2, by rw [List.length_set]; exact Nat.le_refl _⟩
  have hm := h.at_ hi
  match j with
  | 0 =>
    simp only [ruleR, lostR] at hx
    split at hx
    · cases hx
    · rename_i hn
      cases hx
      have hn' : ¬ Reach l i := fun e => hn (reachB_iff.2 e)
      rcases Nat.lt_or_ge (i + 1) l.length with h1 | h1
      · exact gone_ i h1
      · exact ⟨h.goneLast (by omega) hr hn', msr_short h.few (by rw [goneL_len hi]; omega), by rw [goneL_len hi]; omega⟩
  | 1 =>
    simp only [ruleR, itselfR] at hx
    split at hx
    · rename_i hc
      cases hx
      exact gone_ i (op_not_last h hi (by omega) (by omega))
    · cases hx
  | 2 =>
    simp only [ruleR, shortR] at hx
    split at hx
    · rename_i hc
      cases hx
      have hj' : 37 ≤ (atL l i).op ∧ (atL l i).op ≤ 43 := by have := hc.1; unfold jumpsM at this; simpa using this
      have := hm.jump hj'.1 hj'.2
      exact gone_ i (by omega)
    · cases hx
  | 3 =>
    simp only [ruleR, farR, farTo] at hx
    split at hx
    · rename_i hj
      have hj' : 37 ≤ (atL l i).op ∧ (atL l i).op ≤ 43 := by unfold jumpsM at hj; simpa using hj
      have hb := hm.jump hj'.1 hj'.2
      split at hx
      · rename_i t ht
        split at hx
        · cases hx
        · rename_i hne
          simp at hx
          subst hx
          obtain ⟨h0, h1, h2⟩ := ledL_ok h _ _ _ hb.1 hb.2 ht
          have h37 : (atL l (atL l i).n.toNat).op = 37 := by
            rcases Nat.eq_zero_or_pos l.length with e | e
            · omega
            · obtain ⟨n, hn⟩ : ∃ n, l.length = n + 1 := ⟨l.length - 1, by omega⟩
              rw [hn, ledL] at ht
              split at ht
              · cases ht; exact absurd rfl hne
              · rename_i h3; simpa using h3
          refine ⟨h.set hi (macF_jump (h.fine _ (atL_in hi)) hj h0 h1) ?_, msr_far hi hj h37 h2, by rw [List.length_set]; exact Nat.le_refl _⟩
          rcases Nat.lt_or_ge (i + 1) l.length with h3 | h3
          · exact .inl h3
          · right
            show (atL l i).op = 37 ∨ (atL l i).op = 45
            have := h.last
            rwa [show l.length - 1 = i from by omega] at this
      · simp at hx
    · simp at hx
  | 4 =>
    simp only [ruleR, vainR] at hx
    split at hx
    · rename_i hc
      cases hx
      have := quiet_op hc.1
      exact gone_ i (op_not_last h hi this.1 this.2)
    · cases hx
  | 5 =>
    simp only [ruleR, unreadR] at hx
    split at hx
    · rename_i hc
      cases hx
      exact gone_ i (op_not_last h hi (by omega) (by omega))
    · cases hx
  | 6 =>
    simp only [ruleR, againR] at hx
    split at hx
    · rename_i hc
      cases hx
      have hb := (besB_iff.1 hc.1).1
      have h2 := h.at_ hb
      have h3 := op_not_last h hb (by omega) (by omega)
      exact set_ _ _ h3 (macF_move h2.dst0 h2.dst1 hm.a0 hm.a1) (by unfold cN; simp [hc.2.2.1]) (by rfl)
    · cases hx
  | 7 =>
    simp only [ruleR, backR] at hx
    split at hx
    · rename_i hc
      cases hx
      have hb := (besB_iff.1 hc.1).1
      have ho : (atL l (i + 1)).op = 2 := by rw [hc.2.2]
      exact gone_ _ (op_not_last h hb (by omega) (by omega))
    · cases hx
  | 8 =>
    simp only [ruleR, sureR] at hx
    split at hx
    · rename_i hc
      have hb := (besB_iff.1 hc.1).1
      have h2 := h.at_ hb
      have ho := (asks_op hc.2.2).1
      have h3 := op_not_last h hb (by omega) (by omega)
      have hj := h2.jump (by omega) (by omega)
      split at hx
      · cases hx
        exact gone_ _ h3
      · cases hx
        exact set_ _ _ h3 (macF_goto hj.1 hj.2) (by unfold cN; simp; omega) (by rfl)
    · cases hx
  | 9 =>
    simp only [ruleR, fusedR] at hx
    split at hx
    · rename_i hc
      cases hx
      have hb := (besB_iff.1 hc.1).1
      have h2 := h.at_ hb
      have ho := (asks_op hc.2.2.1).1
      have h3 := op_not_last h hb (by omega) (by omega)
      have hj := h2.jump (by omega) (by omega)
      have hs : macF (ifsM (atL l i) (atL l (i + 1))) l.length = 0 := by
        have h5 := hc.2.1
        unfold ifsM
        split
        · exact macF_if (by omega) hm.a0 hm.a1 hm.b0 hm.b1 hj.1 hj.2
        split
        · exact macF_if (by omega) hm.a0 hm.a1 hm.b0 hm.b1 hj.1 hj.2
        split
        · exact macF_if (by omega) hm.a0 hm.a1 hm.b0 hm.b1 hj.1 hj.2
        split
        · exact macF_if (by omega) hm.b0 hm.b1 hm.a0 hm.a1 hj.1 hj.2
        · exact macF_if (by omega) hm.b0 hm.b1 hm.a0 hm.a1 hj.1 hj.2
      have h4 := h.set hb hs (.inl h3)
      have hlen : (l.set (i + 1) (ifsM (atL l i) (atL l (i + 1)))).length = l.length := List.length_set
      refine ⟨h4.gone (by rw [hlen]; omega), msr_short h.few ?_, ?_⟩
      · rw [goneL_len (by rw [hlen]; omega), hlen]; omega
      · rw [goneL_len (by rw [hlen]; omega), hlen]; omega
    · cases hx
  | 10 =>
    simp only [ruleR, idleR] at hx
    split at hx
    · rename_i hc
      cases hx
      obtain ⟨h1, h2, h3, _⟩ := idle_op hc
      exact set_ _ _ (op_not_last h hi h2 h3) (macF_move hm.dst0 hm.dst1 hm.a0 hm.a1) h1 (by rfl)
    · cases hx
  | j + 11 => simp [ruleR] at hx
theorem onceP_at {l l' : List Mac} (h : onceP l = some l') : ∃ i j, i < l.length ∧ (∀ k, k < i → Reach l k) ∧ j < 11 ∧ ruleR l i j = some l' := by
  obtain ⟨i, hi, h1, h2⟩ := range_some _ h
  obtain ⟨j, hj, _, h3⟩ := range_some _ h2
  refine ⟨i, j, hi, fun k hk => ?_, hj, h3⟩
  have := range_none.1 (h1 k hk) 0 (by omega)
  simp only [ruleR, lostR] at this
  split at this
  · exact reachB_iff.1 (by assumption)
  · cases this
theorem onceP_ok {l l' : List Mac} (h : MacsOk l) (hx : onceP l = some l') : MacsOk l' ∧ msr l' < msr l ∧ l'.length ≤ l.length := by
  obtain ⟨i, j, hi, hr, _, hj⟩ := onceP_at hx
  exact rule_ok h hi hr hj
/-- The rules, till none fits. -/
noncomputable def peepF : Nat → List Mac → List Mac
  | 0, l => l
  | f + 1, l => match onceP l with
    | none => l
    | some x => peepF f x
noncomputable def peepL (l : List Mac) : List Mac := peepF (msr l) l
theorem peepF_more (f : Nat) : ∀ (g : Nat) {l : List Mac}, MacsOk l → msr l ≤ f → f ≤ g → peepF g l = peepF f l := by
  induction f with
  | zero =>
    intro g l h h1 h2
    cases g with
    | zero => rfl
    | succ g =>
      rw [peepF, peepF]
      cases hx : onceP l with
      | none => rfl
      | some x => have := (onceP_ok h hx).2.1; omega
  | succ f ih =>
    intro g l h h1 h2
    cases g with
    | zero => omega
    | succ g =>
      rw [peepF, peepF]
      cases hx : onceP l with
      | none => rfl
      | some x =>
        have h3 := onceP_ok h hx
        exact ih g h3.1 (by omega) (by omega)
theorem peepL_none {l : List Mac} (hx : onceP l = none) : peepL l = l := by
  unfold peepL
  cases msr l with
  | zero => rfl
  | succ n => rw [peepF, hx]
theorem peepL_some {l l' : List Mac} (h : MacsOk l) (hx : onceP l = some l') : peepL l = peepL l' := by
  have h3 := onceP_ok h hx
  unfold peepL
  obtain ⟨n, hn⟩ : ∃ n, msr l = n + 1 := ⟨msr l - 1, by omega⟩
  rw [hn, peepF, hx]
  exact peepF_more (msr l') n h3.1 (Nat.le_refl _) (by omega)
/-- What the rules leave, and what holds of it. -/
theorem peepL_end (n : Nat) : ∀ {l : List Mac}, MacsOk l → msr l ≤ n → MacsOk (peepL l) ∧ onceP (peepL l) = none ∧ (peepL l).length ≤ l.length := by
  induction n with
  | zero =>
    intro l h h1
    cases hx : onceP l with
    | none => rw [peepL_none hx]; exact ⟨h, hx, Nat.le_refl _⟩
    | some x => have := (onceP_ok h hx).2.1; omega
  | succ n ih =>
    intro l h h1
    cases hx : onceP l with
    | none => rw [peepL_none hx]; exact ⟨h, hx, Nat.le_refl _⟩
    | some x =>
      have h3 := onceP_ok h hx
      rw [peepL_some h hx]
      obtain ⟨a, b, c⟩ := ih h3.1 (by omega)
      exact ⟨a, b, by omega⟩
theorem peepL_ok {l : List Mac} (h : MacsOk l) : MacsOk (peepL l) := (peepL_end _ h (Nat.le_refl _)).1
theorem peepL_done {l : List Mac} (h : MacsOk l) : onceP (peepL l) = none := (peepL_end _ h (Nat.le_refl _)).2.1
theorem peepL_len {l : List Mac} (h : MacsOk l) : (peepL l).length ≤ l.length := (peepL_end _ h (Nat.le_refl _)).2.2
theorem peepL_again {l : List Mac} (h : MacsOk l) : peepL (peepL l) = peepL l := peepL_none (peepL_done h)
end Go.Proofs.YtkcmijnaheapdaaDoor
