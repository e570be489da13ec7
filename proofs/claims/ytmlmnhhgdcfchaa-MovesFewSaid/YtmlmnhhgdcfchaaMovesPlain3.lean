/- Moves, plainly: moves that go down. -/
import Derived.Test.YtmlmnhhgdcfchaaMovesPlain2
namespace Go.Proofs.Ytmlmnhhgdcfchaa
set_option linter.unusedSimpArgs false
set_option linter.unusedVariables false

/-- Each from a greater place to a lesser one. -/
def Down (l : List Move) : Prop := ∀ m ∈ l, m.to < m.src ∧ 0 ≤ m.src ∧ m.src ≤ 9

theorem down_some {spare : Int} {l : List Move} (hf : Fine spare l) (hd : Down l) (hl : l ≠ []) : ∃ i, l.findIdx? (freeIn l) = some i := by
  cases h : l.findIdx? (freeIn l) with
  | some i => exact ⟨i, rfl⟩
  | none =>
    have hr := all_round hf h
    have hex : ∀ n : Nat, ∃ m ∈ l, (n : Int) ≤ m.src := by
      intro n
      induction n with
      | zero =>
        obtain ⟨m, t, rfl⟩ := List.exists_cons_of_ne_nil hl
        exact ⟨m, by simp, (hd m (by simp)).2.1⟩
      | succ n ih =>
        obtain ⟨m, hm, hn⟩ := ih
        obtain ⟨o, ho, e⟩ := hr m hm
        have := hd o ho
        exact ⟨o, ho, by omega⟩
    obtain ⟨m, hm, hn⟩ := hex 10
    have := hd m hm
    omega

theorem down_row {spare : Int} : ∀ (n : Nat) (l : List Move), Fine spare l → Down l → mu l ≤ n + 1 → (rowN spare n l).length = l.length ∧ (∀ x ∈ rowN spare n l, x ∈ l) ∧ (rowN spare n l).Pairwise (fun a b => b.src ≠ a.to)
  | 0, l, _, _, h => by
    have : l = [] := List.eq_nil_of_length_eq_zero (by unfold mu at h; omega)
    subst this
    exact ⟨rfl, (fun x hx => by cases hx), List.Pairwise.nil⟩
  | n + 1, l, hf, hd, h => by
    by_cases hl : l = []
    · subst hl
      rw [rowN_nil]
      exact ⟨rfl, (fun x hx => by cases hx), List.Pairwise.nil⟩
    · obtain ⟨i, hi⟩ := down_some hf hd hl
      obtain ⟨h1, h2, h3, h4⟩ := mu_some hi
      obtain ⟨e1, e2, e3⟩ := down_row n (l.eraseIdx i) (fine_erase hf) (fun m hm => hd m (List.mem_of_mem_eraseIdx hm)) (by omega)
      rw [rowN_some hi]
      refine ⟨by rw [List.length_cons, e1, List.length_eraseIdx, if_pos h2]; omega, fun x hx => ?_, List.pairwise_cons.2 ⟨fun x hx => ?_, e3⟩⟩
      · rcases List.mem_cons.1 hx with rfl | hx
        · exact h4
        · exact List.mem_of_mem_eraseIdx (e2 x hx)
      · simp only [freeIn, Bool.not_eq_true', List.any_eq_false, beq_iff_eq] at h3
        exact h3 x (List.mem_of_mem_eraseIdx (e2 x hx))

def downs (l : List Move) : List Move := l.filter fun m => decide (m.to < m.src)
theorem ten_downs {l : List Move} (h : Ten l) : Ten (downs l) := ⟨(List.filter_sublist.map Move.to).nodup h.1, fun m hm => h.2 m (List.mem_filter.1 hm).1⟩
theorem down_downs {l : List Move} (h : Ten l) : Down (downs l) := fun m hm => by
  obtain ⟨h1, h2⟩ := List.mem_filter.1 hm
  have := h.2 m h1
  simp at h2
  omega
theorem movers_downs (l : List Move) : movers (downs l) = downs l := List.filter_eq_self.2 fun m hm => by
  obtain ⟨_, h2⟩ := List.mem_filter.1 hm
  simp at h2 ⊢
  omega
theorem row_downs {l : List Move} (h : Ten l) : (row 10 (downs l)).length = (downs l).length ∧ ∀ (i j : Nat) (a b : Move), i < j → (row 10 (downs l))[i]? = some a → (row 10 (downs l))[j]? = some b → b.src ≠ a.to := by
  unfold row
  rw [movers_downs]
  obtain ⟨h1, _, h3⟩ := down_row (spare := 10) (mu (downs l)) (downs l) (ten_fine (ten_downs h)) (down_downs h) (by omega)
  refine ⟨h1, fun i j a b hij ha hb => ?_⟩
  obtain ⟨hi, rfl⟩ := List.getElem?_eq_some_iff.1 ha
  obtain ⟨hj, rfl⟩ := List.getElem?_eq_some_iff.1 hb
  exact List.pairwise_iff_getElem.1 h3 i j hi hj hij

/-! ### A ring -/
def roundL (n f : Nat) : List Move := (List.range n).map fun i => ⟨(((i + f) % n : Nat) : Int), ((((i + f) % n + 1) % n : Nat) : Int)⟩
theorem ring_all : ∀ p, p < 8 → ∀ f, f < p + 2 → movesFault (roundL (p + 2) f) 10 = (0, 0) ∧ ((roundL (p + 2) f).map Move.to).Nodup ∧ (∀ m ∈ roundL (p + 2) f, 0 ≤ m.to ∧ m.to ≤ 9 ∧ 0 ≤ m.src ∧ m.src ≤ 9) ∧ (row 10 (roundL (p + 2) f)).length = p + 3 ∧
    ∀ i, i < p + 2 → (placedL (row 10 (roundL (p + 2) f))).getD i 0 = 100 + (((i + 1) % (p + 2) : Nat) : Int) := by decide +kernel
end Go.Proofs.Ytmlmnhhgdcfchaa
