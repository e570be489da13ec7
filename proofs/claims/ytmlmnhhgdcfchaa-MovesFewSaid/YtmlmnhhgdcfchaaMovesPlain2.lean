/- Moves, plainly: rows of moves that were made of raw numbers. -/
import Derived.Test.YtmlmnhhgdcfchaaMoves9
namespace Go.Proofs.Ytmlmnhhgdcfchaa
set_option linter.unusedSimpArgs false
set_option linter.unusedVariables false

/-- Moves among ten places, no two to one. -/
def Ten (l : List Move) : Prop := (l.map Move.to).Nodup ∧ ∀ m ∈ l, 0 ≤ m.to ∧ m.to ≤ 9 ∧ 0 ≤ m.src ∧ m.src ≤ 9

theorem ten_add {l : List Move} {a : Int} (h : Ten l) : Ten (addMove l (pick10 a)) := by
  unfold addMove
  split
  · exact h
  · rename_i hn
    refine ⟨?_, fun m hm => ?_⟩
    · rw [List.map_append, List.nodup_append]
      refine ⟨h.1, by simp, ?_⟩
      intro x hx y hy
      simp at hy
      subst hy
      obtain ⟨o, ho, rfl⟩ := List.mem_map.1 hx
      intro e
      exact hn (List.any_eq_true.2 ⟨o, ho, by simp [e]⟩)
    · rcases List.mem_append.1 hm with hm | hm
      · exact h.2 m hm
      · simp at hm
        subst hm
        simp only [pick10]
        omega
theorem ten_movesOf (xs : List Int) : Ten (movesOf xs) := by
  unfold movesOf
  generalize xs.take 20 = ys
  have : ∀ (ys : List Int) (out : List Move), Ten out → Ten (ys.foldl (fun out a => addMove out (pick10 a)) out) := by
    intro ys
    induction ys with
    | nil => intro out h; exact h
    | cons a ys ih => intro out h; exact ih _ (ten_add h)
  exact this ys [] ⟨by simp, by simp⟩

theorem nodup_range_le : ∀ (n : Nat) (ks : List Int), ks.Nodup → (∀ k ∈ ks, 0 ≤ k ∧ k < n) → ks.length ≤ n
  | 0, ks, _, h => by
    cases ks with
    | nil => simp
    | cons k ks => have := h k (by simp); omega
  | n + 1, ks, hn, h => by
    have h1 := nodup_range_le n (ks.erase (n : Int)) (hn.erase _) (fun k hk => by
      have h2 := h k (List.mem_of_mem_erase hk)
      have h3 : k ≠ (n : Int) := fun e => by
        rw [e] at hk
        exact (hn.not_mem_erase) hk
      omega)
    have := List.length_erase (a := (n : Int)) (l := ks)
    split at this <;> omega
theorem ten_length {l : List Move} (h : Ten l) : l.length ≤ 10 := by
  have := nodup_range_le 10 (l.map Move.to) h.1 (fun k hk => by
    obtain ⟨m, hm, rfl⟩ := List.mem_map.1 hk
    have := h.2 m hm
    omega)
  simpa using this
theorem ten_fine {l : List Move} (h : Ten l) : Fine 10 l := ⟨h.1, fun m hm => by have := h.2 m hm; omega⟩

theorem movesFrom_fine {l : List Move} {spare : Int} (hn : (l.map Move.to).Nodup) (h : ∀ m ∈ l, 0 ≤ m.to ∧ m.to ≤ 999 ∧ 0 ≤ m.src ∧ m.src ≤ 999 ∧ m.to ≠ spare ∧ m.src ≠ spare) (hs : 0 ≤ spare ∧ spare ≤ 999) : ∀ (m i : Nat), i + m = l.length → movesFrom l spare m i = (0, 0)
  | 0, i, _ => by rw [movesFrom, if_pos hs]
  | m + 1, i, hi => by
    have hlt : i < l.length := by omega
    have hm := h l[i] (List.getElem_mem hlt)
    have hg : l.getD i Move.zero = l[i] := by rw [List.getD_eq_getElem?_getD, List.getElem?_eq_getElem hlt]; rfl
    rw [movesFrom, hg, if_neg (by omega), if_neg, if_neg (by omega), movesFrom_fine hn h hs m (i + 1) (by omega)]
    intro ha
    obtain ⟨o, ho, e⟩ := List.any_eq_true.1 ha
    obtain ⟨j, hj, rfl⟩ := List.mem_take_iff_getElem.1 ho
    simp only [beq_iff_eq] at e
    have hp := List.pairwise_iff_getElem.1 (List.pairwise_map.1 (List.nodup_iff_pairwise_ne.1 hn)) j i (by omega) hlt (by omega)
    exact hp e
theorem ten_fault {l : List Move} (h : Ten l) : movesFault l 10 = (0, 0) := by
  have := ten_length h
  rw [movesFault, if_neg (by omega)]
  exact movesFrom_fine h.1 (fun m hm => by have := h.2 m hm; omega) (by omega) _ _ (by omega)

theorem rowN_range {spare : Int} {P : Int → Prop} (hs : P spare) : ∀ (n : Nat) (l : List Move), (∀ m ∈ l, P m.to ∧ P m.src) → ∀ m ∈ rowN spare n l, P m.to ∧ P m.src
  | 0, l, _, m, hm => by cases hm
  | n + 1, l, h, m, hm => by
    cases hfi : l.findIdx? (freeIn l) with
    | some i =>
      rw [rowN_some hfi] at hm
      rcases List.mem_cons.1 hm with rfl | hm
      · exact h _ (mu_some hfi).2.2.2
      · exact rowN_range hs n _ (fun o ho => h o (List.mem_of_mem_eraseIdx ho)) m hm
    | none =>
      by_cases hl : l = []
      · subst hl
        rw [rowN_nil] at hm
        cases hm
      · rw [rowN_none hfi hl] at hm
        obtain ⟨a, t, rfl⟩ := List.exists_cons_of_ne_nil hl
        rw [List.getD_cons_zero] at hm
        rcases List.mem_cons.1 hm with rfl | hm
        · exact ⟨hs, (h a (by simp)).2⟩
        · refine rowN_range hs n _ (fun o ho => ?_) m hm
          obtain ⟨q, hq, rfl⟩ := List.mem_map.1 ho
          have := h q hq
          split
          · exact ⟨this.1, hs⟩
          · exact this
theorem row_range {l : List Move} (h : Ten l) : ∀ m ∈ row 10 l, 0 ≤ m.to ∧ m.to ≤ 10 ∧ 0 ≤ m.src ∧ m.src ≤ 10 := by
  intro m hm
  have := rowN_range (spare := 10) (P := fun i => 0 ≤ i ∧ i ≤ 10) (by omega) (mu (movers l)) (movers l) (fun o ho => by have := h.2 o (List.mem_filter.1 ho).1; omega) m hm
  omega

/-! ### Places -/
theorem setPlace_at (ws : List Int) (hw : ws.length = 11) (m : Move) (h : 0 ≤ m.to ∧ m.to ≤ 10 ∧ 0 ≤ m.src ∧ m.src ≤ 10) (i : Int) (hi : 0 ≤ i ∧ i ≤ 10) : (setPlace ws m).getD i.toNat 0 = put (fun j => ws.getD j.toNat 0) m i := by
  unfold setPlace put
  by_cases he : i = m.to
  · rw [if_pos he, he, List.getD_eq_getElem?_getD, List.getElem?_set_self (by omega)]
    rfl
  · rw [if_neg he, List.getD_eq_getElem?_getD, List.getElem?_set_ne (by omega)]
    exact (List.getD_eq_getElem?_getD).symm
theorem done_congr : ∀ (l : List Move) (s t : Int → Int), (∀ i, 0 ≤ i → i ≤ 10 → s i = t i) → (∀ m ∈ l, 0 ≤ m.to ∧ m.to ≤ 10 ∧ 0 ≤ m.src ∧ m.src ≤ 10) → ∀ i, 0 ≤ i → i ≤ 10 → done s l i = done t l i
  | [], s, t, h, _, i, h1, h2 => h i h1 h2
  | m :: l, s, t, h, hr, i, h1, h2 => by
    show done (put s m) l i = done (put t m) l i
    have hm := hr m (by simp)
    refine done_congr l _ _ (fun j g1 g2 => ?_) (fun o ho => hr o (by simp [ho])) i h1 h2
    unfold put
    split
    · exact h _ hm.2.2.1 hm.2.2.2
    · exact h j g1 g2
theorem placed_done : ∀ (l : List Move) (ws : List Int), ws.length = 11 → (∀ m ∈ l, 0 ≤ m.to ∧ m.to ≤ 10 ∧ 0 ≤ m.src ∧ m.src ≤ 10) → ∀ i, 0 ≤ i → i ≤ 10 → (l.foldl setPlace ws).getD i.toNat 0 = done (fun j => ws.getD j.toNat 0) l i
  | [], ws, _, _, i, _, _ => rfl
  | m :: l, ws, hw, hr, i, h1, h2 => by
    have hm := hr m (by simp)
    have hr' : ∀ o ∈ l, 0 ≤ o.to ∧ o.to ≤ 10 ∧ 0 ≤ o.src ∧ o.src ≤ 10 := fun o ho => hr o (by simp [ho])
    rw [List.foldl_cons, placed_done l _ (by rw [setPlace_length, hw]) hr' i h1 h2]
    show _ = done (put _ m) l i
    exact done_congr l _ _ (fun j g1 g2 => setPlace_at ws hw m hm j ⟨g1, g2⟩) hr' i h1 h2

theorem wanted_movers {s : Int → Int} {l : List Move} (h : (l.map Move.to).Nodup) (i : Int) : wanted s (movers l) i = wanted s l i := by
  by_cases hex : ∃ m ∈ l, m.to = i
  · obtain ⟨m, hm, rfl⟩ := hex
    rw [wanted_of h hm]
    by_cases hs : m.to = m.src
    · rw [wanted_not, hs]
      intro o ho e
      obtain ⟨ho1, ho2⟩ := List.mem_filter.1 ho
      have h1 := find_to h ho1
      have h2 := find_to h hm
      rw [e] at h1
      rw [h1] at h2
      injection h2 with h2
      subst h2
      simp [hs] at ho2
    · exact wanted_of ((List.filter_sublist.map Move.to).nodup h) (List.mem_filter.2 ⟨hm, by simp [hs]⟩)
  · rw [wanted_not (l := movers l) (fun o ho e => hex ⟨o, (List.mem_filter.1 ho).1, e⟩), wanted_not (l := l) (fun o ho e => hex ⟨o, ho, e⟩)]

/-- What a place is to hold, as the law reckons it. -/
def wantAt (i : Int) (acc : Int) (m : Move) : Int := if m.to = i then 100 + m.src else acc
theorem wantAt_not (i : Int) : ∀ (l : List Move) (acc : Int), (∀ m ∈ l, m.to ≠ i) → l.foldl (wantAt i) acc = acc
  | [], acc, _ => rfl
  | m :: l, acc, h => by
    rw [List.foldl_cons, wantAt, if_neg (h m (by simp))]
    exact wantAt_not i l acc fun o ho => h o (by simp [ho])
theorem wantAt_all (i : Int) : ∀ (l : List Move) (acc : Int), (l.map Move.to).Nodup → l.foldl (wantAt i) acc = match l.find? (fun m => m.to == i) with | some m => 100 + m.src | none => acc
  | [], acc, _ => rfl
  | m :: l, acc, h => by
    rw [List.map_cons, List.nodup_cons] at h
    rw [List.foldl_cons, List.find?_cons]
    by_cases hm : m.to = i
    · subst hm
      simp only [beq_self_eq_true]
      rw [wantAt, if_pos rfl, wantAt_not]
      intro o ho e
      exact h.1 (by rw [← e]; exact List.mem_map.2 ⟨o, ho, rfl⟩)
    · rw [wantAt, if_neg hm, show (m.to == i) = false from by simp [hm]]
      exact wantAt_all i l acc h.2

theorem tens_at {i : Int} (h : 0 ≤ i ∧ i ≤ 10) : tens.getD i.toNat 0 = 100 + i := by
  obtain ⟨k, rfl⟩ := Int.eq_ofNat_of_zero_le h.1
  have hk : k < 11 := by omega
  simp [tens, List.getD_eq_getElem?_getD, hk]

/-- A ROW DOES WHAT IS DONE AT ONE TIME. -/
theorem placed_wanted {l : List Move} (h : Ten l) {i : Nat} (hi : i < 10) : (placedL (row 10 l)).getD i 0 = l.foldl (wantAt (i : Int)) (100 + (i : Int)) := by
  have hp := placed_done (row 10 l) tens rfl (row_range h) (i : Int) (by omega) (by omega)
  rw [show ((i : Int)).toNat = i from rfl] at hp
  rw [placedL, hp, row, row_does _ _ _ _ (fine_movers (ten_fine h)) (by omega) (by omega), wanted_movers h.1, wantAt_all _ _ _ h.1, wanted]
  cases hfi : l.find? (fun m => m.to == (i : Int)) with
  | none => exact tens_at (by omega)
  | some m =>
    have := h.2 m (List.mem_of_find?_eq_some hfi)
    exact tens_at (by omega)
end Go.Proofs.Ytmlmnhhgdcfchaa
