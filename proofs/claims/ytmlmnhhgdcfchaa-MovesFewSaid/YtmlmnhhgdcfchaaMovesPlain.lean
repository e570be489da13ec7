/- Moves, plainly: the row, by lists alone. -/
import Derived.Test.YtmlmnhhgdcfchaaMoves1
namespace Go.Proofs.Ytmlmnhhgdcfchaa
set_option linter.unusedSimpArgs false
set_option linter.unusedVariables false

def freeIn (l : List Move) (m : Move) : Bool := !(l.any (fun o => o.src == m.to))
def respare (spare src : Int) (l : List Move) : List Move := l.map fun m => if m.src = src then ⟨m.to, spare⟩ else m
def rowN (spare : Int) : Nat → List Move → List Move
  | 0, _ => []
  | n + 1, l => match l.findIdx? (freeIn l) with
    | some i => l.getD i Move.zero :: rowN spare n (l.eraseIdx i)
    | none => if l = [] then [] else ⟨spare, (l.getD 0 Move.zero).src⟩ :: rowN spare n (respare spare (l.getD 0 Move.zero).src l)
def mu (l : List Move) : Nat := 2 * l.length + (if l.any (freeIn l) then 0 else 1)
/-- Moves that may be: no two to one place, none to the spare one. -/
def Fine (spare : Int) (l : List Move) : Prop := (l.map Move.to).Nodup ∧ ∀ m ∈ l, m.to ≠ spare

theorem subset_of_nodup {α : Type} [DecidableEq α] : ∀ (xs ys : List α), xs.Nodup → (∀ x ∈ xs, x ∈ ys) → ys.length ≤ xs.length → ∀ y ∈ ys, y ∈ xs
  | [], ys, _, _, hl, y, hy => by
    have : ys = [] := List.eq_nil_of_length_eq_zero (by simpa using hl)
    subst this
    cases hy
  | x :: xs, ys, hn, hs, hl, y, hy => by
    rw [List.nodup_cons] at hn
    have hx : x ∈ ys := hs x (by simp)
    by_cases hxy : y = x
    · simp [hxy]
    · have hlen : (ys.erase x).length = ys.length - 1 := List.length_erase_of_mem hx
      have := subset_of_nodup xs (ys.erase x) hn.2 (fun z hz => by
        rw [List.mem_erase_of_ne (by rintro rfl; exact hn.1 hz)]
        exact hs z (by simp [hz])) (by simp at hl; omega) y (by rw [List.mem_erase_of_ne hxy]; exact hy)
      simp [this]

theorem rowN_nil (spare : Int) (n : Nat) : rowN spare n [] = [] := by cases n <;> simp [rowN]
theorem rowN_some {spare : Int} {n i : Nat} {l : List Move} (h : l.findIdx? (freeIn l) = some i) : rowN spare (n + 1) l = l.getD i Move.zero :: rowN spare n (l.eraseIdx i) := by rw [rowN, h]
theorem rowN_none {spare : Int} {n : Nat} {l : List Move} (h : l.findIdx? (freeIn l) = none) (hl : l ≠ []) : rowN spare (n + 1) l = ⟨spare, (l.getD 0 Move.zero).src⟩ :: rowN spare n (respare spare (l.getD 0 Move.zero).src l) := by
  rw [rowN, h]
  simp only [if_neg hl]

theorem mu_some {i : Nat} {l : List Move} (h : l.findIdx? (freeIn l) = some i) : mu (l.eraseIdx i) < mu l ∧ i < l.length ∧ freeIn l (l.getD i Move.zero) = true ∧ l.getD i Move.zero ∈ l := by
  obtain ⟨hi, hp, _⟩ := List.findIdx?_eq_some_iff_getElem.1 h
  have ha : l.any (freeIn l) = true := List.any_eq_true.2 ⟨_, List.getElem_mem hi, hp⟩
  have e : l.getD i Move.zero = l[i] := by rw [List.getD_eq_getElem?_getD, List.getElem?_eq_getElem hi]; rfl
  refine ⟨?_, hi, by rw [e]; exact hp, by rw [e]; exact List.getElem_mem hi⟩
  unfold mu
  rw [ha, List.length_eraseIdx, if_pos hi]
  split <;> simp <;> omega

/-- Where nothing is free all goes round: what is moved from is moved to, and nothing is at the spare place. -/
theorem all_round {spare : Int} {l : List Move} (hf : Fine spare l) (h : l.findIdx? (freeIn l) = none) : ∀ m ∈ l, ∃ o ∈ l, o.to = m.src := by
  rw [List.findIdx?_eq_none_iff] at h
  have hs : ∀ x ∈ l.map Move.to, x ∈ l.map Move.src := by
    intro x hx
    obtain ⟨m, hm, rfl⟩ := List.mem_map.1 hx
    have := h m hm
    simp only [freeIn, Bool.not_eq_false', List.any_eq_true, beq_iff_eq] at this
    obtain ⟨o, ho, e⟩ := this
    exact List.mem_map.2 ⟨o, ho, e⟩
  intro m hm
  have := subset_of_nodup (l.map Move.to) (l.map Move.src) hf.1 hs (by simp) m.src (List.mem_map.2 ⟨m, hm, rfl⟩)
  obtain ⟨o, ho, e⟩ := List.mem_map.1 this
  exact ⟨o, ho, e⟩

theorem respare_to (spare src : Int) (l : List Move) : (respare spare src l).map Move.to = l.map Move.to := by
  unfold respare
  rw [List.map_map]
  apply List.map_congr_left
  intro m _
  simp only [Function.comp]
  split <;> rfl
theorem respare_length (spare src : Int) (l : List Move) : (respare spare src l).length = l.length := by simp [respare]
theorem fine_respare {spare src : Int} {l : List Move} (hf : Fine spare l) : Fine spare (respare spare src l) := by
  refine ⟨by rw [respare_to]; exact hf.1, fun m hm => ?_⟩
  obtain ⟨o, ho, rfl⟩ := List.mem_map.1 hm
  split
  · exact hf.2 o ho
  · exact hf.2 o ho
theorem fine_erase {spare : Int} {i : Nat} {l : List Move} (hf : Fine spare l) : Fine spare (l.eraseIdx i) := by
  refine ⟨?_, fun m hm => hf.2 m (List.mem_of_mem_eraseIdx hm)⟩
  have hs : (l.eraseIdx i).Sublist l := List.eraseIdx_sublist l i
  exact (hs.map Move.to).nodup hf.1

theorem mu_none {spare : Int} {l : List Move} (hf : Fine spare l) (h : l.findIdx? (freeIn l) = none) (hl : l ≠ []) : mu (respare spare (l.getD 0 Move.zero).src l) < mu l := by
  have hr := all_round hf h
  have hn : l.any (freeIn l) = false := by
    rw [List.findIdx?_eq_none_iff] at h
    rw [List.any_eq_false]
    intro m hm
    simp [h m hm]
  obtain ⟨m0, t, rfl⟩ := List.exists_cons_of_ne_nil hl
  rw [List.getD_cons_zero]
  obtain ⟨o, ho, e⟩ := hr m0 (by simp)
  have hsp : spare ≠ m0.src := fun e' => hf.2 o ho (by rw [e, e'])
  have hfree : (respare spare m0.src (m0 :: t)).any (freeIn (respare spare m0.src (m0 :: t))) = true := by
    rw [List.any_eq_true]
    have hmem : o.to ∈ (respare spare m0.src (m0 :: t)).map Move.to := by rw [respare_to]; exact List.mem_map.2 ⟨o, ho, rfl⟩
    obtain ⟨o', ho', e'⟩ := List.mem_map.1 hmem
    refine ⟨o', ho', ?_⟩
    simp only [freeIn, Bool.not_eq_true', List.any_eq_false, beq_iff_eq]
    intro q hq
    obtain ⟨q', _, rfl⟩ := List.mem_map.1 hq
    rw [e', e]
    split
    · exact hsp
    · assumption
  unfold mu
  rw [hn, hfree, respare_length]
  simp

/-! ### What a row does -/
def put (s : Int → Int) (m : Move) : Int → Int := fun i => if i = m.to then s m.src else s i
def done (s : Int → Int) (l : List Move) : Int → Int := l.foldl put s
def wanted (s : Int → Int) (l : List Move) (i : Int) : Int := match l.find? (fun m => m.to == i) with
  | some m => s m.src
  | none => s i

theorem find_to {l : List Move} (hn : (l.map Move.to).Nodup) {m : Move} (hm : m ∈ l) : l.find? (fun o => o.to == m.to) = some m := by
  induction l with
  | nil => cases hm
  | cons a l ih =>
    rw [List.map_cons, List.nodup_cons] at hn
    rw [List.find?_cons]
    rcases List.mem_cons.1 hm with rfl | hm
    · simp
    · have : (a.to == m.to) = false := by
        rw [beq_eq_false_iff_ne]
        intro e
        exact hn.1 (by rw [e]; exact List.mem_map.2 ⟨m, hm, rfl⟩)
      rw [this]
      exact ih hn.2 hm
theorem wanted_of {s : Int → Int} {l : List Move} (hn : (l.map Move.to).Nodup) {m : Move} (hm : m ∈ l) : wanted s l m.to = s m.src := by rw [wanted, find_to hn hm]
theorem wanted_not {s : Int → Int} {l : List Move} {i : Int} (h : ∀ m ∈ l, m.to ≠ i) : wanted s l i = s i := by
  rw [wanted, List.find?_eq_none.2 (fun m hm => by simpa using h m hm)]

theorem erase_perm {α : Type} {l : List α} {k : Nat} (hk : k < l.length) : l.Perm (l[k] :: l.eraseIdx k) := by
  have h : l = l.take k ++ l[k] :: l.drop (k + 1) := by rw [← List.drop_eq_getElem_cons hk, List.take_append_drop]
  have h2 : (l.take k ++ l[k] :: l.drop (k + 1)).Perm (l[k] :: (l.take k ++ l.drop (k + 1))) := List.perm_middle
  rw [← List.eraseIdx_eq_take_drop_succ, ← h] at h2
  exact h2

theorem row_does {spare : Int} : ∀ (n : Nat) (l : List Move) (s : Int → Int) (i : Int), Fine spare l → mu l ≤ n + 1 → i ≠ spare → done s (rowN spare n l) i = wanted s l i
  | 0, l, s, i, hf, hm, hi => by
    have : l = [] := List.eq_nil_of_length_eq_zero (by unfold mu at hm; omega)
    subst this
    rfl
  | n + 1, l, s, i, hf, hm, hi => by
    cases h : l.findIdx? (freeIn l) with
    | some k =>
      obtain ⟨h1, hk, hfree, hmem⟩ := mu_some h
      rw [rowN_some h]
      show done (put s (l.getD k Move.zero)) (rowN spare n (l.eraseIdx k)) i = _
      rw [row_does n _ _ i (fine_erase hf) (by omega) hi]
      generalize hmk : l.getD k Move.zero = m at *
      have hmk' : l[k] = m := by rw [← hmk, List.getD_eq_getElem?_getD, List.getElem?_eq_getElem hk]; rfl
      have hfr : ∀ o ∈ l, o.src ≠ m.to := by
        intro o ho
        simp only [freeIn, Bool.not_eq_true', List.any_eq_false, beq_iff_eq] at hfree
        exact hfree o ho
      have hother : ∀ o ∈ l.eraseIdx k, o.to ≠ m.to := by
        intro o ho e
        have hp : l.Perm (m :: l.eraseIdx k) := by
          rw [← hmk']
          exact erase_perm hk
        have := (hp.map Move.to).nodup_iff.1 hf.1
        rw [List.map_cons, List.nodup_cons] at this
        exact this.1 (by rw [← e]; exact List.mem_map.2 ⟨o, ho, rfl⟩)
      by_cases him : i = m.to
      · subst him
        rw [wanted_of hf.1 hmem, wanted_not hother]
        simp [put]
      · by_cases hex : ∃ o ∈ l.eraseIdx k, o.to = i
        · obtain ⟨o, ho, rfl⟩ := hex
          have ho' : o ∈ l := List.mem_of_mem_eraseIdx ho
          rw [wanted_of (fine_erase hf).1 ho, wanted_of hf.1 ho']
          simp [put, hfr o ho']
        · rw [wanted_not (fun o ho e => hex ⟨o, ho, e⟩), wanted_not (fun o ho e => ?_)]
          · simp [put, him]
          · have hp : l.Perm (m :: l.eraseIdx k) := by
              rw [← hmk']
              exact erase_perm hk
            rcases List.mem_cons.1 (hp.mem_iff.1 ho) with rfl | ho2
            · exact him e.symm
            · exact hex ⟨o, ho2, e⟩
    | none =>
      by_cases hl : l = []
      · subst hl
        rw [rowN_nil]
        rfl
      · have h1 := mu_none hf h hl
        have hr := all_round hf h
        rw [rowN_none h hl]
        generalize hsrc : (l.getD 0 Move.zero).src = src at *
        show done (put s ⟨spare, src⟩) (rowN spare n (respare spare src l)) i = _
        rw [row_does n _ _ i (fine_respare hf) (by omega) hi]
        by_cases hex : ∃ o ∈ l, o.to = i
        · obtain ⟨o, ho, rfl⟩ := hex
          rw [wanted_of hf.1 ho]
          have hmem : (if o.src = src then (⟨o.to, spare⟩ : Move) else o) ∈ respare spare src l := List.mem_map.2 ⟨o, ho, rfl⟩
          have hto : (if o.src = src then (⟨o.to, spare⟩ : Move) else o).to = o.to := by split <;> rfl
          have hw := wanted_of (s := put s ⟨spare, src⟩) (fine_respare (src := src) hf).1 hmem
          rw [hto] at hw
          rw [hw]
          by_cases hs : o.src = src
          · rw [if_pos hs]
            simp [put, hs]
          · rw [if_neg hs]
            obtain ⟨q, hq, e⟩ := hr o ho
            have : o.src ≠ spare := fun e' => hf.2 q hq (by rw [e, e'])
            simp [put, this]
        · rw [wanted_not (fun o ho e => ?_), wanted_not (fun o ho e => hex ⟨o, ho, e⟩)]
          · simp [put, hi]
          · obtain ⟨o', ho', rfl⟩ := List.mem_map.1 ho
            refine hex ⟨o', ho', ?_⟩
            rw [← e]
            split <;> rfl
end Go.Proofs.Ytmlmnhhgdcfchaa
