/- What is reached, and where jumps go, plainly: rows of truth values that grow. -/
import Derived.Test.YtkcmijnaheapdaaDoorPkP
namespace Go.Proofs.YtkcmijnaheapdaaDoor
open Go.RowKit
set_option linter.unusedSimpArgs false
set_option linter.unusedVariables false

def atB (S : List Bool) (i : Nat) : Bool := S.getD i false
theorem atB_set {S : List Bool} {i k : Nat} {x : Bool} (h : i < S.length) : atB (S.set i x) k = if k = i then x else atB S k := by
  unfold atB
  rw [List.getD_eq_getElem?_getD, List.getD_eq_getElem?_getD, List.getElem?_set]
  by_cases e : i = k
  · subst e
    rw [if_pos rfl, if_pos h, if_pos rfl]
    rfl
  · rw [if_neg e, if_neg (fun x => e x.symm)]
/-- What holds of what is reached, and of what is still to do, on the way. -/
structure GoodR (l : List Mac) (S : List Bool) (T : List Int) : Prop where
  len : S.length = l.length
  sound : ∀ i, atB S i = true → Reach l i
  stack : ∀ t ∈ T, 0 ≤ t ∧ t < (l.length : Int) ∧ Reach l t.toNat
  closed : ∀ i, i < l.length → atB S i = true → ∀ k ∈ nextL l i, atB S k.toNat = true ∨ k ∈ T
  first : atB S 0 = true ∨ (0 : Int) ∈ T
def leftR (S : List Bool) : Nat := S.countP fun b => !b
theorem leftR_set : ∀ {S : List Bool} {i : Nat}, i < S.length → atB S i = false → leftR (S.set i true) + 1 = leftR S
  | x :: S, 0, _, h => by
    simp [atB] at h
    subst h
    simp [leftR]
  | x :: S, i + 1, hi, h => by
    have := leftR_set (S := S) (i := i) (by simpa using hi) (by simpa [atB] using h)
    simp only [leftR, List.set_cons_succ, List.countP_cons] at this ⊢
    omega
theorem atB_none {n i : Nat} : atB (List.replicate n false) i = false := by
  unfold atB
  rw [List.getD_eq_getElem?_getD, List.getElem?_replicate]
  split <;> rfl
theorem GoodR.begin {l : List Mac} (h : MacsOk l) : GoodR l (List.replicate l.length false) [0] := by
  refine ⟨List.length_replicate, fun i hi => by rw [atB_none] at hi; (cases hi), fun t ht => ?_, fun i _ hi => by rw [atB_none] at hi; (cases hi), .inr (by simp)⟩
  have e : t = 0 := by simpa using ht
  subst e
  have := h.some_
  exact ⟨by omega, by omega, .first⟩
theorem GoodR.had {l : List Mac} {S : List Bool} {T : List Int} {t : Int} (h : GoodR l S (T ++ [t])) (ht : atB S t.toNat = true) : GoodR l S T := by
  refine ⟨h.len, h.sound, fun x hx => h.stack x (by simp [hx]), fun i hi hs k hk => ?_, ?_⟩
  · rcases h.closed i hi hs k hk with e | e
    · exact .inl e
    · rcases List.mem_append.1 e with e | e
      · exact .inr e
      · obtain rfl : k = t := by simpa using e
        exact .inl ht
  · rcases h.first with e | e
    · exact .inl e
    · rcases List.mem_append.1 e with e | e
      · exact .inr e
      · obtain rfl : (0 : Int) = t := by simpa using e
        exact .inl ht
theorem GoodR.new {l : List Mac} (hl : MacsOk l) {S : List Bool} {T : List Int} {t : Int} (h : GoodR l S (T ++ [t])) : GoodR l (S.set t.toNat true) (T ++ nextL l t.toNat) := by
  obtain ⟨h0, h1, h2⟩ := h.stack t (by simp)
  have htl : t.toNat < l.length := by omega
  have hts : t.toNat < S.length := by rw [h.len]; exact htl
  refine ⟨by rw [List.length_set]; exact h.len, fun i hi => ?_, fun x hx => ?_, fun i hi hs k hk => ?_, ?_⟩
  · rw [atB_set hts] at hi
    by_cases e : i = t.toNat
    · rw [e]; exact h2
    · rw [if_neg e] at hi; exact h.sound i hi
  · rcases List.mem_append.1 hx with e | e
    · exact h.stack x (by simp [e])
    · have hb := nextL_lt hl htl x e
      refine ⟨hb.1, hb.2, .next h2 ((nextL_iff htl).1 (by rwa [Int.toNat_of_nonneg hb.1])) (by omega)⟩
  · rw [atB_set hts] at hs ⊢
    by_cases e : i = t.toNat
    · right
      rw [e] at hk
      simp [hk]
    · rw [if_neg e] at hs
      rcases h.closed i hi hs k hk with e1 | e1
      · left
        split
        · rfl
        · exact e1
      · rcases List.mem_append.1 e1 with e1 | e1
        · right; simp [e1]
        · obtain rfl : k = t := by simpa using e1
          left
          rw [if_pos rfl]
  · rw [atB_set hts]
    rcases h.first with e1 | e1
    · left
      split
      · rfl
      · exact e1
    · rcases List.mem_append.1 e1 with e1 | e1
      · right; simp [e1]
      · obtain rfl : (0 : Int) = t := by simpa using e1
        left
        rw [if_pos (by rfl)]
theorem ext_atB {S S' : List Bool} (h : S.length = S'.length) (he : ∀ i, i < S.length → atB S i = atB S' i) : S = S' := by
  apply List.ext_getElem h
  intro i h1 h2
  have := he i h1
  unfold atB at this
  rw [List.getD_eq_getElem?_getD, List.getD_eq_getElem?_getD, List.getElem?_eq_getElem h1, List.getElem?_eq_getElem h2] at this
  exact this
theorem atB_map {n i : Nat} {f : Nat → Bool} (h : i < n) : atB ((List.range n).map f) i = f i := by
  unfold atB
  rw [List.getD_eq_getElem?_getD, List.getElem?_map, List.getElem?_range h]
  rfl
noncomputable def reachW (l : List Mac) : List Bool := (List.range l.length).map (reachB l)
theorem GoodR.done {l : List Mac} (hl : MacsOk l) {S : List Bool} (h : GoodR l S []) : S = reachW l := by
  have back : ∀ i, Reach l i → atB S i = true := fun i hR => by
    induction hR with
    | first => simpa using h.first
    | @next i k hR hs hk ih =>
      have hi := reach_lt hl.some_ hR
      have := h.closed i hi ih k ((nextL_iff hi).2 hs)
      simpa using this
  apply ext_atB
  · rw [h.len]; simp [reachW]
  · intro i h1
    unfold reachW
    rw [atB_map (by rw [← h.len]; exact h1)]
    cases hb : atB S i
    · cases hc : reachB l i
      · rfl
      · rw [back i (reachB_iff.1 hc)] at hb; cases hb
    · exact (reachB_iff.2 (h.sound i hb)).symm
/-- Where jumps of the first instructions go. -/
def markTo (l : List Mac) (k : Nat) : List Bool := (List.range l.length).map fun (j : Nat) => (l.take k).any fun m => jumpsM m && decide (m.n = (j : Int))
def markL (l : List Mac) : List Bool := (List.range l.length).map (markB l)
theorem markTo_len (l : List Mac) (k : Nat) : (markTo l k).length = l.length := by simp [markTo]
theorem markTo_at {l : List Mac} {k j : Nat} (hj : j < l.length) : atB (markTo l k) j = (l.take k).any fun m => jumpsM m && decide (m.n = (j : Int)) := atB_map hj
theorem markTo_first (l : List Mac) : markTo l 0 = List.replicate l.length false := by
  apply ext_atB
  · rw [markTo_len, List.length_replicate]
  · intro i h1
    rw [markTo_at (by rwa [markTo_len] at h1), atB_none]
    simp
theorem markTo_end (l : List Mac) : markTo l l.length = markL l := by
  unfold markTo markL markB
  rw [List.take_length]
theorem markTo_step {l : List Mac} (hl : MacsOk l) {k : Nat} (hk : k < l.length) : markTo l (k + 1) = if jumpsM (atL l k) = true then (markTo l k).set (atL l k).n.toNat true else markTo l k := by
  have hm := hl.at_ hk
  have e : l.take (k + 1) = l.take k ++ [atL l k] := by
    rw [List.take_add_one, List.getElem?_eq_getElem hk, atL_get hk]
    rfl
  apply ext_atB
  · split
    · rw [List.length_set, markTo_len, markTo_len]
    · rw [markTo_len, markTo_len]
  · intro j h1
    have hj : j < l.length := by rwa [markTo_len] at h1
    rw [markTo_at hj, e, List.any_append]
    cases hj2 : jumpsM (atL l k)
    · rw [if_neg (by simp), markTo_at hj]
      simp [hj2]
    · have hop : 37 ≤ (atL l k).op ∧ (atL l k).op ≤ 43 := by unfold jumpsM at hj2; simpa using hj2
      have hb := hm.jump hop.1 hop.2
      rw [if_pos rfl, atB_set (by rw [markTo_len]; omega), markTo_at hj]
      by_cases e1 : j = (atL l k).n.toNat
      · rw [if_pos e1]
        have : (atL l k).n = (j : Int) := by omega
        simp [this, hj2]
      · rw [if_neg e1]
        have : ¬ (atL l k).n = (j : Int) := by omega
        simp [this]
end Go.Proofs.YtkcmijnaheapdaaDoor
