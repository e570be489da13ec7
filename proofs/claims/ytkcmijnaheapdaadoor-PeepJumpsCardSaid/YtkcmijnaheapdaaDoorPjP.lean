/- Rows of jumps, plainly: what the rules leave of them. -/
import Derived.Test.YtkcmijnaheapdaaDoorPeepQ
namespace Go.Proofs.YtkcmijnaheapdaaDoor
open Go.RowKit
set_option linter.unusedSimpArgs false
set_option linter.unusedVariables false

def retM : Mac := ⟨45, 0, 0, 0, 0⟩
def goM (n : Nat) : Mac := ⟨37, 0, 0, 0, (n : Int)⟩
/-- Rules of a jump that is reached: only to the next one, or farther. -/
theorem rules_goto {l : List Mac} {i : Nat} (h37 : (atL l i).op = 37) (hr : Reach l i) (hs : (atL l i).n ≠ (i : Int) + 1) (hf : ledL l l.length (atL l i).n = some (atL l i).n) : firstR l i = none := by
  have hj : jumpsM (atL l i) = true := by unfold jumpsM; rw [h37]; rfl
  have hb : besB l i = false := by unfold besB; simp [h37]
  refine firstR_none fun k hk => ?_
  match k with
  | 0 => simp only [ruleR, lostR]; rw [if_pos (reachB_iff.2 hr)]
  | 1 => simp only [ruleR, itselfR]; rw [if_neg (by omega)]
  | 2 => simp only [ruleR, shortR]; rw [if_neg (fun e => hs e.2)]
  | 3 => simp only [ruleR, farR, farTo]; rw [if_pos hj, hf]; simp
  | 4 => simp only [ruleR, vainR]; rw [if_neg (fun e => by have := quiet_op e.1; exact this.1 h37)]
  | 5 => simp only [ruleR, unreadR]; rw [if_neg (by omega)]
  | 6 => simp only [ruleR, againR]; rw [if_neg (fun e => by rw [hb] at e; cases e.1)]
  | 7 => simp only [ruleR, backR]; rw [if_neg (fun e => by rw [hb] at e; cases e.1)]
  | 8 => simp only [ruleR, sureR]; rw [if_neg (fun e => by rw [hb] at e; cases e.1)]
  | 9 => simp only [ruleR, fusedR]; rw [if_neg (fun e => by rw [hb] at e; cases e.1)]
  | 10 => simp only [ruleR, idleR]; rw [if_neg (fun e => by have := (idle_op e).2.1; exact this h37)]
  | k + 11 => omega
/-- The first one is a jump to the end: the others go. -/
theorem peep_first : ∀ (X : List Mac), MacsOk (goM (X.length + 1) :: (X ++ [retM])) → peepL (goM (X.length + 1) :: (X ++ [retM])) = [retM]
  | [], h => by
    have e : onceP (goM 1 :: ([] ++ [retM])) = some [retM] := by
      refine onceP_hit (i := 0) (by simp) (fun k hk => absurd hk (Nat.not_lt_zero _)) (firstR_hit (j := 2) (by omega) (fun k hk => ?_) ?_)
      · have : k = 0 ∨ k = 1 := by omega
        rcases this with e | e <;> subst e
        · simp only [ruleR, lostR]; rw [if_pos (reachB_iff.2 .first)]
        · simp only [ruleR, itselfR]; rw [if_neg (by simp [atL, goM])]
      · simp only [ruleR, shortR]
        rw [if_pos (by simp [atL, goM, jumpsM])]
        rfl
    have h' : MacsOk (goM 1 :: ([] ++ [retM])) := h
    show peepL (goM 1 :: ([] ++ [retM])) = [retM]
    rw [peepL_some h' e]
    refine peepL_none (onceP_none fun k hk => ?_)
    obtain rfl : k = 0 := by simpa using hk
    have h45 : (atL [retM] 0).op = 45 := rfl
    have hb : besB [retM] 0 = false := rfl
    refine firstR_none fun k hk => ?_
    match k with
    | 0 => simp only [ruleR, lostR]; rw [if_pos (reachB_iff.2 .first)]
    | 1 => simp only [ruleR, itselfR]; rw [if_neg (by omega)]
    | 2 => simp only [ruleR, shortR]; rw [if_neg (by simp [atL, retM, jumpsM])]
    | 3 => simp only [ruleR, farR, farTo]; rw [if_neg (by simp [atL, retM, jumpsM])]; rfl
    | 4 => simp only [ruleR, vainR]; rw [if_neg (fun e => by have := quiet_op e.1; exact this.2 h45)]
    | 5 => simp only [ruleR, unreadR]; rw [if_neg (by omega)]
    | 6 => simp only [ruleR, againR]; rw [if_neg (fun e => by rw [hb] at e; cases e.1)]
    | 7 => simp only [ruleR, backR]; rw [if_neg (fun e => by rw [hb] at e; cases e.1)]
    | 8 => simp only [ruleR, sureR]; rw [if_neg (fun e => by rw [hb] at e; cases e.1)]
    | 9 => simp only [ruleR, fusedR]; rw [if_neg (fun e => by rw [hb] at e; cases e.1)]
    | 10 => simp only [ruleR, idleR]; rw [if_neg (fun e => by have := (idle_op e).2.2.1; exact this h45)]
    | k + 11 => omega
  | x :: X, h => by
    generalize hl : goM ((x :: X).length + 1) :: (x :: X ++ [retM]) = l at h ⊢
    have hlen : l.length = X.length + 3 := by rw [← hl]; simp
    have a0 : atL l 0 = goM (X.length + 2) := by rw [← hl]; rfl
    have aN : atL l (X.length + 2) = retM := by
      rw [← hl]
      unfold atL
      rw [List.getD_eq_getElem?_getD, List.getElem?_cons_succ, List.cons_append, List.getElem?_cons_succ, List.getElem?_append_right (Nat.le_refl _), Nat.sub_self]
      rfl
    have hre : ∀ k, Reach l k → k = 0 ∨ k = X.length + 2 := fun k hk => by
      induction hk with
      | first => exact .inl rfl
      | next _ hs hlt ih =>
        rcases ih with e | e
        · subst e
          rcases hs.2 with ⟨_, h2, _⟩ | ⟨_, h2⟩
          · rw [a0] at h2; exact absurd rfl h2
          · rw [a0] at h2
            right
            have : (((X.length + 2 : Nat) : Int)) = _ := h2
            omega
        · subst e
          rcases hs.2 with ⟨h1, _, _⟩ | ⟨h1, _⟩
          · rw [aN] at h1; exact absurd rfl h1
          · rw [aN] at h1; simp [retM, jumpsM] at h1
    have hgone : goneL l 1 = goM (X.length + 1) :: (X.map (decM 1) ++ [retM]) := by
      rw [← hl]
      unfold goneL
      simp [List.eraseIdx, decM, goM, retM, jumpsM]
      omega
    have e : onceP l = some (goneL l 1) := by
      refine onceP_hit (i := 1) (by omega) (fun k hk => ?_) (firstR_hit (j := 0) (by omega) (fun k hk => absurd hk (Nat.not_lt_zero _)) ?_)
      · obtain rfl : k = 0 := by omega
        refine rules_goto (by rw [a0]; rfl) .first ?_ ?_
        · rw [a0]
          show ((X.length + 2 : Nat) : Int) ≠ _
          omega
        · rw [hlen, a0, ledL]
          have : (goM (X.length + 2)).n.toNat = X.length + 2 := by show (((X.length + 2 : Nat) : Int)).toNat = _; rw [Int.toNat_natCast]
          rw [this, aN, if_pos (by decide)]
      · simp only [ruleR, lostR]
        rw [if_neg]
        intro hc
        have := hre 1 (reachB_iff.1 hc)
        omega
    rw [peepL_some h e, hgone]
    have hok := (onceP_ok h e).1
    rw [hgone] at hok
    have ih := peep_first (X.map (decM 1)) (by rw [List.length_map]; exact hok)
    rwa [List.length_map] at ih
termination_by X => X.length
def jumpM (n i : Nat) : Mac := goM (if n - 1 - i ≤ i then n else n - 1 - i)
def jumpsL (n : Nat) : List Mac := (List.range n).map (jumpM n) ++ [retM]
theorem jumpsL_len (n : Nat) : (jumpsL n).length = n + 1 := by unfold jumpsL; simp
theorem jumpsL_at {n i : Nat} (h : i < n) : atL (jumpsL n) i = jumpM n i := by
  unfold atL jumpsL
  rw [List.getD_eq_getElem?_getD, List.getElem?_append_left (by simpa using h), List.getElem?_map, List.getElem?_range h]
  rfl
theorem jumpsL_end (n : Nat) : atL (jumpsL n) n = retM := by
  unfold atL jumpsL
  rw [List.getD_eq_getElem?_getD, List.getElem?_append_right (by simp)]
  simp
theorem jumpsL_ok {n : Nat} (h : n ≤ 4999) : MacsOk (jumpsL n) := by
  refine ⟨by rw [jumpsL_len]; omega, by rw [jumpsL_len]; omega, fun m hm => ?_, .inr (by rw [jumpsL_len, Nat.add_sub_cancel, jumpsL_end]; rfl)⟩
  rw [jumpsL_len]
  obtain ⟨i, hi, e⟩ := in_atL hm
  rw [jumpsL_len] at hi
  subst e
  by_cases h1 : i < n
  · rw [jumpsL_at h1]
    refine macF_goto (by omega) ?_
    split <;> omega
  · obtain rfl : i = n := by omega
    rw [jumpsL_end]
    rfl
theorem peep_jumps {n : Nat} (h : n ≤ 4999) : peepL (jumpsL n) = [retM] := by
  have hok := jumpsL_ok h
  match n with
  | 0 =>
    have := peep_first [] (by
      refine ⟨by simp, by simp, fun m hm => ?_, .inr rfl⟩
      simp at hm
      rcases hm with e | e <;> subst e <;> rfl)
    have h2 : onceP (goM 1 :: ([] ++ [retM])) = some [retM] := by
      refine onceP_hit (i := 0) (by simp) (fun k hk => absurd hk (Nat.not_lt_zero _)) (firstR_hit (j := 2) (by omega) (fun k hk => ?_) ?_)
      · have : k = 0 ∨ k = 1 := by omega
        rcases this with e | e <;> subst e
        · simp only [ruleR, lostR]; rw [if_pos (reachB_iff.2 .first)]
        · simp only [ruleR, itselfR]; rw [if_neg (by simp [atL, goM])]
      · simp only [ruleR, shortR]
        rw [if_pos (by simp [atL, goM, jumpsM])]
        rfl
    have h3 : MacsOk (goM 1 :: ([] ++ [retM])) := by
      refine ⟨by simp, by simp, fun m hm => ?_, .inr rfl⟩
      simp at hm
      rcases hm with e | e <;> subst e <;> rfl
    have h4 := peepL_some h3 h2
    have h5 : peepL (goM 1 :: ([] ++ [retM])) = [retM] := this
    show peepL [retM] = [retM]
    rw [← h4, h5]
  | 1 => exact peep_first [] hok
  | 2 =>
    have e : onceP (jumpsL 2) = some (goM 1 :: ([] ++ [retM])) := by
      refine onceP_hit (i := 0) (by rw [jumpsL_len]; omega) (fun k hk => absurd hk (Nat.not_lt_zero _)) (firstR_hit (j := 2) (by omega) (fun k hk => ?_) ?_)
      · have : k = 0 ∨ k = 1 := by omega
        rcases this with e | e <;> subst e
        · simp only [ruleR, lostR]; rw [if_pos (reachB_iff.2 .first)]
        · simp only [ruleR, itselfR]; rw [if_neg (by rw [jumpsL_at (by omega)]; simp [jumpM, goM])]
      · simp only [ruleR, shortR]
        rw [if_pos (by rw [jumpsL_at (by omega)]; simp [jumpM, goM, jumpsM])]
        rfl
    rw [peepL_some hok e]
    exact peep_first [] (onceP_ok hok e).1
  | n + 3 =>
    have a0 : atL (jumpsL (n + 3)) 0 = goM (n + 2) := by rw [jumpsL_at (by omega)]; rfl
    have aL : atL (jumpsL (n + 3)) (n + 2) = goM (n + 3) := by
      rw [jumpsL_at (by omega)]
      unfold jumpM
      rw [if_pos (by omega)]
    have hset : (jumpsL (n + 3)).set 0 (withN (atL (jumpsL (n + 3)) 0) ((n + 3 : Nat) : Int)) = goM ((((List.range (n + 2)).map fun i => jumpM (n + 3) (i + 1))).length + 1) :: ((((List.range (n + 2)).map fun i => jumpM (n + 3) (i + 1))) ++ [retM]) := by
      rw [a0]
      unfold jumpsL
      rw [List.range_succ_eq_map]
      simp [withN, goM, Function.comp_def]
      omega
    have e : onceP (jumpsL (n + 3)) = some ((jumpsL (n + 3)).set 0 (withN (atL (jumpsL (n + 3)) 0) ((n + 3 : Nat) : Int))) := by
      refine onceP_hit (i := 0) (by rw [jumpsL_len]; omega) (fun k hk => absurd hk (Nat.not_lt_zero _)) (firstR_hit (j := 3) (by omega) (fun k hk => ?_) ?_)
      · have : k = 0 ∨ k = 1 ∨ k = 2 := by omega
        rcases this with e | e | e <;> subst e
        · simp only [ruleR, lostR]; rw [if_pos (reachB_iff.2 .first)]
        · simp only [ruleR, itselfR]; rw [if_neg (by rw [a0]; simp [goM])]
        · simp only [ruleR, shortR]
          rw [if_neg]
          rw [a0]
          rintro ⟨_, h2⟩
          have : ((n + 2 : Nat) : Int) = _ := h2
          omega
      · simp only [ruleR, farR, farTo]
        have hj : jumpsM (atL (jumpsL (n + 3)) 0) = true := by rw [a0]; rfl
        have hled : ledL (jumpsL (n + 3)) (jumpsL (n + 3)).length (atL (jumpsL (n + 3)) 0).n = some ((n + 3 : Nat) : Int) := by
          rw [jumpsL_len, a0, ledL]
          have t1 : (goM (n + 2)).n.toNat = n + 2 := by show (((n + 2 : Nat) : Int)).toNat = _; rw [Int.toNat_natCast]
          rw [t1, aL, if_neg (by simp [goM]), ledL]
          have t2 : (goM (n + 3)).n.toNat = n + 3 := by show (((n + 3 : Nat) : Int)).toNat = _; rw [Int.toNat_natCast]
          rw [t2, jumpsL_end, if_pos (by decide)]
          rfl
        have hne : ¬ ((n + 3 : Nat) : Int) = (atL (jumpsL (n + 3)) 0).n := by
          rw [a0]
          show ¬ ((n + 3 : Nat) : Int) = ((n + 2 : Nat) : Int)
          omega
        rw [if_pos hj, hled]
        simp only []
        rw [if_neg hne]
        rfl
    rw [peepL_some hok e, hset]
    have hok2 := (onceP_ok hok e).1
    rw [hset] at hok2
    exact peep_first _ hok2
def sayM (a : Int) : Mac := ⟨47, 0, a, 0, 0⟩
theorem ring_ok {a : Int} (h0 : 0 ≤ a) (h1 : a ≤ 15) : MacsOk [goM 1, sayM a, goM 0] := by
  refine ⟨by simp, by simp, fun m hm => ?_, .inl rfl⟩
  simp at hm
  rcases hm with e | e | e <;> subst e
  · exact macF_goto (by simp) (by simp)
  · have e : shapeOf 47 = ⟨false, true, false, 0⟩ := by rfl
    unfold macF sayM
    simp only [e, known, fieldF, numberF]
    simp
    omega
  · exact macF_goto (by simp) (by simp)
theorem peep_ring {a : Int} (h0 : 0 ≤ a) (h1 : a ≤ 15) : peepL [goM 1, sayM a, goM 0] = [sayM a, goM 0] := by
  have e : onceP [goM 1, sayM a, goM 0] = some [sayM a, goM 0] := by
    refine onceP_hit (i := 0) (by simp) (fun k hk => absurd hk (Nat.not_lt_zero _)) (firstR_hit (j := 2) (by omega) (fun k hk => ?_) ?_)
    · have : k = 0 ∨ k = 1 := by omega
      rcases this with e | e <;> subst e
      · simp only [ruleR, lostR]; rw [if_pos (reachB_iff.2 .first)]
      · simp only [ruleR, itselfR]; rw [if_neg (by simp [atL, goM])]
    · simp only [ruleR, shortR]
      rw [if_pos (by simp [atL, goM, jumpsM])]
      rfl
  rw [peepL_some (ring_ok h0 h1) e]
  have a0 : atL [sayM a, goM 0] 0 = sayM a := rfl
  have a1 : atL [sayM a, goM 0] 1 = goM 0 := rfl
  have r1 : Reach [sayM a, goM 0] 1 := .next .first ⟨by simp, .inl ⟨by rw [a0]; simp [sayM], by rw [a0]; simp [sayM], rfl⟩⟩ (by simp)
  refine peepL_none (onceP_none fun k hk => ?_)
  have hk2 : k = 0 ∨ k = 1 := by
    have : k < 2 := by simpa using hk
    omega
  rcases hk2 with e | e <;> subst e
  · refine firstR_none fun k hk => ?_
    match k with
    | 0 => simp only [ruleR, lostR]; rw [if_pos (reachB_iff.2 .first)]
    | 1 => simp only [ruleR, itselfR]; rw [if_neg (by rw [a0]; simp [sayM])]
    | 2 => simp only [ruleR, shortR]; rw [if_neg (by rw [a0]; simp [sayM, jumpsM])]
    | 3 => simp only [ruleR, farR, farTo]; rw [if_neg (by rw [a0]; simp [sayM, jumpsM])]; rfl
    | 4 => simp only [ruleR, vainR]; rw [if_neg (by rw [a0]; simp [sayM, quietM])]
    | 5 => simp only [ruleR, unreadR]; rw [if_neg (by rw [a0]; simp [sayM])]
    | 6 => simp only [ruleR, againR]; rw [if_neg (by rw [a0]; simp [sayM])]
    | 7 => simp only [ruleR, backR]; rw [if_neg (by rw [a0]; simp [sayM])]
    | 8 => simp only [ruleR, sureR]; rw [if_neg (by rw [a0]; simp [sayM])]
    | 9 => simp only [ruleR, fusedR]; rw [if_neg (by rw [a0]; simp [sayM])]
    | 10 => simp only [ruleR, idleR]; rw [if_neg (by rw [a0]; simp [sayM, idleM])]
    | k + 11 => omega
  · refine rules_goto (by rw [a1]; rfl) r1 (by rw [a1]; simp [goM]) ?_
    rw [a1]
    show ledL [sayM a, goM 0] 2 _ = _
    rw [ledL, if_pos]
    show (atL [sayM a, goM 0] 0).op ≠ 37
    rw [a0]
    simp [sayM]
end Go.Proofs.YtkcmijnaheapdaaDoor
