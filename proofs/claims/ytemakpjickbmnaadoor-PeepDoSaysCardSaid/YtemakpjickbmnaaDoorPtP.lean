/- The document's rules, plainly. -/
import Derived.Test.YtemakpjickbmnaaDoorPrA
import Derived.Test.YtemakpjickbmnaaDoorPkC
namespace Go.Proofs.YtemakpjickbmnaaDoor
open Go.RowKit
set_option linter.unusedSimpArgs false
set_option linter.unusedVariables false

theorem behB_at {l : List Mac} (hok : MacsOk l) {i : Nat} (hi : i < l.length) (r : Nat) : behB l i r = ((decide (i + 1 < l.length) && liveB l (i + 1) r && goesB l i (i + 1)) || (jumpsM (atL l i) && liveB l (atL l i).n.toNat r)) := by
  rw [← beh_any hok hi r]
  have h := nextL_any hok hi (S := liveC l r) (by simp [liveC])
  have hb := nextL_lt hok hi
  have e1 : (nextL l i).any (fun k => atB (liveC l r) k.toNat) = (nextL l i).any (fun k => liveB l k.toNat r) := by
    rw [Bool.eq_iff_iff, List.any_eq_true, List.any_eq_true]
    constructor
    · rintro ⟨k, hk, e⟩
      have := hb k hk
      exact ⟨k, hk, by rw [← e]; exact (atB_map (f := fun i => liveB l i r) (by omega)).symm⟩
    · rintro ⟨k, hk, e⟩
      have := hb k hk
      exact ⟨k, hk, by rw [← e]; exact atB_map (f := fun i => liveB l i r) (by omega)⟩
  rw [← e1, h]
  have e2 : (decide (i + 1 < l.length) && atB (liveC l r) (i + 1)) = (decide (i + 1 < l.length) && liveB l (i + 1) r) := by
    by_cases h1 : i + 1 < l.length
    · rw [show atB (liveC l r) (i + 1) = liveB l (i + 1) r from atB_map (f := fun i => liveB l i r) h1]
    · rw [decide_eq_false h1]; rfl
  have e3 : (jumpsM (atL l i) && atB (liveC l r) (atL l i).n.toNat) = (jumpsM (atL l i) && liveB l (atL l i).n.toNat r) := by
    cases hj : jumpsM (atL l i)
    · rfl
    · have h37 : 37 ≤ (atL l i).op ∧ (atL l i).op ≤ 43 := by unfold jumpsM at hj; simpa using hj
      have := (hok.at_ hi).jump h37.1 h37.2
      rw [show atB (liveC l r) (atL l i).n.toNat = liveB l (atL l i).n.toNat r from atB_map (f := fun i => liveB l i r) (by omega)]
  rw [e2, e3]
/-- Where MacJumps lead; below 0: round. -/
def ledI (l : List Mac) (t : Int) : Int := (ledL l l.length t).getD (-1)
noncomputable def aloneR (l : List Mac) (i : Nat) : Option (List Mac) := (lostR l i).or ((itselfR l i).or ((shortR l i).or ((farR l i).or ((vainR l i).or (unreadR l i)))))
noncomputable def pairR (l : List Mac) (i : Nat) : Option (List Mac) := (againR l i).or ((backR l i).or ((sureR l i).or (fusedR l i)))
theorem firstR_eq (l : List Mac) (i : Nat) : firstR l i = (aloneR l i).or ((pairR l i).or (idleR l i)) := by
  unfold firstR aloneR pairR
  have e : List.range 11 = [0, 1, 2, 3, 4, 5, 6, 7, 8, 9, 10] := by decide
  rw [e]
  simp only [List.findSome?_cons, List.findSome?_nil, ruleR]
  cases lostR l i <;> cases itselfR l i <;> cases shortR l i <;> cases farR l i <;> cases vainR l i <;> cases unreadR l i <;> try rfl
  cases againR l i <;> cases backR l i <;> cases sureR l i <;> cases fusedR l i <;> cases idleR l i <;> rfl
theorem pairR_no {l : List Mac} {i : Nat} (h : besB l i = false) : pairR l i = none := by
  unfold pairR againR backR sureR fusedR
  simp [h]
theorem ledL_step {l : List Mac} {f : Nat} {t : Int} (h : (atL l t.toNat).op = 37) : ledL l (f + 1) t = ledL l f (atL l t.toNat).n := by
  rw [ledL, if_neg (by simpa using h)]
theorem ledL_stop {l : List Mac} {f : Nat} {t : Int} (h : (atL l t.toNat).op ≠ 37) : ledL l (f + 1) t = some t := by
  rw [ledL, if_pos h]
theorem back_eq {m : Mac} {len : Nat} (h : macF m len = 0) (h2 : m.op = 2) : m = ⟨2, m.dst, m.a, 0, 0⟩ := by
  have hs : shapeOf 2 = ⟨true, true, false, 0⟩ := by rfl
  obtain ⟨op, dst, a, b, n⟩ := m
  simp only at h2
  subst h2
  unfold macF at h
  simp only [hs, known, fieldF, numberF] at h
  simp at h
  have hb : b = 0 := by
    by_cases e : b = 0
    · exact e
    · simp [e] at h; split at h <;> omega
  have hn : n = 0 := by
    by_cases e : n = 0
    · exact e
    · simp [e] at h; split at h <;> omega
  rw [hb, hn]
theorem jump_quiet {m : Mac} (h : jumpsM m = true) : quietM m = false := by
  have h37 : 37 ≤ m.op ∧ m.op ≤ 43 := by unfold jumpsM at h; simpa using h
  unfold quietM
  rw [if_neg (by omega), if_neg (by omega), if_neg (by omega), decide_eq_false (show ¬ (5 ≤ m.op ∧ m.op ≤ 32) by omega)]
  rfl
theorem far_eq {l : List Mac} (hok : MacsOk l) {i : Nat} (hi : i < l.length) (hj : jumpsM (atL l i) = true) : farR l i = if 0 ≤ ledI l (atL l i).n ∧ ledI l (atL l i).n ≠ (atL l i).n then some (l.set i (withN (atL l i) (ledI l (atL l i).n))) else none := by
  have h37 : 37 ≤ (atL l i).op ∧ (atL l i).op ≤ 43 := by unfold jumpsM at hj; simpa using hj
  have hb := (hok.at_ hi).jump h37.1 h37.2
  unfold farR farTo ledI
  rw [if_pos hj]
  cases ht : ledL l l.length (atL l i).n with
  | none => simp
  | some t =>
    have h2 := ledL_ok hok _ _ _ hb.1 hb.2 ht
    by_cases e : t = (atL l i).n
    · simp [e]
    · simp [e, h2.1]
theorem alone_eq {l : List Mac} (hok : MacsOk l) {i : Nat} (hi : i < l.length) : aloneR l i =
    if reachB l i = false then some (goneL l i) else if (atL l i).op = 2 ∧ (atL l i).dst = (atL l i).a then some (goneL l i)
    else if jumpsM (atL l i) = true then (if (atL l i).n = (i : Int) + 1 then some (goneL l i) else if 0 ≤ ledI l (atL l i).n ∧ ledI l (atL l i).n ≠ (atL l i).n then some (l.set i (withN (atL l i) (ledI l (atL l i).n))) else none)
    else if quietM (atL l i) = true ∧ behB l i (atL l i).dst.toNat = false then some (goneL l i)
    else if (atL l i).op = 36 ∧ getB l (atL l i).n = false then some (goneL l i) else none := by
  unfold aloneR lostR itselfR shortR
  cases hr : reachB l i
  · simp
  simp only [eq_self_iff_true, if_true, Bool.true_eq_false, if_false, Option.none_or]
  by_cases h2 : (atL l i).op = 2 ∧ (atL l i).dst = (atL l i).a
  · rw [if_pos h2, if_pos h2]; rfl
  rw [if_neg h2, if_neg h2]
  cases hj : jumpsM (atL l i)
  · have e : farR l i = none := by unfold farR farTo; rw [hj]; rfl
    rw [e]
    unfold vainR unreadR
    simp only [Option.none_or, Bool.false_eq_true, false_and, if_false]
    split <;> rfl
  · rw [far_eq hok hi hj]
    have e1 : vainR l i = none := by unfold vainR; rw [jump_quiet hj]; simp
    have e2 : unreadR l i = none := by
      have h37 : 37 ≤ (atL l i).op ∧ (atL l i).op ≤ 43 := by unfold jumpsM at hj; simpa using hj
      unfold unreadR
      rw [if_neg (by omega)]
    rw [e1, e2]
    simp only [Option.none_or, Option.or_none, true_and, if_true]
    split
    · rfl
    · simp
theorem pair_eq {l : List Mac} (hok : MacsOk l) {i : Nat} (hb : besB l i = true) : pairR l i =
    if (atL l i).op = 36 ∧ (atL l (i + 1)).op = 35 ∧ (atL l (i + 1)).n = (atL l i).n then some (l.set (i + 1) ⟨2, (atL l (i + 1)).dst, (atL l i).a, 0, 0⟩)
    else if (atL l i).op = 2 ∧ (atL l (i + 1)).op = 2 ∧ (atL l (i + 1)).dst = (atL l i).a ∧ (atL l (i + 1)).a = (atL l i).dst then some (goneL l (i + 1))
    else if ¬ ((atL l (i + 1)).op = 38 ∨ (atL l (i + 1)).op = 39) ∨ ¬ (atL l (i + 1)).a = (atL l i).dst then none
    else if (atL l i).op = 1 then (if (decide ((atL l i).n = 0) == decide ((atL l (i + 1)).op = 38)) = true then some (goneL l (i + 1)) else some (l.set (i + 1) ⟨37, 0, 0, 0, (atL l (i + 1)).n⟩))
    else if (15 ≤ (atL l i).op ∧ (atL l i).op ≤ 18) ∧ behB l (i + 1) (atL l i).dst.toNat = false then some (goneL (l.set (i + 1) (ifsM (atL l i) (atL l (i + 1)))) i) else none := by
  have hi1 := (besB_iff.1 hb).1
  have hf := hok.fine _ (atL_in hi1)
  have hback : ((atL l i).op = 2 ∧ atL l (i + 1) = ⟨2, (atL l i).a, (atL l i).dst, 0, 0⟩) ↔ ((atL l i).op = 2 ∧ (atL l (i + 1)).op = 2 ∧ (atL l (i + 1)).dst = (atL l i).a ∧ (atL l (i + 1)).a = (atL l i).dst) := by
    constructor
    · rintro ⟨h1, h2⟩
      rw [h2]
      exact ⟨h1, rfl, rfl, rfl⟩
    · rintro ⟨h1, h2, h3, h4⟩
      refine ⟨h1, ?_⟩
      rw [back_eq hf h2, h3, h4]
  unfold pairR againR backR sureR fusedR
  simp only [hb, true_and]
  by_cases h1 : (atL l i).op = 36 ∧ (atL l (i + 1)).op = 35 ∧ (atL l (i + 1)).n = (atL l i).n
  · rw [if_pos h1, if_pos h1]; rfl
  rw [if_neg h1, if_neg h1]
  by_cases h2 : (atL l i).op = 2 ∧ (atL l (i + 1)).op = 2 ∧ (atL l (i + 1)).dst = (atL l i).a ∧ (atL l (i + 1)).a = (atL l i).dst
  · rw [if_pos (hback.2 h2), if_pos h2]; rfl
  rw [if_neg (fun e => h2 (hback.1 e)), if_neg h2]
  cases ha : asksM (atL l (i + 1)) (atL l i).dst
  · have : ¬ ((atL l (i + 1)).op = 38 ∨ (atL l (i + 1)).op = 39) ∨ ¬ (atL l (i + 1)).a = (atL l i).dst := by
      unfold asksM at ha
      rw [Bool.and_eq_false_iff, decide_eq_false_iff_not, decide_eq_false_iff_not] at ha
      exact ha
    rw [if_pos this]
    simp
  · have h3 := asks_op ha
    rw [if_neg (show ¬ (¬ ((atL l (i + 1)).op = 38 ∨ (atL l (i + 1)).op = 39) ∨ ¬ (atL l (i + 1)).a = (atL l i).dst) from fun e => e.elim (fun e => e h3.1) fun e => e h3.2)]
    by_cases h4 : (atL l i).op = 1
    · rw [if_pos ⟨h4, rfl⟩, if_pos h4]
      simp only [Option.none_or]
      split <;> rfl
    · rw [if_neg (fun e => h4 e.1), if_neg h4]
      simp
end Go.Proofs.YtemakpjickbmnaaDoor
