/- More words: parts of a slice. -/
import Derived.Test.YtkodcoianakjoaaDoorLib
namespace Go.Proofs.YtkodcoianakjoaaDoor
open Go.RowKit
set_option linter.unusedSimpArgs false
set_option linter.unusedVariables false

theorem Rp.SL.take_ {α : Type} {r : Rp α} {w : World} {B : Nat} {xs : List α} {A : Option Addr} {n c k : Nat} (h : r.SL w B xs (.slice A n c)) (hk : k ≤ xs.length) : r.SL w B (xs.take k) (.slice A k c) := by
  obtain ⟨A', c', hv, hl, hc, h⟩ := h
  injection hv with hA hn hc'
  subst hA hc'
  have e : (xs.take k).length = k := by simp; omega
  refine ⟨A, c, by rw [e], by omega, by omega, fun hp => ?_⟩
  obtain ⟨b, off, hA, hb, hx⟩ := h (by omega)
  refine ⟨b, off, hA, hb, fun j x hj => hx j x ?_⟩
  rw [List.getElem?_take] at hj
  split at hj
  · exact hj
  · cases hj

/-- 's[k:]', as the model has it: at k = cap the address stays. -/
theorem Rp.SL.drop_ {α : Type} {r : Rp α} {w : World} {B : Nat} {xs : List α} {b off n c k : Nat} (h : r.SL w B xs (.slice (some ⟨b, off, none⟩) n c)) (hk : k ≤ xs.length) (o : Nat) (ho : k < xs.length → o = off + k * r.size) : r.SL w B (xs.drop k) (.slice (some ⟨b, o, none⟩) (n - k) (c - k)) := by
  have hn := h.len
  obtain ⟨A', c', hv, hl, hc, h⟩ := h
  injection hv with hA hn' hc'
  subst hA hc'
  refine ⟨_, c - k, by rw [List.length_drop, hn], by simp; omega, by simp; omega, fun hp => ?_⟩
  simp at hp
  obtain ⟨b', off', hA, hb, hx⟩ := h (by omega)
  injection hA with hA
  injection hA with h1 h2
  subst h1 h2
  refine ⟨b, o, rfl, hb, fun j x hj => ?_⟩
  rw [List.getElem?_drop] at hj
  obtain ⟨cs, hr, hcs⟩ := hx _ x hj
  refine ⟨cs, hr, fun i u hi => ?_⟩
  rw [ho (by omega), ← hcs i u hi]
  congr 2
  rw [Nat.add_mul]
  omega

/-- Two cells of a variable, stored. -/
theorem cells_set2 {a w : World} {B b : Nat} (hb : Below B a w) (hlt : b < B) {u v : Value} (h0 : a.cell? ⟨b, 0, none⟩ = some u) (h1 : a.cell? ⟨b, 1, none⟩ = some v) (x y : Value) :
    ((w.setCell ⟨b, 0, none⟩ x).setCell ⟨b, 1, none⟩ y).cell? ⟨b, 0, none⟩ = some x ∧ ((w.setCell ⟨b, 0, none⟩ x).setCell ⟨b, 1, none⟩ y).cell? ⟨b, 1, none⟩ = some y := by
  have g0 : w.cell? ⟨b, 0, none⟩ = some u := (hb.cell hlt).trans h0
  have g1 : w.cell? ⟨b, 1, none⟩ = some v := (hb.cell hlt).trans h1
  constructor
  · rw [World.cell?_setCell_other _ _ _ _ (by simp)]
    simp [go_sem, g0]
  · simp [go_sem, g1]
end Go.Proofs.YtkodcoianakjoaaDoor
