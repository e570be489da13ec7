/- A byte of a saved object that is changed is seen, plainly. -/
import Derived.Test.YtfhnmbnniklmiaaDoorBackA
namespace Go.Proofs.YtfhnmbnniklmiaaDoor
open Go.RowKit
set_option linter.unusedSimpArgs false
set_option linter.unusedVariables false

theorem sumFrom_inj : ∀ (bs : List UInt8) (n m : Nat), n < 65521 → m < 65521 → sumFrom n bs = sumFrom m bs → n = m
  | [], n, m, _, _, h => h
  | b :: bs, n, m, hn, hm, h => by
    rw [sumFrom, sumFrom] at h
    have := sumFrom_inj bs _ _ (Nat.mod_lt _ (by decide)) (Nat.mod_lt _ (by decide)) h
    omega
theorem sumFrom_set : ∀ (bs : List UInt8) (k n : Nat) (x : UInt8), n < 65521 → k < bs.length → x ≠ bs.getD k 0 → sumFrom n (bs.set k x) ≠ sumFrom n bs
  | [], k, n, x, _, hk, _ => by simp at hk
  | b :: bs, 0, n, x, hn, _, hx => by
    rw [List.set_cons_zero, sumFrom, sumFrom]
    intro h
    have := sumFrom_inj bs _ _ (Nat.mod_lt _ (by decide)) (Nat.mod_lt _ (by decide)) h
    have h1 := x.toNat_lt
    have h2 := b.toNat_lt
    have h3 : x.toNat ≠ b.toNat := fun e => hx (by rw [UInt8.toNat_inj.1 e]; rfl)
    omega
  | b :: bs, k + 1, n, x, hn, hk, hx => by
    rw [List.set_cons_succ, sumFrom, sumFrom]
    exact sumFrom_set bs k _ x (Nat.mod_lt _ (by decide)) (by simpa using hk) (by simpa using hx)
theorem xor_same {a b : UInt8} (h : a ^^^ b = a) : b = 0 := by
  have : a ^^^ (a ^^^ b) = a ^^^ a := by rw [h]
  rwa [← UInt8.xor_assoc, UInt8.xor_self, UInt8.zero_xor] at this
theorem getD_set_same {bs : List UInt8} {k : Nat} (x : UInt8) (h : k < bs.length) : (bs.set k x).getD k 0 = x := by
  rw [List.getD_eq_getElem?_getD, List.getElem?_set_self h]
  rfl
theorem getD_set_other {bs : List UInt8} {k j : Nat} (x : UInt8) (h : k ≠ j) : (bs.set k x).getD j 0 = bs.getD j 0 := by
  rw [List.getD_eq_getElem?_getD, List.getElem?_set_ne h, List.getD_eq_getElem?_getD]
theorem three_of_take {bs : List UInt8} (h : bs.take 3 = [79, 66, 74]) : bs.getD 0 0 = 79 ∧ bs.getD 1 0 = 66 ∧ bs.getD 2 0 = 74 := by
  match bs, h with
  | a :: b :: c :: r, h => simpa using h
/-- With one byte changed the head and the sum are no longer both right. -/
theorem headOk_set {b : List UInt8} {k : Nat} {x : UInt8} (h : headOk b) (hk : k < b.length) (hx : x ≠ b.getD k 0) : ¬ headOk (b.set k x) := by
  intro h'
  obtain ⟨h1, h2, h3⟩ := h
  obtain ⟨g1, g2, g3⟩ := h'
  rw [List.length_set] at g3
  rcases Nat.lt_or_ge k (b.length - 2) with hlt | hge
  · have e1 := getD_set_other x (bs := b) (k := k) (j := b.length - 2) (by omega)
    have e2 := getD_set_other x (bs := b) (k := k) (j := b.length - 1) (by omega)
    rw [e1, e2, ← h3, List.take_set] at g3
    refine sumFrom_set (b.take (b.length - 2)) k 0 x (by decide) (by rw [List.length_take]; omega) ?_ g3
    rw [List.getD_eq_getElem?_getD, List.getElem?_take, if_pos hlt, ← List.getD_eq_getElem?_getD]
    exact hx
  · have e0 : (b.set k x).take (b.length - 2) = b.take (b.length - 2) := by
      rw [List.take_set]
      exact List.set_eq_of_length_le (by rw [List.length_take]; omega)
    rw [e0, h3] at g3
    have l1 := (b.getD (b.length - 2) 0).toNat_lt
    have l2 := (b.getD (b.length - 1) 0).toNat_lt
    have l3 := x.toNat_lt
    rcases Nat.lt_or_ge k (b.length - 1) with hlt | hge'
    · obtain rfl : k = b.length - 2 := by omega
      rw [getD_set_same x hk, getD_set_other x (by omega)] at g3
      exact hx (UInt8.toNat_inj.1 (by omega))
    · obtain rfl : k = b.length - 1 := by omega
      rw [getD_set_same x hk, getD_set_other x (by omega)] at g3
      exact hx (UInt8.toNat_inj.1 (by omega))
theorem headOk_of_loaded {b : List UInt8} {o : Object} (h : loadedL b = some o) : headOk b := by
  unfold loadedL at h
  split at h
  · assumption
  · cases h
/-- A byte of what loads, changed: it loads just if the change is none. -/
theorem load_seen {b : List UInt8} {k : Nat} (d : UInt8) (h : (loadF b).1 = 0) (hk : k < b.length) : decide ((loadF (b.set k (b.getD k 0 ^^^ d))).1 = 0) = decide (d = 0) := by
  have hl : ¬ 90000 < b.length := by
    intro hl
    unfold loadF at h
    rw [if_pos hl] at h
    simp at h
  by_cases hd : d = 0
  · subst hd
    have e : b.set k (b.getD k 0 ^^^ 0) = b := by
      rw [UInt8.xor_zero, List.getD_eq_getElem?_getD, List.getElem?_eq_getElem hk]
      simp
    rw [e, h]
    simp
  · have hh : headOk b := by
      unfold loadF at h
      rw [if_neg hl] at h
      cases ho : loadedL b with
      | none =>
        rw [ho] at h
        simp at h
      | some o => exact headOk_of_loaded ho
    have hn := headOk_set hh hk (x := b.getD k 0 ^^^ d) (fun e => hd (xor_same e))
    have hf : loadF (b.set k (b.getD k 0 ^^^ d)) = (1, 0) := by
      unfold loadF
      rw [List.length_set, if_neg hl]
      unfold loadedL
      rw [if_neg hn]
    rw [hf]
    simp [hd]
end Go.Proofs.YtfhnmbnniklmiaaDoor
