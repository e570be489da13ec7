/- What is written into bytes is read out of them: numbers, instructions. -/
import Derived.Test.YtkodcoianakjoaaDoorKitC
import Derived.Test.YtkodcoianakjoaaDoorLoadP
namespace Go.Proofs.YtkodcoianakjoaaDoor
open Go.RowKit
set_option linter.unusedSimpArgs false
set_option linter.unusedVariables false

theorem numL_of : ∀ (f i acc n : Nat) (r : List UInt8), f + i = 10 → n < 2 ^ (64 - 7 * i) → (0 < i → 0 < n) → numL f i acc (numF f n ++ r) = some (acc + n * 2 ^ (7 * i), r)
  | 0, i, acc, n, r, hf, hn, hp => by
    obtain rfl : i = 10 := by omega
    have := hp (by omega)
    simp at hn
    omega
  | f + 1, i, acc, n, r, hf, hn, hp => by
    by_cases h : n < 128
    · have e : (UInt8.ofNat n).toNat = n := by rw [UInt8.toNat_ofNat']; omega
      rw [numF, if_pos h]
      simp only [List.cons_append, List.nil_append]
      rw [numL, e, if_neg, if_pos h]
      rintro (⟨h9, h1⟩ | ⟨h1, h2⟩)
      · subst h9
        simp at hn
        omega
      · have := hp h1
        omega
    · have hi9 : i < 9 := by
        rcases Nat.lt_or_ge i 9 with h9 | h9
        · exact h9
        · obtain rfl : i = 9 := by omega
          simp at hn
          omega
      have e : (UInt8.ofNat (n % 128 + 128)).toNat = n % 128 + 128 := by rw [UInt8.toNat_ofNat']; omega
      have h2 : (2 : Nat) ^ (64 - 7 * i) = 128 * 2 ^ (64 - 7 * (i + 1)) := by
        rw [show 64 - 7 * i = 7 + (64 - 7 * (i + 1)) from by omega, Nat.pow_add]
      have ih := numL_of f (i + 1) (acc + n % 128 * 2 ^ (7 * i)) (n / 128) r (by omega) (by omega) (fun _ => by omega)
      rw [numF, if_neg h]
      simp only [List.cons_append]
      rw [numL, e, if_neg (by omega), if_neg (by omega), show n % 128 + 128 - 128 = n % 128 from by omega, ih]
      congr 2
      have h3 : (2 : Nat) ^ (7 * (i + 1)) = 128 * 2 ^ (7 * i) := by
        rw [show 7 * (i + 1) = 7 + 7 * i from by omega, Nat.pow_add]
      rw [h3, Nat.add_assoc, ← Nat.mul_assoc, ← Nat.add_mul]
      congr 2
      omega
theorem numberL_of {n : Nat} (hn : n < 18446744073709551616) (r : List UInt8) : numberL (numB n ++ r) = some (n, r) := by
  have := numL_of 10 0 0 n r rfl (by simpa using hn) (fun h => absurd h (Nat.lt_irrefl 0))
  show numL 10 0 0 (numF 10 n ++ r) = some (n, r)
  simpa using this
theorem unfoldN_foldN (n : Int) : unfoldN (foldN n) = n := by
  unfold unfoldN foldN
  split <;> split <;> omega
theorem regsL_of : ∀ (l : List Int) (r : List UInt8), (∀ x ∈ l, 0 ≤ x ∧ x ≤ 15) → regsL l.length (regsB l ++ r) = some (l, r)
  | [], r, _ => rfl
  | [x], r, h => by
    have hx := h x (by simp)
    have e : (UInt8.ofNat x.toNat).toNat = x.toNat := by rw [UInt8.toNat_ofNat']; omega
    show regsL 1 (UInt8.ofNat x.toNat :: r) = _
    rw [regsL, e, if_neg (by omega), Int.toNat_of_nonneg hx.1]
  | x :: y :: t, r, h => by
    have hx := h x (by simp)
    have hy := h y (by simp)
    have e : (UInt8.ofNat (16 * x + y).toNat).toNat = (16 * x + y).toNat := by rw [UInt8.toNat_ofNat']; omega
    have ih := regsL_of t r (fun z hz => h z (by simp [hz]))
    show regsL (t.length + 2) (UInt8.ofNat (16 * x + y).toNat :: (regsB t ++ r)) = _
    rw [regsL, e, ih, show (16 * x + y).toNat / 16 = x.toNat from by omega, show (16 * x + y).toNat % 16 = y.toNat from by omega, Int.toNat_of_nonneg hx.1, Int.toNat_of_nonneg hy.1]
    rfl
theorem regsOf_many (m : Mac) : (regsOf m).length = (shapeOf m.op).many := by
  unfold regsOf Shape.many
  cases (shapeOf m.op).d <;> cases (shapeOf m.op).a <;> cases (shapeOf m.op).b <;> rfl
/-- An instruction of which nothing is told but what its Op speaks of. -/
structure TrueMac (m : Mac) : Prop extends GoodMac m where
  dst : (shapeOf m.op).d = false → m.dst = 0
  a : (shapeOf m.op).a = false → m.a = 0
  b : (shapeOf m.op).b = false → m.b = 0
  n : (shapeOf m.op).n = 0 → m.n = 0
theorem place_of {m : Mac} (h : TrueMac m) : placeRegs (shapeOf m.op) m.op (regsOf m) m.n = m := by
  obtain ⟨_, h1, h2, h3, _⟩ := h
  unfold placeRegs regsOf
  cases hd : (shapeOf m.op).d <;> cases ha : (shapeOf m.op).a <;> cases hb : (shapeOf m.op).b <;> simp [hd, ha, hb] at h1 h2 h3 ⊢
  all_goals (cases m; simp_all)
theorem macL_of {m : Mac} (h : TrueMac m) (r : List UInt8) : macL (macB m ++ r) = some (m, r) := by
  have hk := h.known
  have hop : 1 ≤ m.op ∧ m.op ≤ 47 := by simpa [known] using hk
  have e : (UInt8.ofNat m.op.toNat).toNat = m.op.toNat := by rw [UInt8.toNat_ofNat']; omega
  have e2 : (((UInt8.ofNat m.op.toNat).toNat : Nat) : Int) = m.op := by rw [e]; omega
  unfold macB
  simp only [List.cons_append]
  rw [macL, e2, if_neg (by rw [hk]; simp), ← regsOf_many, List.append_assoc, regsL_of _ _ h.regs]
  simp only [Option.bind_some]
  by_cases hn : (shapeOf m.op).n = 0
  · rw [if_pos hn, if_pos hn]
    have := place_of h
    rw [h.n hn] at this
    simp [this]
  · rw [if_neg hn, if_neg hn, numberL_of (foldN_lt h.num.1 h.num.2)]
    simp only [Option.map_some, unfoldN_foldN]
    rw [place_of h]
theorem macB_pos (m : Mac) : macB m ≠ [] := by unfold macB; simp
theorem macsAll_of : ∀ l : List Mac, (∀ m ∈ l, TrueMac m) → macsAll (codeB l) = some l
  | [], _ => rfl
  | m :: l, h => by
    have e : codeB (m :: l) = macB m ++ codeB l := by unfold codeB; rw [List.flatMap_cons]
    rw [e, macsAll_step (by intro h0; exact macB_pos m (List.append_eq_nil_iff.1 h0).1), macL_of (h m (by simp))]
    simp only [Option.bind_some]
    rw [macsAll_of l (fun x hx => h x (by simp [hx]))]
    rfl
theorem readL_of {l : List Mac} (h : ∀ m ∈ l, TrueMac m) (hf : macsFault l = (0, 0)) (hl : (codeB l).length ≤ 70000) : readL (codeB l) = some l := by
  rw [readL_eq, if_neg (by omega), macsAll_of l h]
  simp [hf]
end Go.Proofs.YtkodcoianakjoaaDoor
