/- The instructions that statements make of raw numbers, plainly. The bytes of an instruction, plainly. Code that is made of raw numbers may be; its bytes are read as it. What is written into bytes is read out of them: numbers, instructions. -/
import Derived.Test.YtcakodemngchpaaGreatDoorReadB
import Derived.Test.YtcakodemngchpaaGreatDoorAppA
import Derived.Test.YtcakodemngchpaaGreatDoorPlainA
import Derived.Test.YtcakodemngchpaaGreatDoorLoadP
/- The instructions that statements make of raw numbers, plainly. -/
namespace Go.Proofs.YtcakodemngchpaaGreatDoor
open Go.RowKit
set_option linter.unusedSimpArgs false
set_option linter.unusedVariables false

def opOf (a : Int) (r : Nat) : Int := if 1 + a % 47 = 45 ∨ (1 + a % 47 = 44 ∧ r = 0) then 47 else 1 + a % 47
/-- What N is made of. -/
def numOf (op b n : Int) (many r : Nat) : Int :=
  if (shapeOf op).n = 1 then (if 33 ≤ op ∨ 0 < b.tdiv 64 % 4 then n % 7 - 1 else n)
  else if (shapeOf op).n = 2 then n % many else if (shapeOf op).n = 3 then n % 4 else if (shapeOf op).n = 4 then n % r else 0
def macOf (a b n : Int) (many r : Nat) : Mac :=
  ⟨opOf a r, if (shapeOf (opOf a r)).d then b % 4 else 0, if (shapeOf (opOf a r)).a then b.tdiv 4 % 4 else 0, if (shapeOf (opOf a r)).b then b.tdiv 16 % 4 else 0, numOf (opOf a r) b n many r⟩
/-- Instructions of raw numbers, three each. -/
def codeMany (l : List Int) (n : Nat) : Nat := min (l.length / 3) n
def macAt (l : List Int) (many r : Nat) (i : Nat) : Mac := macOf (l.getD (3 * i) 0) (l.getD (3 * i + 1) 0) (l.getD (3 * i + 2) 0) many r
def codeOf (l : List Int) (n r : Nat) : List Mac := (List.range (codeMany l n)).map (macAt l (codeMany l n + 1) r) ++ [⟨45, 0, 0, 0, 0⟩]
theorem opOf_known (a : Int) (r : Nat) : known (opOf a r) = true ∧ opOf a r ≠ 45 := by
  have h0 := Int.emod_nonneg a (show (47 : Int) ≠ 0 by decide)
  have h1 := Int.emod_lt_of_pos a (show (0 : Int) < 47 by decide)
  unfold opOf known
  split
  · exact ⟨by decide, by decide⟩
  · exact ⟨by simp; omega, by omega⟩
theorem opOf_call (a : Int) : opOf a 0 ≠ 44 := by
  unfold opOf
  split <;> omega
theorem shape_routine (op : Int) (h : (shapeOf op).n = 4) : op = 44 := by
  unfold shapeOf at h
  split at h
  · rename_i hb
    obtain ⟨k, rfl⟩ : ∃ k : Nat, op = (k : Int) := ⟨op.toNat, by omega⟩
    have key : ∀ k : Nat, k < 48 → (shapeTab.getD k ⟨false, false, false, 0⟩).n = 4 → k = 44 := by decide
    have := key k (by omega) h
    omega
  · simp at h
theorem opOf_routine (a : Int) (r : Nat) (h : (shapeOf (opOf a r)).n = 4) : 0 < r := by
  have e := shape_routine _ h
  rcases Nat.eq_zero_or_pos r with h0 | h0
  · subst h0
    exact absurd e (opOf_call a)
  · exact h0
end Go.Proofs.YtcakodemngchpaaGreatDoor

/- The bytes of an instruction, plainly. -/
namespace Go.Proofs.YtcakodemngchpaaGreatDoor
open Go.RowKit
set_option linter.unusedSimpArgs false
set_option linter.unusedVariables false

/-- The registers that an instruction speaks of. -/
def regsOf (m : Mac) : List Int := (if (shapeOf m.op).d then [m.dst] else []) ++ (if (shapeOf m.op).a then [m.a] else []) ++ (if (shapeOf m.op).b then [m.b] else [])
def regsB : List Int → List UInt8
  | [] => []
  | [x] => [UInt8.ofNat x.toNat]
  | x :: y :: t => UInt8.ofNat (16 * x + y).toNat :: regsB t
def macB (m : Mac) : List UInt8 := UInt8.ofNat m.op.toNat :: (regsB (regsOf m) ++ if (shapeOf m.op).n = 0 then [] else numB (foldN m.n))
def codeB (l : List Mac) : List UInt8 := l.flatMap macB
/-- An instruction whose registers may be, and whose number fits. -/
structure GoodMac (m : Mac) : Prop where
  known : known m.op = true
  regs : ∀ x ∈ regsOf m, 0 ≤ x ∧ x ≤ 15
  num : I64 m.n
theorem regsB_len : ∀ l : List Int, (regsB l).length ≤ l.length
  | [] => by simp [regsB]
  | [x] => by simp [regsB]
  | x :: y :: t => by have := regsB_len t; simp [regsB]; omega
theorem drop_at {l : List Int} {j : Nat} (h : j < l.length) : l.drop j = l.getD j 0 :: l.drop (j + 1) := by
  rw [List.drop_eq_getElem_cons h, List.getD_eq_getElem?_getD, List.getElem?_eq_getElem h]
  rfl
theorem regsB_end {l : List Int} {j : Nat} (h : l.length ≤ j) : regsB (l.drop j) = [] := by
  rw [List.drop_eq_nil_of_le h]
  rfl
theorem regsB_one {l : List Int} {j : Nat} (h : j + 1 = l.length) : regsB (l.drop j) = [UInt8.ofNat (l.getD j 0).toNat] := by
  rw [drop_at (by omega), List.drop_eq_nil_of_le (show l.length ≤ j + 1 by omega)]
  rfl
theorem regsB_two {l : List Int} {j : Nat} (h : j + 1 < l.length) : regsB (l.drop j) = UInt8.ofNat (16 * l.getD j 0 + l.getD (j + 1) 0).toNat :: regsB (l.drop (j + 2)) := by
  rw [drop_at (by omega), drop_at h]
  rfl
theorem regsOf_len (m : Mac) : (regsOf m).length ≤ 3 := by
  unfold regsOf
  cases (shapeOf m.op).d <;> cases (shapeOf m.op).a <;> cases (shapeOf m.op).b <;> simp
theorem macB_len (m : Mac) : (macB m).length ≤ 14 := by
  have h1 := regsB_len (regsOf m)
  have h2 := regsOf_len m
  have h3 := numB_len (foldN m.n)
  unfold macB
  rw [List.length_cons, List.length_append]
  split
  · simp; omega
  · omega
end Go.Proofs.YtcakodemngchpaaGreatDoor

/- Code that is made of raw numbers may be; its bytes are read as it. -/
namespace Go.Proofs.YtcakodemngchpaaGreatDoor
open Go.RowKit
set_option linter.unusedSimpArgs false
set_option linter.unusedVariables false

theorem mod_range (x : Int) (k : Int) (hk : 0 < k) : 0 ≤ x % k ∧ x % k < k := ⟨Int.emod_nonneg x (by omega), Int.emod_lt_of_pos x hk⟩
theorem shape_kind (op : Int) : (shapeOf op).n = 0 ∨ (shapeOf op).n = 1 ∨ (shapeOf op).n = 2 ∨ (shapeOf op).n = 3 ∨ (shapeOf op).n = 4 := by
  unfold shapeOf
  split
  · rename_i hb
    obtain ⟨k, rfl⟩ : ∃ k : Nat, op = (k : Int) := ⟨op.toNat, by omega⟩
    have key : ∀ k : Nat, k < 48 → (shapeTab.getD k ⟨false, false, false, 0⟩).n = 0 ∨ (shapeTab.getD k ⟨false, false, false, 0⟩).n = 1 ∨ (shapeTab.getD k ⟨false, false, false, 0⟩).n = 2 ∨ (shapeTab.getD k ⟨false, false, false, 0⟩).n = 3 ∨ (shapeTab.getD k ⟨false, false, false, 0⟩).n = 4 := by decide
    exact key k (by omega)
  · exact .inl rfl
theorem macOf_good (a b n : Int) (many r : Nat) (hn : I64 n) (hm : 0 < many) (hm1 : many ≤ 1000000) (hr1 : r ≤ 1000000) : GoodMac (macOf a b n many r) := by
  have h1 := mod_range b 4 (by decide)
  have h2 := mod_range (b.tdiv 4) 4 (by decide)
  have h3 := mod_range (b.tdiv 16) 4 (by decide)
  refine ⟨(opOf_known a r).1, fun x hx => ?_, ?_⟩
  · unfold regsOf macOf at hx
    simp only [] at hx
    generalize shapeOf (opOf a r) = s at hx
    cases hd : s.d <;> cases ha : s.a <;> cases hb : s.b <;> simp [hd, ha, hb] at hx <;> omega
  · obtain ⟨h4, h5⟩ := hn
    have h6 := mod_range n 7 (by decide)
    have h7 := mod_range n 4 (by decide)
    have h8 := mod_range n many (by omega)
    show I64 (numOf (opOf a r) b n many r)
    have hrt := opOf_routine a r
    unfold numOf I64
    rcases shape_kind (opOf a r) with e | e | e | e | e
    all_goals rw [e]
    · simp
    · simp only [if_true, if_pos rfl]
      split <;> omega
    · simp; omega
    · simp; omega
    · have h9 := mod_range n r (by have := hrt e; omega)
      simp; omega
/-- It may be, in a list of so many. -/
theorem macOf_fine (a b n : Int) (many r : Nat) (len : Int) (hm : 0 < many) (hl : (many : Int) ≤ len) : macF (macOf a b n many r) len = 0 := by
  have h1 := mod_range b 4 (by decide)
  have h2 := mod_range (b.tdiv 4) 4 (by decide)
  have h3 := mod_range (b.tdiv 16) 4 (by decide)
  have h7 := mod_range n 4 (by decide)
  have h8 := mod_range n many (by omega)
  have hk := (opOf_known a r).1
  have hrt := opOf_routine a r
  have hkind := shape_kind (opOf a r)
  unfold macF macOf
  simp only []
  rw [if_neg (by rw [hk]; simp)]
  have e1 : fieldF (shapeOf (opOf a r)).d (if (shapeOf (opOf a r)).d then b % 4 else 0) = 0 := by
    unfold fieldF
    cases (shapeOf (opOf a r)).d
    · simp
    · simp; omega
  have e2 : fieldF (shapeOf (opOf a r)).a (if (shapeOf (opOf a r)).a then b.tdiv 4 % 4 else 0) = 0 := by
    unfold fieldF
    cases (shapeOf (opOf a r)).a
    · simp
    · simp; omega
  have e3 : fieldF (shapeOf (opOf a r)).b (if (shapeOf (opOf a r)).b then b.tdiv 16 % 4 else 0) = 0 := by
    unfold fieldF
    cases (shapeOf (opOf a r)).b
    · simp
    · simp; omega
  have e4 : numberF (shapeOf (opOf a r)).n (numOf (opOf a r) b n many r) len = 0 := by
    unfold numberF numOf
    rcases hkind with e | e | e | e | e
    all_goals rw [e]
    · simp
    · simp
    · simp; omega
    · simp; omega
    · have h9 := mod_range n r (by have := hrt e; omega)
      simp; omega
  rw [e1, e2, e3, e4]
  simp
theorem macsFrom_fine (l : List Mac) (h : ∀ m ∈ l, macF m l.length = 0) (hz : (l.getD (l.length - 1) ⟨0, 0, 0, 0, 0⟩).op = 45) : ∀ (f i : Nat), f + i = l.length → macsFrom l f i = (0, 0)
  | 0, i, hi => by
    rw [macsFrom, if_pos (.inr hz)]
  | f + 1, i, hi => by
    have hm : l.getD i ⟨0, 0, 0, 0, 0⟩ ∈ l := by
      rw [List.getD_eq_getElem?_getD, List.getElem?_eq_getElem (show i < l.length by omega)]
      exact List.getElem_mem _
    rw [macsFrom, if_neg (by rw [h _ hm]; simp)]
    exact macsFrom_fine l h hz f (i + 1) (by omega)
theorem macsFault_fine {l : List Mac} (hl : l.length ≤ 5000) (hne : l ≠ []) (h : ∀ m ∈ l, macF m l.length = 0) (hz : (l.getD (l.length - 1) ⟨0, 0, 0, 0, 0⟩).op = 45) : macsFault l = (0, 0) := by
  unfold macsFault
  rw [if_neg (by omega), if_neg hne]
  exact macsFrom_fine l h hz _ _ (by simp)
end Go.Proofs.YtcakodemngchpaaGreatDoor

/- What is written into bytes is read out of them: numbers, instructions. -/
namespace Go.Proofs.YtcakodemngchpaaGreatDoor
open Go.RowKit
set_option linter.unusedSimpArgs false
set_option linter.unusedVariables false

theorem numL_of : ∀ (f i acc n : Nat) (r : List UInt8), f + i = 10 → n < 2 ^ (64 - 7 * i) → (0 < i → 0 < n) → numL f i acc (numF f n ++ r) = some (acc + n * 2 ^ (7 * i), r)
  | 0, i, acc, n, r, hf, hn, hp => by
    obtain rfl : i = 10 := by omega
    have := hp (by omega)
    simp at hn
    omega
  | f + 1, i, acc, n, r, hf, hn, hp => by
    by_cases h : n < 128
    · have e : (UInt8.ofNat n).toNat = n := by rw [UInt8.toNat_ofNat']; omega
      rw [numF, if_pos h]
      simp only [List.cons_append, List.nil_append]
      rw [numL, e, if_neg, if_pos h]
      rintro (⟨h9, h1⟩ | ⟨h1, h2⟩)
      · subst h9
        simp at hn
        omega
      · have := hp h1
        omega
    · have hi9 : i < 9 := by
        rcases Nat.lt_or_ge i 9 with h9 | h9
        · exact h9
        · obtain rfl : i = 9 := by omega
          simp at hn
          omega
      have e : (UInt8.ofNat (n % 128 + 128)).toNat = n % 128 + 128 := by rw [UInt8.toNat_ofNat']; omega
      have h2 : (2 : Nat) ^ (64 - 7 * i) = 128 * 2 ^ (64 - 7 * (i + 1)) := by
        rw [show 64 - 7 * i = 7 + (64 - 7 * (i + 1)) from by omega, Nat.pow_add]
      have ih := numL_of f (i + 1) (acc + n % 128 * 2 ^ (7 * i)) (n / 128) r (by omega) (by omega) (fun _ => by omega)
      rw [numF, if_neg h]
      simp only [List.cons_append]
      rw [numL, e, if_neg (by omega), if_neg (by omega), show n % 128 + 128 - 128 = n % 128 from by omega, ih]
      congr 2
      have h3 : (2 : Nat) ^ (7 * (i + 1)) = 128 * 2 ^ (7 * i) := by
        rw [show 7 * (i + 1) = 7 + 7 * i from by omega, Nat.pow_add]
      rw [h3, Nat.add_assoc, ← Nat.mul_assoc, ← Nat.add_mul]
      congr 2
      omega
theorem numberL_of {n : Nat} (hn : n < 18446744073709551616) (r : List UInt8) : numberL (numB n ++ r) = some (n, r) := by
  have := numL_of 10 0 0 n r rfl (by simpa using hn) (fun h => absurd h (Nat.lt_irrefl 0))
  show numL 10 0 0 (numF 10 n ++ r) = some (n, r)
  simpa using this
theorem unfoldN_foldN (n : Int) : unfoldN (foldN n) = n := by
  unfold unfoldN foldN
  split <;> split <;> omega
theorem regsL_of : ∀ (l : List Int) (r : List UInt8), (∀ x ∈ l, 0 ≤ x ∧ x ≤ 15) → regsL l.length (regsB l ++ r) = some (l, r)
  | [], r, _ => rfl
  | [x], r, h => by
    have hx := h x (by simp)
    have e : (UInt8.ofNat x.toNat).toNat = x.toNat := by rw [UInt8.toNat_ofNat']; omega
    show regsL 1 (UInt8.ofNat x.toNat :: r) = _
    rw [regsL, e, if_neg (by omega), Int.toNat_of_nonneg hx.1]
  | x :: y :: t, r, h => by
    have hx := h x (by simp)
    have hy := h y (by simp)
    have e : (UInt8.ofNat (16 * x + y).toNat).toNat = (16 * x + y).toNat := by rw [UInt8.toNat_ofNat']; omega
    have ih := regsL_of t r (fun z hz => h z (by simp [hz]))
    show regsL (t.length + 2) (UInt8.ofNat (16 * x + y).toNat :: (regsB t ++ r)) = _
    rw [regsL, e, ih, show (16 * x + y).toNat / 16 = x.toNat from by omega, show (16 * x + y).toNat % 16 = y.toNat from by omega, Int.toNat_of_nonneg hx.1, Int.toNat_of_nonneg hy.1]
    rfl
theorem regsOf_many (m : Mac) : (regsOf m).length = (shapeOf m.op).many := by
  unfold regsOf Shape.many
  cases (shapeOf m.op).d <;> cases (shapeOf m.op).a <;> cases (shapeOf m.op).b <;> rfl
/-- An instruction of which nothing is told but what its Op speaks of. -/
structure TrueMac (m : Mac) : Prop extends GoodMac m where
  dst : (shapeOf m.op).d = false → m.dst = 0
  a : (shapeOf m.op).a = false → m.a = 0
  b : (shapeOf m.op).b = false → m.b = 0
  n : (shapeOf m.op).n = 0 → m.n = 0
theorem place_of {m : Mac} (h : TrueMac m) : placeRegs (shapeOf m.op) m.op (regsOf m) m.n = m := by
  obtain ⟨_, h1, h2, h3, _⟩ := h
  unfold placeRegs regsOf
  cases hd : (shapeOf m.op).d <;> cases ha : (shapeOf m.op).a <;> cases hb : (shapeOf m.op).b <;> simp [hd, ha, hb] at h1 h2 h3 ⊢
  all_goals (cases m; simp_all)
theorem macL_of {m : Mac} (h : TrueMac m) (r : List UInt8) : macL (macB m ++ r) = some (m, r) := by
  have hk := h.known
  have hop : 1 ≤ m.op ∧ m.op ≤ 47 := by simpa [known] using hk
  have e : (UInt8.ofNat m.op.toNat).toNat = m.op.toNat := by rw [UInt8.toNat_ofNat']; omega
  have e2 : (((UInt8.ofNat m.op.toNat).toNat : Nat) : Int) = m.op := by rw [e]; omega
  unfold macB
  simp only [List.cons_append]
  rw [macL, e2, if_neg (by rw [hk]; simp), ← regsOf_many, List.append_assoc, regsL_of _ _ h.regs]
  simp only [Option.bind_some]
  by_cases hn : (shapeOf m.op).n = 0
  · rw [if_pos hn, if_pos hn]
    have := place_of h
    rw [h.n hn] at this
    simp [this]
  · rw [if_neg hn, if_neg hn, numberL_of (foldN_lt h.num.1 h.num.2)]
    simp only [Option.map_some, unfoldN_foldN]
    rw [place_of h]
theorem macB_pos (m : Mac) : macB m ≠ [] := by unfold macB; simp
theorem macsAll_of : ∀ l : List Mac, (∀ m ∈ l, TrueMac m) → macsAll (codeB l) = some l
  | [], _ => rfl
  | m :: l, h => by
    have e : codeB (m :: l) = macB m ++ codeB l := by unfold codeB; rw [List.flatMap_cons]
    rw [e, macsAll_step (by intro h0; exact macB_pos m (List.append_eq_nil_iff.1 h0).1), macL_of (h m (by simp))]
    simp only [Option.bind_some]
    rw [macsAll_of l (fun x hx => h x (by simp [hx]))]
    rfl
theorem readL_of {l : List Mac} (h : ∀ m ∈ l, TrueMac m) (hf : macsFault l = (0, 0)) (hl : (codeB l).length ≤ 70000) : readL (codeB l) = some l := by
  rw [readL_eq, if_neg (by omega), macsAll_of l h]
  simp [hf]
end Go.Proofs.YtcakodemngchpaaGreatDoor
