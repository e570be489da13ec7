/- What is read out of bytes is what is written into them, plainly. What is written is read back: an object's bytes give the object. -/
import Derived.Test.YtcakodemngchpaaGreatDoorLoadP
import Derived.Test.YtcakodemngchpaaGreatDoorKitPl
import Derived.Test.YtcakodemngchpaaGreatDoorAppA
/- What is read out of bytes is what is written into them, plainly. -/
namespace Go.Proofs.YtcakodemngchpaaGreatDoor
open Go.RowKit
set_option linter.unusedSimpArgs false
set_option linter.unusedVariables false

theorem numL_num : ∀ (f i acc : Nat) (bs : List UInt8) (n : Nat) (r : List UInt8), f + i = 10 → numL f i acc bs = some (n, r) →
    ∃ m, n = acc + m * 2 ^ (7 * i) ∧ numF f m ++ r = bs ∧ (0 < i → 0 < m) ∧ m < 2 ^ (64 - 7 * i)
  | 0, i, acc, bs, n, r, hf, h => by simp [numL] at h
  | f + 1, i, acc, [], n, r, hf, h => by simp [numL] at h
  | f + 1, i, acc, b :: bs, n, r, hf, h => by
    have hb := b.toNat_lt
    unfold numL at h
    split at h
    · cases h
    rename_i h0
    split at h
    · rename_i h1
      obtain ⟨rfl, rfl⟩ := Prod.mk.inj (Option.some.inj h)
      refine ⟨b.toNat, rfl, ?_, fun hi => ?_, ?_⟩
      · rw [numF, if_pos h1]
        simp
      · rcases Nat.eq_zero_or_pos b.toNat with e | e
        · exact absurd (.inr ⟨hi, e⟩) h0
        · exact e
      · by_cases e : i = 9
        · subst e
          have : ¬ 1 < b.toNat := fun h => h0 (.inl ⟨rfl, h⟩)
          simp
          omega
        · exact Nat.lt_of_lt_of_le h1 (show 2 ^ 7 ≤ _ from Nat.pow_le_pow_right (by decide) (by omega))
    · rename_i h1
      obtain ⟨m, rfl, rfl, hm, hlt⟩ := numL_num f (i + 1) _ bs n r (by omega) h
      have hm0 := hm (by omega)
      refine ⟨(b.toNat - 128) + 128 * m, ?_, ?_, fun _ => by omega, ?_⟩
      · rw [show 7 * (i + 1) = 7 * i + 7 from by omega, Nat.pow_add, Nat.add_mul, Nat.add_assoc, show m * (2 ^ (7 * i) * 2 ^ 7) = 128 * m * 2 ^ (7 * i) from by
          rw [show (2 : Nat) ^ 7 = 128 from rfl, Nat.mul_comm (2 ^ (7 * i)) 128, ← Nat.mul_assoc, Nat.mul_comm m 128]]
      · rw [numF, if_neg (by omega), show ((b.toNat - 128) + 128 * m) % 128 = b.toNat - 128 from by omega, show ((b.toNat - 128) + 128 * m) / 128 = m from by omega, show b.toNat - 128 + 128 = b.toNat from by omega]
        simp
      · rcases Nat.lt_or_ge i 9 with e | e
        · have h2 : (2 : Nat) ^ (64 - 7 * i) = 128 * 2 ^ (64 - 7 * (i + 1)) := by
            rw [show 64 - 7 * i = 7 + (64 - 7 * (i + 1)) from by omega, Nat.pow_add]
          omega
        · have : f = 0 := by omega
          subst this
          simp [numL] at h
theorem numberL_num {bs : List UInt8} {n : Nat} {r : List UInt8} (h : numberL bs = some (n, r)) : numB n ++ r = bs ∧ n < 18446744073709551616 := by
  obtain ⟨m, rfl, h1, _, h2⟩ := numL_num 10 0 0 bs n r rfl h
  simp only [Nat.mul_zero, Nat.pow_zero, Nat.mul_one, Nat.zero_add, Nat.sub_zero] at h1 h2 ⊢
  exact ⟨h1, h2⟩
theorem foldN_unfoldN (n : Nat) : foldN (unfoldN n) = n := by
  unfold foldN unfoldN
  split <;> split <;> omega
theorem unfoldN_wide {n : Nat} (h : n < 18446744073709551616) : I64 (unfoldN n) := by
  unfold I64 unfoldN
  split <;> omega
/-- A reading gives back what has been written. -/
def Backs {α : Type} (one : Prs α) (f : α → List UInt8) : Prop := ∀ bs x r, one bs = some (x, r) → f x ++ r = bs
theorem manyL_back {bs : List UInt8} {n : Nat} {r : List UInt8} (h : manyL bs = some (n, r)) : numB n ++ r = bs ∧ n ≤ r.length := by
  obtain ⟨h1, h2⟩ := manyL_some.1 h
  exact ⟨(numberL_num h1).1, h2⟩
theorem textL_back : Backs textL textB := fun bs s r h => by
  obtain ⟨n, r', h1, rfl, rfl⟩ := textL_some.1 h
  obtain ⟨h2, h3⟩ := manyL_back h1
  unfold textB
  rw [strL_size, List.length_take, Nat.min_eq_left h3, List.append_assoc]
  simp [strL, h2]
theorem smallL_back {bs : List UInt8} {n : Nat} {r : List UInt8} (h : smallL bs = some (n, r)) : numB n ++ r = bs ∧ n ≤ 90000 := by
  obtain ⟨h1, h2⟩ := smallL_some.1 h
  exact ⟨(numberL_num h1).1, h2⟩
theorem intL_back : Backs intL (fun n => numB (foldN n)) := fun bs x r h => by
  unfold intL at h
  rw [Option.map_eq_some_iff] at h
  obtain ⟨⟨m, r'⟩, h1, h2⟩ := h
  obtain ⟨rfl, rfl⟩ := Prod.mk.inj h2
  simp only [foldN_unfoldN]
  exact (numberL_num h1).1
theorem timesL_back {α : Type} {one : Prs α} {f : α → List UInt8} (h1 : Backs one f) : ∀ (n : Nat) (bs : List UInt8) (xs : List α) (r : List UInt8), timesL one n bs = some (xs, r) → xs.flatMap f ++ r = bs ∧ xs.length = n
  | 0, bs, xs, r, h => by
    obtain ⟨rfl, rfl⟩ := Prod.mk.inj (Option.some.inj h)
    exact ⟨rfl, rfl⟩
  | n + 1, bs, xs, r, h => by
    rw [timesL, Option.bind_eq_some_iff] at h
    obtain ⟨⟨x, r1⟩, h2, h3⟩ := h
    rw [Option.map_eq_some_iff] at h3
    obtain ⟨⟨ys, r2⟩, h4, h5⟩ := h3
    obtain ⟨rfl, rfl⟩ := Prod.mk.inj h5
    obtain ⟨h6, h7⟩ := timesL_back h1 n _ _ _ h4
    refine ⟨?_, by simp [h7]⟩
    simp only [] at h6 ⊢
    rw [List.flatMap_cons, List.append_assoc, h6]
    exact h1 _ _ _ h2
theorem timesL_mem {α : Type} {one : Prs α} {p : α → Prop} (h1 : ∀ bs x r, one bs = some (x, r) → p x) : ∀ (n : Nat) (bs : List UInt8) (xs : List α) (r : List UInt8), timesL one n bs = some (xs, r) → ∀ x ∈ xs, p x
  | 0, bs, xs, r, h => by
    obtain ⟨rfl, rfl⟩ := Prod.mk.inj (Option.some.inj h)
    intro x hx
    cases hx
  | n + 1, bs, xs, r, h => by
    rw [timesL, Option.bind_eq_some_iff] at h
    obtain ⟨⟨x, r1⟩, h2, h3⟩ := h
    rw [Option.map_eq_some_iff] at h3
    obtain ⟨⟨ys, r2⟩, h4, h5⟩ := h3
    obtain ⟨rfl, rfl⟩ := Prod.mk.inj h5
    intro y hy
    rcases List.mem_cons.1 hy with rfl | hy
    · exact h1 _ _ _ h2
    · exact timesL_mem h1 n _ _ _ h4 y hy
theorem listL_times {α : Type} {one : Prs α} {bs : List UInt8} {xs : List α} {r : List UInt8} (h : listL one bs = some (xs, r)) : ∃ n r1, manyL bs = some (n, r1) ∧ timesL one n r1 = some (xs, r) := by
  unfold listL at h
  rw [Option.bind_eq_some_iff] at h
  obtain ⟨⟨n, r1⟩, h2, h3⟩ := h
  exact ⟨n, r1, h2, h3⟩
theorem listL_back {α : Type} {one : Prs α} {f : α → List UInt8} (h1 : Backs one f) : Backs (listL one) (fun xs => numB xs.length ++ xs.flatMap f) := fun bs xs r h => by
  obtain ⟨n, r1, h2, h3⟩ := listL_times h
  obtain ⟨h4, rfl⟩ := timesL_back h1 _ _ _ _ h3
  obtain ⟨h5, _⟩ := manyL_back h2
  simp only []
  rw [List.append_assoc, h4, h5]
theorem globalL_back : Backs globalL globB := fun bs g r h => by
  unfold globalL at h
  rw [Option.bind_eq_some_iff] at h
  obtain ⟨⟨s, r1⟩, h1, h⟩ := h
  rw [Option.bind_eq_some_iff] at h
  obtain ⟨⟨n, r2⟩, h2, h⟩ := h
  rw [Option.map_eq_some_iff] at h
  obtain ⟨⟨xs, r3⟩, h3, h⟩ := h
  obtain ⟨rfl, rfl⟩ := Prod.mk.inj h
  simp only [] at h1 h2 h3 ⊢
  have e1 := textL_back _ _ _ h1
  have e2 := (smallL_back h2).1
  have e3 := listL_back intL_back _ _ _ h3
  unfold globB initB
  simp only [Int.toNat_natCast] at e3 ⊢
  rw [List.append_assoc, List.append_assoc, e3, e2, e1]
theorem mendL_back : Backs mendL mendB := fun bs m r h => by
  unfold mendL at h
  rw [Option.bind_eq_some_iff] at h
  obtain ⟨⟨n, r1⟩, h1, h⟩ := h
  rw [Option.map_eq_some_iff] at h
  obtain ⟨⟨s, r2⟩, h2, h⟩ := h
  obtain ⟨rfl, rfl⟩ := Prod.mk.inj h
  simp only [] at h1 h2 ⊢
  unfold mendB
  simp only [Int.toNat_natCast]
  rw [List.append_assoc, textL_back _ _ _ h2, (smallL_back h1).1]
theorem sectionL_back : Backs sectionL secB := fun bs g r h => by
  unfold sectionL at h
  rw [Option.bind_eq_some_iff] at h
  obtain ⟨⟨s, r1⟩, h1, h⟩ := h
  rw [Option.bind_eq_some_iff] at h
  obtain ⟨⟨c, r2⟩, h2, h⟩ := h
  rw [Option.map_eq_some_iff] at h
  obtain ⟨⟨xs, r3⟩, h3, h⟩ := h
  obtain ⟨rfl, rfl⟩ := Prod.mk.inj h
  simp only [] at h1 h2 h3 ⊢
  have e1 := textL_back _ _ _ h1
  have e2 := textL_back _ _ _ h2
  have e3 := listL_back mendL_back _ _ _ h3
  unfold secB mendsB
  simp only [] at e3 ⊢
  rw [show strL c.data.toList = c from by simp [strL], List.append_assoc, List.append_assoc, e3, e2, e1]
theorem objectL_back {bs : List UInt8} {o : Object} (h : objectL bs = some o) : [79, 66, 74] ++ bs = bodyB o := by
  unfold objectL at h
  rw [Option.bind_eq_some_iff] at h
  obtain ⟨⟨gs, r1⟩, h1, h⟩ := h
  rw [Option.bind_eq_some_iff] at h
  obtain ⟨⟨ss, r2⟩, h2, h⟩ := h
  simp only [] at h1 h2 h
  split at h
  · rename_i h3
    subst h3
    injection h with h
    subst h
    have e1 := listL_back globalL_back _ _ _ h1
    have e2 := listL_back sectionL_back _ _ _ h2
    unfold bodyB globsB secsB
    simp only [List.append_nil, List.append_assoc] at e1 e2 ⊢
    rw [e2, e1]
  · cases h
theorem objectL_wide {bs : List UInt8} {o : Object} (h : objectL bs = some o) : Wide o := by
  unfold objectL at h
  rw [Option.bind_eq_some_iff] at h
  obtain ⟨⟨gs, r1⟩, h1, h⟩ := h
  rw [Option.bind_eq_some_iff] at h
  obtain ⟨⟨ss, r2⟩, h2, h⟩ := h
  simp only [] at h1 h2 h
  split at h
  · injection h with h
    subst h
    obtain ⟨n, r3, _, h4⟩ := listL_times h1
    refine timesL_mem (p := fun g : Global => ∀ n ∈ g.init, I64 n) ?_ _ _ _ _ h4
    intro bs g r hg
    unfold globalL at hg
    rw [Option.bind_eq_some_iff] at hg
    obtain ⟨⟨s, r1⟩, _, hg⟩ := hg
    rw [Option.bind_eq_some_iff] at hg
    obtain ⟨⟨n, r2⟩, _, hg⟩ := hg
    rw [Option.map_eq_some_iff] at hg
    obtain ⟨⟨xs, r3⟩, h3, hg⟩ := hg
    obtain ⟨rfl, rfl⟩ := Prod.mk.inj hg
    obtain ⟨n, r5, _, h6⟩ := listL_times h3
    refine timesL_mem (p := I64) ?_ _ _ _ _ h6
    intro bs x r hx
    unfold intL at hx
    rw [Option.map_eq_some_iff] at hx
    obtain ⟨⟨m, r'⟩, h1, h2⟩ := hx
    obtain ⟨rfl, rfl⟩ := Prod.mk.inj h2
    exact unfoldN_wide (numberL_num h1).2
  · cases h
theorem two_last (b : List UInt8) (h : 2 ≤ b.length) : b = b.take (b.length - 2) ++ [b.getD (b.length - 2) 0, b.getD (b.length - 1) 0] := by
  obtain ⟨K, hK⟩ : ∃ K, b.length = K + 2 := ⟨b.length - 2, by omega⟩
  rw [hK, show K + 2 - 2 = K from rfl, show K + 2 - 1 = K + 1 from rfl]
  conv => lhs; rw [← List.take_append_drop K b]
  congr 1
  rw [List.drop_eq_getElem_cons (by omega), List.drop_eq_getElem_cons (by omega), List.drop_of_length_le (by omega)]
  simp only [List.getD_eq_getElem?_getD]
  rw [List.getElem?_eq_getElem (by omega), List.getElem?_eq_getElem (by omega)]
  rfl
/-- Bytes that are read are those of what is read. -/
theorem loadedL_back {b : List UInt8} {o : Object} (h : loadedL b = some o) : savedB o = b ∧ Wide o := by
  unfold loadedL at h
  split at h
  · rename_i hh
    obtain ⟨h5, h3, hs⟩ := hh
    have hw := objectL_wide h
    have hb := objectL_back h
    refine ⟨?_, hw⟩
    have h3' : (b.take (b.length - 2)).take 3 = [79, 66, 74] := by rw [List.take_take, Nat.min_eq_left (by omega), h3]
    have e : bodyB o = b.take (b.length - 2) := by
      rw [← hb, ← h3', List.take_append_drop]
    unfold savedB sumB
    rw [e, hs]
    have hx := (b.getD (b.length - 2) 0).toNat_lt
    have hy := (b.getD (b.length - 1) 0).toNat_lt
    rw [show (256 * (b.getD (b.length - 2) 0).toNat + (b.getD (b.length - 1) 0).toNat) / 256 = (b.getD (b.length - 2) 0).toNat from by omega, show (256 * (b.getD (b.length - 2) 0).toNat + (b.getD (b.length - 1) 0).toNat) % 256 = (b.getD (b.length - 1) 0).toNat from by omega]
    conv => rhs; rw [two_last b (by omega)]
    simp
  · cases h
end Go.Proofs.YtcakodemngchpaaGreatDoor

/- What is written is read back: an object's bytes give the object. -/
namespace Go.Proofs.YtcakodemngchpaaGreatDoor
open Go.RowKit
set_option linter.unusedSimpArgs false
set_option linter.unusedVariables false

/-- A reading takes just what has been written of x. -/
def Into {α : Type} (one : Prs α) (f : α → List UInt8) (x : α) : Prop := ∀ r, one (f x ++ r) = some (x, r)
theorem manyL_of {n : Nat} {r : List UInt8} (hn : n < 18446744073709551616) (h : n ≤ r.length) : manyL (numB n ++ r) = some (n, r) :=
  manyL_some.2 ⟨numberL_of hn r, h⟩
theorem smallL_of {n : Nat} (h : n ≤ 90000) (r : List UInt8) : smallL (numB n ++ r) = some (n, r) := smallL_some.2 ⟨numberL_of (by omega) r, h⟩
theorem textL_of {s : ByteArray} (hs : s.size < 18446744073709551616) : Into textL textB s := fun r => by
  have hl : s.data.toList.length = s.size := by rw [Array.length_toList]; rfl
  refine textL_some.2 ⟨s.size, s.data.toList ++ r, ?_, ?_, ?_⟩
  · unfold textB
    rw [List.append_assoc]
    exact manyL_of hs (by rw [List.length_append, hl]; omega)
  · rw [← hl, List.take_left]
    simp [strL]
  · rw [← hl, List.drop_left]
theorem intL_of {x : Int} (h : I64 x) : Into intL (fun n => numB (foldN n)) x := fun r => by
  show intL (numB (foldN x) ++ r) = _
  unfold intL
  rw [numberL_of (foldN_lt h.1 h.2)]
  simp [unfoldN_foldN]
theorem timesL_of {α : Type} {one : Prs α} {f : α → List UInt8} : ∀ (xs : List α) (r : List UInt8), (∀ x ∈ xs, Into one f x) → timesL one xs.length (xs.flatMap f ++ r) = some (xs, r)
  | [], r, _ => rfl
  | x :: xs, r, h => by
    rw [List.length_cons, timesL, List.flatMap_cons, List.append_assoc, h x (by simp)]
    simp only [Option.bind_some]
    rw [timesL_of xs r (fun y hy => h y (by simp [hy]))]
    rfl
theorem flat_long {α : Type} {f : α → List UInt8} (hf : ∀ x, 0 < (f x).length) : ∀ xs : List α, xs.length ≤ (xs.flatMap f).length
  | [] => by simp
  | x :: xs => by
    have := flat_long hf xs
    have := hf x
    rw [List.flatMap_cons, List.length_append, List.length_cons]
    omega
theorem listL_of {α : Type} {one : Prs α} {f : α → List UInt8} (hf : ∀ x, 0 < (f x).length) {xs : List α} (hn : xs.length < 18446744073709551616) (h : ∀ x ∈ xs, Into one f x) (r : List UInt8) : listL one (numB xs.length ++ (xs.flatMap f ++ r)) = some (xs, r) := by
  unfold listL
  rw [manyL_of hn (by rw [List.length_append]; have := flat_long hf xs; omega)]
  simp only [Option.bind_some]
  exact timesL_of xs r h
theorem numB_pos_ (n : Nat) : 0 < (numB n).length := by
  unfold numB numF
  split <;> simp
theorem globalL_of {g : Global} (h1 : g.name.size < 18446744073709551616) (h2 : 0 ≤ g.size ∧ g.size ≤ 90000) (h3 : g.init.length < 18446744073709551616) (h4 : ∀ x ∈ g.init, I64 x) : Into globalL globB g := fun r => by
  unfold globB initB
  simp only [List.append_assoc]
  unfold globalL
  rw [textL_of h1]
  simp only [Option.bind_some]
  rw [smallL_of (by omega)]
  simp only [Option.bind_some]
  rw [listL_of (one := intL) (f := fun n => numB (foldN n)) (fun x => numB_pos_ _) h3 (fun x hx => intL_of (h4 x hx))]
  simp only [Option.map_some]
  rw [Int.toNat_of_nonneg h2.1]
theorem mendL_of {m : Mend} (h1 : 0 ≤ m.at_ ∧ m.at_ ≤ 90000) (h2 : m.name.size < 18446744073709551616) : Into mendL mendB m := fun r => by
  unfold mendB
  rw [List.append_assoc]
  unfold mendL
  rw [smallL_of (by omega)]
  simp only [Option.bind_some]
  rw [textL_of h2]
  simp only [Option.map_some]
  rw [Int.toNat_of_nonneg h1.1]
theorem sectionL_of {s : Section} (h1 : s.name.size < 18446744073709551616) (h2 : s.code.length < 18446744073709551616) (h3 : s.mends.length < 18446744073709551616) (h4 : ∀ m ∈ s.mends, Into mendL mendB m) : Into sectionL secB s := fun r => by
  unfold secB mendsB
  simp only [List.append_assoc]
  unfold sectionL
  rw [textL_of h1]
  simp only [Option.bind_some]
  rw [textL_of (by rw [strL_size]; exact h2)]
  simp only [Option.bind_some]
  rw [listL_of (one := mendL) (f := mendB) (fun x => by unfold mendB; have := numB_pos_ x.at_.toNat; rw [List.length_append]; omega) h3 h4]
  simp [strL]
theorem textB_pos (s : ByteArray) : 0 < (textB s).length := by unfold textB; have := numB_pos_ s.size; rw [List.length_append]; omega
theorem objectL_of {o : Object} (h1 : o.globals.length < 18446744073709551616) (h2 : o.sections.length < 18446744073709551616) (h3 : ∀ g ∈ o.globals, Into globalL globB g) (h4 : ∀ s ∈ o.sections, Into sectionL secB s) : objectL ((bodyB o).drop 3) = some o := by
  have e : (bodyB o).drop 3 = numB o.globals.length ++ (o.globals.flatMap globB ++ (numB o.sections.length ++ (o.sections.flatMap secB ++ []))) := by
    unfold bodyB globsB secsB
    simp [List.append_assoc]
  rw [e]
  unfold objectL
  rw [listL_of (one := globalL) (f := globB) (fun g => by unfold globB; have := textB_pos g.name; simp only [List.length_append]; omega) h1 h3]
  simp only [Option.bind_some]
  rw [listL_of (one := sectionL) (f := secB) (fun g => by unfold secB; have := textB_pos g.name; simp only [List.length_append]; omega) h2 h4]
  simp
/-- An object that may be is read out of its bytes. -/
theorem objectL_ok {o : Object} (h : ObjOk o) (hw : Wide o) : objectL ((bodyB o).drop 3) = some o := by
  obtain ⟨g1, g2⟩ := globFault_ok h.glob
  have hsec : ∀ s ∈ o.sections, goodName s.name = true ∧ secF s = 0 := fun s hs => by
    obtain ⟨j, hj, e⟩ := List.mem_iff_getElem.1 hs
    have := h.secs j s (by rw [List.getElem?_eq_getElem hj, e])
    exact ⟨this.good, this.fine⟩
  refine objectL_of (by omega) (by have := h.few; omega) (fun g hg => ?_) (fun s hs => ?_)
  · have hg2 := g2 g hg
    have h1 := hg2.low
    have h2 := hg2.high
    have h3 := hg2.fits
    have h4 := (goodName_len hg2.good).2
    exact globalL_of (by omega) (by omega) (by omega) (hw g hg)
  · obtain ⟨a, b⟩ := hsec s hs
    obtain ⟨c1, c2, c3⟩ := secF_ok b
    have h4 := (goodName_len a).2
    refine sectionL_of (by omega) (by omega) (by omega) (fun m hm => ?_)
    obtain ⟨d1, d2, d3⟩ := c3 m hm
    have h5 := (goodName_len d3).2
    exact mendL_of (by omega) (by omega)
theorem bodyB_head (o : Object) : (bodyB o).take 3 = [79, 66, 74] ∧ 5 ≤ (bodyB o).length := by
  have h1 := numB_pos_ o.globals.length
  have h2 := numB_pos_ o.sections.length
  unfold bodyB
  constructor
  · rfl
  · simp only [List.length_append, List.length_cons, List.length_nil]
    omega
theorem loadedL_saved {o : Object} (h : ObjOk o) (hw : Wide o) : loadedL (savedB o) = some o := by
  have hb := bodyB_head o
  have hs := sumL_lt (bodyB o)
  have hl : (savedB o).length = (bodyB o).length + 2 := by unfold savedB sumB; simp
  have ht : (savedB o).take ((savedB o).length - 2) = bodyB o := by
    rw [hl, Nat.add_sub_cancel]
    unfold savedB sumB
    rw [List.take_left]
  have e1 : (UInt8.ofNat (sumL (bodyB o) / 256)).toNat = sumL (bodyB o) / 256 := by rw [UInt8.toNat_ofNat']; omega
  have e2 : (UInt8.ofNat (sumL (bodyB o) % 256)).toNat = sumL (bodyB o) % 256 := by rw [UInt8.toNat_ofNat']; omega
  have ha : (savedB o).getD ((savedB o).length - 2) 0 = UInt8.ofNat (sumL (bodyB o) / 256) := by
    rw [hl, Nat.add_sub_cancel]
    unfold savedB sumB
    simp [List.getD_eq_getElem?_getD]
  have hc : (savedB o).getD ((savedB o).length - 1) 0 = UInt8.ofNat (sumL (bodyB o) % 256) := by
    rw [hl, show (bodyB o).length + 2 - 1 = (bodyB o).length + 1 from rfl]
    unfold savedB sumB
    simp [List.getD_eq_getElem?_getD]
  unfold loadedL
  rw [if_pos]
  · rw [ht]
    exact objectL_ok h hw
  · unfold headOk
    rw [ht, ha, hc, e1, e2]
    refine ⟨by omega, ?_, by omega⟩
    unfold savedB sumB
    rw [List.take_append_of_le_length (by omega)]
    exact hb.1
end Go.Proofs.YtcakodemngchpaaGreatDoor
