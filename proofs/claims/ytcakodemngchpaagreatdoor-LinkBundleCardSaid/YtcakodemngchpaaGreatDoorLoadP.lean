/- What object bytes say, plainly. -/
import Derived.Test.YtcakodemngchpaaGreatDoorAppA
namespace Go.Proofs.YtcakodemngchpaaGreatDoor
open Go.RowKit
set_option linter.unusedSimpArgs false
set_option linter.unusedVariables false

abbrev Prs (α : Type) := List UInt8 → Option (α × List UInt8)
def manyL : Prs Nat := fun bs => (numberL bs).bind fun x => if x.1 ≤ x.2.length then some x else none
def textL : Prs ByteArray := fun bs => (manyL bs).map fun x => (strL (x.2.take x.1), x.2.drop x.1)
def smallL : Prs Nat := fun bs => (numberL bs).bind fun x => if x.1 ≤ 90000 then some x else none
def intL : Prs Int := fun bs => (numberL bs).map fun x => (unfoldN x.1, x.2)
def timesL {α : Type} (one : Prs α) : Nat → Prs (List α)
  | 0, bs => some ([], bs)
  | n + 1, bs => (one bs).bind fun x => (timesL one n x.2).map fun y => (x.1 :: y.1, y.2)
def listL {α : Type} (one : Prs α) : Prs (List α) := fun bs => (manyL bs).bind fun x => timesL one x.1 x.2
def globalL : Prs Global := fun bs => (textL bs).bind fun a => (smallL a.2).bind fun b => (listL intL b.2).map fun c => (⟨a.1, (b.1 : Int), c.1⟩, c.2)
def mendL : Prs Mend := fun bs => (smallL bs).bind fun a => (textL a.2).map fun b => (⟨(a.1 : Int), b.1⟩, b.2)
def sectionL : Prs Section := fun bs => (textL bs).bind fun a => (textL a.2).bind fun b => (listL mendL b.2).map fun c => (⟨a.1, b.1.data.toList, c.1⟩, c.2)
def objectL (bs : List UInt8) : Option Object := (listL globalL bs).bind fun g => (listL sectionL g.2).bind fun s => if s.2 = [] then some ⟨g.1, s.1⟩ else none
/-- The head stands there, and the sum. -/
def headOk (b : List UInt8) : Prop := 5 ≤ b.length ∧ b.take 3 = [79, 66, 74] ∧ sumL (b.take (b.length - 2)) = 256 * (b.getD (b.length - 2) 0).toNat + (b.getD (b.length - 1) 0).toNat
instance (b : List UInt8) : Decidable (headOk b) := by unfold headOk; exact inferInstance
def loadedL (b : List UInt8) : Option Object := if headOk b then objectL ((b.take (b.length - 2)).drop 3) else none
def Short {α : Type} (one : Prs α) : Prop := ∀ bs x r, one bs = some (x, r) → r.length < bs.length
theorem numberL_short : Short numberL := fun bs n r h => numL_short _ _ _ _ _ _ h
theorem manyL_some {bs : List UInt8} {n : Nat} {r : List UInt8} : manyL bs = some (n, r) ↔ numberL bs = some (n, r) ∧ n ≤ r.length := by
  unfold manyL
  constructor
  · intro h
    rw [Option.bind_eq_some_iff] at h
    obtain ⟨⟨m, r'⟩, h1, h2⟩ := h
    simp only [] at h2
    split at h2
    · obtain ⟨rfl, rfl⟩ := Prod.mk.inj (Option.some.inj h2)
      exact ⟨h1, by assumption⟩
    · cases h2
  · rintro ⟨h1, h2⟩
    rw [h1]
    simp [h2]
theorem manyL_short : Short manyL := fun bs n r h => numberL_short _ _ _ (manyL_some.1 h).1
theorem textL_some {bs : List UInt8} {s : ByteArray} {r : List UInt8} : textL bs = some (s, r) ↔ ∃ n r', manyL bs = some (n, r') ∧ s = strL (r'.take n) ∧ r = r'.drop n := by
  unfold textL
  rw [Option.map_eq_some_iff]
  constructor
  · rintro ⟨⟨n, r'⟩, h1, h2⟩
    obtain ⟨rfl, rfl⟩ := Prod.mk.inj h2
    exact ⟨n, r', h1, rfl, rfl⟩
  · rintro ⟨n, r', h1, rfl, rfl⟩
    exact ⟨(n, r'), h1, rfl⟩
theorem textL_short : Short textL := fun bs s r h => by
  obtain ⟨n, r', h1, _, rfl⟩ := textL_some.1 h
  have := manyL_short _ _ _ h1
  rw [List.length_drop]
  omega
theorem smallL_some {bs : List UInt8} {n : Nat} {r : List UInt8} : smallL bs = some (n, r) ↔ numberL bs = some (n, r) ∧ n ≤ 90000 := by
  unfold smallL
  constructor
  · intro h
    rw [Option.bind_eq_some_iff] at h
    obtain ⟨⟨m, r'⟩, h1, h2⟩ := h
    simp only [] at h2
    split at h2
    · obtain ⟨rfl, rfl⟩ := Prod.mk.inj (Option.some.inj h2)
      exact ⟨h1, by assumption⟩
    · cases h2
  · rintro ⟨h1, h2⟩
    rw [h1]
    simp [h2]
theorem intL_short : Short intL := fun bs n r h => by
  unfold intL at h
  rw [Option.map_eq_some_iff] at h
  obtain ⟨⟨m, r'⟩, h1, h2⟩ := h
  obtain ⟨rfl, rfl⟩ := Prod.mk.inj h2
  exact numberL_short _ _ _ h1
theorem timesL_short {α : Type} {one : Prs α} (h1 : Short one) : ∀ (n : Nat) (bs : List UInt8) (xs : List α) (r : List UInt8), timesL one n bs = some (xs, r) → r.length + n ≤ bs.length ∧ xs.length = n
  | 0, bs, xs, r, h => by
    obtain ⟨rfl, rfl⟩ := Prod.mk.inj (Option.some.inj h)
    exact ⟨Nat.le_refl _, rfl⟩
  | n + 1, bs, xs, r, h => by
    rw [timesL, Option.bind_eq_some_iff] at h
    obtain ⟨⟨x, r1⟩, h2, h3⟩ := h
    rw [Option.map_eq_some_iff] at h3
    obtain ⟨⟨ys, r2⟩, h4, h5⟩ := h3
    obtain ⟨rfl, rfl⟩ := Prod.mk.inj h5
    have := h1 _ _ _ h2
    have := timesL_short h1 n _ _ _ h4
    exact ⟨by simp only [] at *; omega, by simp [this.2]⟩
theorem listL_short {α : Type} {one : Prs α} (h1 : Short one) : Short (listL one) := fun bs xs r h => by
  unfold listL at h
  rw [Option.bind_eq_some_iff] at h
  obtain ⟨⟨n, r1⟩, h2, h3⟩ := h
  have := manyL_short _ _ _ h2
  have := (timesL_short h1 _ _ _ _ h3).1
  simp only [] at *
  omega
/-- A step of a list that is read: what has been read, what is still to come. -/
theorem timesL_step {α : Type} {one : Prs α} {n : Nat} {bs r : List UInt8} {x : α} {xs : List α} (h : one bs = some (x, r)) :
    (timesL one (n + 1) bs).map (fun y => (xs ++ y.1, y.2)) = (timesL one n r).map (fun y => ((xs ++ [x]) ++ y.1, y.2)) := by
  rw [timesL, h]
  simp only [Option.bind_some, Option.map_map]
  congr 1
  funext y
  simp
theorem timesL_none {α : Type} {one : Prs α} {n : Nat} {bs : List UInt8} (h : one bs = none) : timesL one (n + 1) bs = none := by
  rw [timesL, h]
  rfl
end Go.Proofs.YtcakodemngchpaaGreatDoor
