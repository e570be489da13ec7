/- Instructions of the machine, plainly: what may be, and what bytes tell. -/
import Derived.Test.YtkodcoianakjoaaDoorMacRep
namespace Go.Proofs.YtkodcoianakjoaaDoor
set_option linter.unusedSimpArgs false
set_option linter.unusedVariables false

/-- Which fields an Op speaks of: Dst, A, B; what N is (0: nothing; 1: a number; 2: an instruction; 3: a word of the frame; 4: a routine). -/
structure Shape where
  d : Bool
  a : Bool
  b : Bool
  n : Int
def shapeTab : List Shape :=
  [⟨false, false, false, 0⟩, ⟨true, false, false, 1⟩, ⟨true, true, false, 0⟩, ⟨true, true, false, 0⟩, ⟨true, true, false, 0⟩] ++
  List.replicate 14 ⟨true, true, true, 0⟩ ++ List.replicate 14 ⟨true, true, false, 1⟩ ++
  [⟨true, true, false, 1⟩, ⟨false, true, true, 1⟩, ⟨true, false, false, 3⟩, ⟨false, true, false, 3⟩, ⟨false, false, false, 2⟩, ⟨false, true, false, 2⟩, ⟨false, true, false, 2⟩] ++
  List.replicate 4 ⟨false, true, true, 2⟩ ++ [⟨false, false, false, 4⟩, ⟨false, false, false, 0⟩, ⟨true, false, false, 0⟩, ⟨false, true, false, 0⟩]
def shapeOf (op : Int) : Shape := if 1 ≤ op ∧ op ≤ 47 then shapeTab.getD op.toNat ⟨false, false, false, 0⟩ else ⟨false, false, false, 0⟩
def known (op : Int) : Bool := decide (1 ≤ op ∧ op ≤ 47)

/-- What is wrong with a field of a register; with the number. -/
def fieldF (used : Bool) (r : Int) : Int := if used then (if r < 0 ∨ 15 < r then 3 else 0) else if r ≠ 0 then 5 else 0
def numberF (kind n many : Int) : Int :=
  if kind = 1 then 0 else if kind = 0 then (if n ≠ 0 then 5 else 0) else if kind = 4 then (if n < 0 then 3 else 0)
  else if n < 0 ∨ (if kind = 3 then 120 else many) ≤ n then 3 else 0
def macF (m : Mac) (many : Int) : Int :=
  if known m.op = false then 4 else
  let s := shapeOf m.op
  if fieldF s.d m.dst = 3 ∨ fieldF s.a m.a = 3 ∨ fieldF s.b m.b = 3 ∨ numberF s.n m.n many = 3 then 3
  else if fieldF s.d m.dst = 5 ∨ fieldF s.a m.a = 5 ∨ fieldF s.b m.b = 5 ∨ numberF s.n m.n many = 5 then 5 else 0
def macsFrom (l : List Mac) : Nat → Nat → Int × Int
  | 0, _ => if ((l.getD (l.length - 1) ⟨0, 0, 0, 0, 0⟩).op = 37 ∨ (l.getD (l.length - 1) ⟨0, 0, 0, 0, 0⟩).op = 45) then (0, 0) else (5, (l.length : Int) - 1)
  | m + 1, i => if macF (l.getD i ⟨0, 0, 0, 0, 0⟩) l.length ≠ 0 then (macF (l.getD i ⟨0, 0, 0, 0, 0⟩) l.length, (i : Int)) else macsFrom l m (i + 1)
def macsFault (l : List Mac) : Int × Int := if 5000 < l.length then (2, 0) else if l = [] then (5, 0) else macsFrom l l.length 0

/-- A number that stands ahead, in as few bytes as can be. -/
def numL : Nat → Nat → Nat → List UInt8 → Option (Nat × List UInt8)
  | 0, _, _, _ => none
  | _ + 1, _, _, [] => none
  | f + 1, i, acc, b :: bs =>
    if (i = 9 ∧ 1 < b.toNat) ∨ (0 < i ∧ b.toNat = 0) then none
    else if b.toNat < 128 then some (acc + b.toNat * 2 ^ (7 * i), bs)
    else numL f (i + 1) (acc + (b.toNat - 128) * 2 ^ (7 * i)) bs
def numberL (bs : List UInt8) : Option (Nat × List UInt8) := numL 10 0 0 bs
def unfoldN (n : Nat) : Int := if n % 2 = 1 then -((n / 2 : Nat) : Int) - 1 else ((n / 2 : Nat) : Int)

/-- So many registers that stand ahead. -/
def regsL : Nat → List UInt8 → Option (List Int × List UInt8)
  | 0, bs => some ([], bs)
  | 1, b :: bs => if 15 < b.toNat then none else some ([(b.toNat : Int)], bs)
  | n + 2, b :: bs => (regsL n bs).map fun r => (((b.toNat / 16 : Nat) : Int) :: ((b.toNat % 16 : Nat) : Int) :: r.1, r.2)
  | _, [] => none
def Shape.many (s : Shape) : Nat := s.d.toNat + s.a.toNat + s.b.toNat
def placeRegs (s : Shape) (op : Int) (regs : List Int) (n : Int) : Mac :=
  ⟨op, if s.d then regs.getD 0 0 else 0, if s.a then regs.getD s.d.toNat 0 else 0, if s.b then regs.getD (s.d.toNat + s.a.toNat) 0 else 0, n⟩
def macL : List UInt8 → Option (Mac × List UInt8)
  | [] => none
  | b :: bs => if known b.toNat = false then none else
    (regsL (shapeOf b.toNat).many bs).bind fun r =>
      if (shapeOf b.toNat).n = 0 then some (placeRegs (shapeOf b.toNat) b.toNat r.1 0, r.2)
      else (numberL r.2).map fun x => (placeRegs (shapeOf b.toNat) b.toNat r.1 (unfoldN x.1), x.2)
def macsL : Nat → List UInt8 → Option (List Mac)
  | _, [] => some []
  | 0, _ :: _ => none
  | f + 1, b :: bs => (macL (b :: bs)).bind fun r => (macsL f r.2).map fun l => r.1 :: l
def readL (bs : List UInt8) : Option (List Mac) :=
  if 70000 < bs.length then none else (macsL bs.length bs).bind fun l => if macsFault l = (0, 0) then some l else none

theorem numL_short : ∀ (f i acc : Nat) (bs : List UInt8) (n : Nat) (r : List UInt8), numL f i acc bs = some (n, r) → r.length < bs.length
  | 0, _, _, _, _, _, h => by cases h
  | _ + 1, _, _, [], _, _, h => by cases h
  | f + 1, i, acc, b :: bs, n, r, h => by
    unfold numL at h
    split at h
    · cases h
    split at h
    · obtain ⟨_, rfl⟩ := Prod.mk.inj (Option.some.inj h); simp
    · have := numL_short f _ _ _ _ _ h
      simp; omega
theorem regsL_short : ∀ (k : Nat) (bs : List UInt8) (l : List Int) (r : List UInt8), regsL k bs = some (l, r) → r.length ≤ bs.length ∧ l.length = k
  | 0, bs, l, r, h => by
    unfold regsL at h
    obtain ⟨rfl, rfl⟩ := Prod.mk.inj (Option.some.inj h)
    exact ⟨Nat.le_refl _, rfl⟩
  | 1, [], l, r, h => by simp [regsL] at h
  | n + 2, [], l, r, h => by simp [regsL] at h
  | 1, b :: bs, l, r, h => by
    unfold regsL at h
    split at h
    · cases h
    · obtain ⟨rfl, rfl⟩ := Prod.mk.inj (Option.some.inj h)
      exact ⟨by simp, rfl⟩
  | n + 2, b :: bs, l, r, h => by
    unfold regsL at h
    rw [Option.map_eq_some_iff] at h
    obtain ⟨⟨l', r'⟩, h1, h2⟩ := h
    obtain ⟨rfl, rfl⟩ := Prod.mk.inj h2
    have := regsL_short n bs _ _ h1
    exact ⟨by simp; omega, by simp [this.2]⟩
theorem macL_short {bs : List UInt8} {m : Mac} {r : List UInt8} (h : macL bs = some (m, r)) : r.length < bs.length := by
  cases bs with
  | nil => cases h
  | cons b bs =>
    rw [macL] at h
    split at h
    · cases h
    rw [Option.bind_eq_some_iff] at h
    obtain ⟨⟨l, r'⟩, h1, h2⟩ := h
    have s1 := (regsL_short _ _ _ _ h1).1
    split at h2
    · obtain ⟨_, rfl⟩ := Prod.mk.inj (Option.some.inj h2); simp; omega
    · rw [Option.map_eq_some_iff] at h2
      obtain ⟨⟨x, r''⟩, h3, h4⟩ := h2
      obtain ⟨_, rfl⟩ := Prod.mk.inj h4
      have := numL_short _ _ _ _ _ _ h3
      simp at this ⊢; omega
end Go.Proofs.YtkodcoianakjoaaDoor
