/- peep, plainly: which rule fits where; what it leaves. -/
import Derived.Test.YtkcmijnaheapdaaDoorMachA
namespace Go.Proofs.YtkcmijnaheapdaaDoor
open Go.RowKit
set_option linter.unusedSimpArgs false
set_option linter.unusedVariables false

def atL (l : List Mac) (i : Nat) : Mac := l.getD i macZ0
def jumpsM (m : Mac) : Bool := decide (37 ≤ m.op ∧ m.op ≤ 43)
def readsM (m : Mac) (r : Nat) : Bool :=
  if m.op = 44 then decide (r < 6) else if m.op = 45 then decide (r = 0 ∨ (6 ≤ r ∧ r < 14))
  else ((shapeOf m.op).a && decide (m.a = (r : Int))) || ((shapeOf m.op).b && decide (m.b = (r : Int)))
def writesM (m : Mac) (r : Nat) : Bool := if m.op = 44 then decide (r < 6 ∨ 14 ≤ r) else (shapeOf m.op).d && decide (m.dst = (r : Int))
/-- May it go on at k behind i? -/
def stepsTo (l : List Mac) (i k : Nat) : Prop :=
  i < l.length ∧ (((atL l i).op ≠ 45 ∧ (atL l i).op ≠ 37 ∧ k = i + 1) ∨ (jumpsM (atL l i) = true ∧ (atL l i).n = (k : Int)))
inductive Live (l : List Mac) (r : Nat) : Nat → Prop where
  | use {i : Nat} : i < l.length → readsM (atL l i) r = true → Live l r i
  | via {i k : Nat} : i < l.length → writesM (atL l i) r = false → stepsTo l i k → Live l r k → Live l r i
inductive Reach (l : List Mac) : Nat → Prop where
  | first : Reach l 0
  | next {i k : Nat} : Reach l i → stepsTo l i k → k < l.length → Reach l k
/-- Is a register live behind an instruction? -/
def behindP (l : List Mac) (i r : Nat) : Prop := ∃ k, stepsTo l i k ∧ Live l r k
def besideP (l : List Mac) (i : Nat) : Prop := i + 1 < l.length ∧ (atL l i).op ≠ 37 ∧ (atL l i).op ≠ 45 ∧ ¬ ∃ k, k < l.length ∧ jumpsM (atL l k) = true ∧ (atL l k).n = (i : Int) + 1
def quietM (m : Mac) : Bool :=
  if 1 ≤ m.op ∧ m.op ≤ 4 then true else if m.op = 35 then true else if m.op = 22 ∨ m.op = 23 then !decide (m.n = 0)
  else decide (5 ≤ m.op ∧ m.op ≤ 32) && !decide (m.op = 8) && !decide (m.op = 9)
def decM (i : Nat) (m : Mac) : Mac := if jumpsM m = true ∧ (i : Int) < m.n then ⟨m.op, m.dst, m.a, m.b, m.n - 1⟩ else m
def goneL (l : List Mac) (i : Nat) : List Mac := (l.eraseIdx i).map (decM i)
/-- Where MacJumps lead. -/
def ledL (l : List Mac) : Nat → Int → Option Int
  | 0, _ => none
  | f + 1, tg => if (atL l tg.toNat).op ≠ 37 then some tg else ledL l f (atL l tg.toNat).n
def asksM (o : Mac) (r : Int) : Bool := decide (o.op = 38 ∨ o.op = 39) && decide (o.a = r)
def ifsM (m o : Mac) : Mac :=
  if o.op = 38 then ⟨m.op + 25, 0, m.a, m.b, o.n⟩
  else if m.op = 15 then ⟨41, 0, m.a, m.b, o.n⟩ else if m.op = 16 then ⟨40, 0, m.a, m.b, o.n⟩
  else if m.op = 17 then ⟨43, 0, m.b, m.a, o.n⟩ else ⟨42, 0, m.b, m.a, o.n⟩
def idleM (m : Mac) : Bool :=
  if m.op = 21 ∨ m.op = 22 then decide (m.n = 1) else decide (m.n = 0) && decide (m.op = 19 ∨ m.op = 20 ∨ m.op = 25 ∨ m.op = 26 ∨ m.op = 27 ∨ m.op = 28)
/-- Rules of an instruction alone, and of two that stand next to each other: what each leaves. -/
inductive Rule (l : List Mac) (i : Nat) : List Mac → Prop where
  | lost : ¬ Reach l i → Rule l i (goneL l i)
  | itself : (atL l i).op = 2 → (atL l i).dst = (atL l i).a → Rule l i (goneL l i)
  | short : jumpsM (atL l i) = true → (atL l i).n = (i : Int) + 1 → Rule l i (goneL l i)
  | far {tg : Int} : jumpsM (atL l i) = true → ledL l l.length (atL l i).n = some tg → tg ≠ (atL l i).n → Rule l i (l.set i ⟨(atL l i).op, (atL l i).dst, (atL l i).a, (atL l i).b, tg⟩)
  | vain : quietM (atL l i) = true → ¬ behindP l i (atL l i).dst.toNat → Rule l i (goneL l i)
  | unread : (atL l i).op = 36 → (¬ ∃ o ∈ l, o.op = 35 ∧ o.n = (atL l i).n) → Rule l i (goneL l i)
  | again : besideP l i → (atL l i).op = 36 → (atL l (i + 1)).op = 35 → (atL l (i + 1)).n = (atL l i).n → Rule l i (l.set (i + 1) ⟨2, (atL l (i + 1)).dst, (atL l i).a, 0, 0⟩)
  | back : besideP l i → (atL l i).op = 2 → atL l (i + 1) = ⟨2, (atL l i).a, (atL l i).dst, 0, 0⟩ → Rule l i (goneL l (i + 1))
  | sureNo : besideP l i → (atL l i).op = 1 → asksM (atL l (i + 1)) (atL l i).dst = true → (¬ ((atL l i).n ≠ 0 ↔ (atL l (i + 1)).op = 38)) → Rule l i (goneL l (i + 1))
  | sureYes : besideP l i → (atL l i).op = 1 → asksM (atL l (i + 1)) (atL l i).dst = true → ((atL l i).n ≠ 0 ↔ (atL l (i + 1)).op = 38) → Rule l i (l.set (i + 1) ⟨37, 0, 0, 0, (atL l (i + 1)).n⟩)
  | fused : besideP l i → 15 ≤ (atL l i).op → (atL l i).op ≤ 18 → asksM (atL l (i + 1)) (atL l i).dst = true → ¬ behindP l (i + 1) (atL l i).dst.toNat → Rule l i (goneL (l.set (i + 1) (ifsM (atL l i) (atL l (i + 1)))) i)
  | idle : idleM (atL l i) = true → Rule l i (l.set i ⟨2, (atL l i).dst, (atL l i).a, 0, 0⟩)
end Go.Proofs.YtkcmijnaheapdaaDoor
