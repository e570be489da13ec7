/- The instructions that statements make of raw numbers, plainly. -/
import Derived.Test.YtfhnmbnniklmiaaDoorReadB
namespace Go.Proofs.YtfhnmbnniklmiaaDoor
open Go.RowKit
set_option linter.unusedSimpArgs false
set_option linter.unusedVariables false

def opOf (a : Int) (r : Nat) : Int := if 1 + a % 47 = 45 ∨ (1 + a % 47 = 44 ∧ r = 0) then 47 else 1 + a % 47
/-- What N is made of. -/
def numOf (op b n : Int) (many r : Nat) : Int :=
  if (shapeOf op).n = 1 then (if 33 ≤ op ∨ 0 < b.tdiv 64 % 4 then n % 7 - 1 else n)
  else if (shapeOf op).n = 2 then n % many else if (shapeOf op).n = 3 then n % 4 else if (shapeOf op).n = 4 then n % r else 0
def macOf (a b n : Int) (many r : Nat) : Mac :=
  ⟨opOf a r, if (shapeOf (opOf a r)).d then b % 4 else 0, if (shapeOf (opOf a r)).a then b.tdiv 4 % 4 else 0, if (shapeOf (opOf a r)).b then b.tdiv 16 % 4 else 0, numOf (opOf a r) b n many r⟩
/-- Instructions of raw numbers, three each. -/
def codeMany (l : List Int) (n : Nat) : Nat := min (l.length / 3) n
def macAt (l : List Int) (many r : Nat) (i : Nat) : Mac := macOf (l.getD (3 * i) 0) (l.getD (3 * i + 1) 0) (l.getD (3 * i + 2) 0) many r
def codeOf (l : List Int) (n r : Nat) : List Mac := (List.range (codeMany l n)).map (macAt l (codeMany l n + 1) r) ++ [⟨45, 0, 0, 0, 0⟩]
theorem opOf_known (a : Int) (r : Nat) : known (opOf a r) = true ∧ opOf a r ≠ 45 := by
  have h0 := Int.emod_nonneg a (show (47 : Int) ≠ 0 by decide)
  have h1 := Int.emod_lt_of_pos a (show (0 : Int) < 47 by decide)
  unfold opOf known
  split
  · exact ⟨by decide, by decide⟩
  · exact ⟨by simp; omega, by omega⟩
theorem opOf_call (a : Int) : opOf a 0 ≠ 44 := by
  unfold opOf
  split <;> omega
theorem shape_routine (op : Int) (h : (shapeOf op).n = 4) : op = 44 := by
  unfold shapeOf at h
  split at h
  · rename_i hb
    obtain ⟨k, rfl⟩ : ∃ k : Nat, op = (k : Int) := ⟨op.toNat, by omega⟩
    have key : ∀ k : Nat, k < 48 → (shapeTab.getD k ⟨false, false, false, 0⟩).n = 4 → k = 44 := by decide
    have := key k (by omega) h
    omega
  · simp at h
theorem opOf_routine (a : Int) (r : Nat) (h : (shapeOf (opOf a r)).n = 4) : 0 < r := by
  have e := shape_routine _ h
  rcases Nat.eq_zero_or_pos r with h0 | h0
  · subst h0
    exact absurd e (opOf_call a)
  · exact h0
end Go.Proofs.YtfhnmbnniklmiaaDoor
