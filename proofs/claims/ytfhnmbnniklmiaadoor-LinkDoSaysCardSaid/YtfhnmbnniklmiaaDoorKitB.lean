/- The bytes of an instruction, plainly. -/
import Derived.Test.YtfhnmbnniklmiaaDoorAppA
import Derived.Test.YtfhnmbnniklmiaaDoorReadB
namespace Go.Proofs.YtfhnmbnniklmiaaDoor
open Go.RowKit
set_option linter.unusedSimpArgs false
set_option linter.unusedVariables false

/-- The registers that an instruction speaks of. -/
def regsOf (m : Mac) : List Int := (if (shapeOf m.op).d then [m.dst] else []) ++ (if (shapeOf m.op).a then [m.a] else []) ++ (if (shapeOf m.op).b then [m.b] else [])
def regsB : List Int → List UInt8
  | [] => []
  | [x] => [UInt8.ofNat x.toNat]
  | x :: y :: t => UInt8.ofNat (16 * x + y).toNat :: regsB t
def macB (m : Mac) : List UInt8 := UInt8.ofNat m.op.toNat :: (regsB (regsOf m) ++ if (shapeOf m.op).n = 0 then [] else numB (foldN m.n))
def codeB (l : List Mac) : List UInt8 := l.flatMap macB
/-- An instruction whose registers may be, and whose number fits. -/
structure GoodMac (m : Mac) : Prop where
  known : known m.op = true
  regs : ∀ x ∈ regsOf m, 0 ≤ x ∧ x ≤ 15
  num : I64 m.n
theorem regsB_len : ∀ l : List Int, (regsB l).length ≤ l.length
  | [] => by simp [regsB]
  | [x] => by simp [regsB]
  | x :: y :: t => by have := regsB_len t; simp [regsB]; omega
theorem drop_at {l : List Int} {j : Nat} (h : j < l.length) : l.drop j = l.getD j 0 :: l.drop (j + 1) := by
  rw [List.drop_eq_getElem_cons h, List.getD_eq_getElem?_getD, List.getElem?_eq_getElem h]
  rfl
theorem regsB_end {l : List Int} {j : Nat} (h : l.length ≤ j) : regsB (l.drop j) = [] := by
  rw [List.drop_eq_nil_of_le h]
  rfl
theorem regsB_one {l : List Int} {j : Nat} (h : j + 1 = l.length) : regsB (l.drop j) = [UInt8.ofNat (l.getD j 0).toNat] := by
  rw [drop_at (by omega), List.drop_eq_nil_of_le (show l.length ≤ j + 1 by omega)]
  rfl
theorem regsB_two {l : List Int} {j : Nat} (h : j + 1 < l.length) : regsB (l.drop j) = UInt8.ofNat (16 * l.getD j 0 + l.getD (j + 1) 0).toNat :: regsB (l.drop (j + 2)) := by
  rw [drop_at (by omega), drop_at h]
  rfl
theorem regsOf_len (m : Mac) : (regsOf m).length ≤ 3 := by
  unfold regsOf
  cases (shapeOf m.op).d <;> cases (shapeOf m.op).a <;> cases (shapeOf m.op).b <;> simp
theorem macB_len (m : Mac) : (macB m).length ≤ 14 := by
  have h1 := regsB_len (regsOf m)
  have h2 := regsOf_len m
  have h3 := numB_len (foldN m.n)
  unfold macB
  rw [List.length_cons, List.length_append]
  split
  · simp; omega
  · omega
end Go.Proofs.YtfhnmbnniklmiaaDoor
