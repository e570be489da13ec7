/- What bytes tell of registers, as the reader takes them. -/
import Derived.Test.YtkodcoianakjoaaDoorRead5
namespace Go.Proofs.YtkodcoianakjoaaDoor
set_option linter.unusedSimpArgs false
set_option linter.unusedVariables false

def Mac.put (m : Mac) (k : Nat) (v : Int) : Mac := ⟨m.op, if k = 1 then v else m.dst, if k = 2 then v else m.a, if k = 3 then v else m.b, m.n⟩
def Mac.arr (m : Mac) : Array Value := #[.int .i64 m.op, .int .i64 m.dst, .int .i64 m.a, .int .i64 m.b, .int .i64 m.n]
def regsGo : List Nat → Mac → List UInt8 → Option (Mac × List UInt8)
  | [], m, bs => some (m, bs)
  | [x], m, b :: bs => if 15 < b.toNat then none else some (m.put x b.toNat, bs)
  | x :: y :: t, m, b :: bs => regsGo t ((m.put x ((b.toNat / 16 : Nat) : Int)).put y ((b.toNat % 16 : Nat) : Int)) bs
  | _ :: _, _, [] => none
def macGo (op : Int) (bs : List UInt8) : Option (Mac × List UInt8) :=
  if known op = false then none else
  (regsGo (regOffs (shapeOf op)) ⟨op, 0, 0, 0, 0⟩ bs).bind fun r =>
    if (shapeOf op).n = 0 then some r else (numberL r.2).map fun x => (⟨r.1.op, r.1.dst, r.1.a, r.1.b, unfoldN x.1⟩, x.2)
theorem regsGo_eq (s : Shape) (op : Int) (bs : List UInt8) : regsGo (regOffs s) ⟨op, 0, 0, 0, 0⟩ bs = (regsL s.many bs).map fun r => (placeRegs s op r.1 0, r.2) := by
  obtain ⟨d, a, b, n⟩ := s
  cases d <;> cases a <;> cases b <;> rcases bs with _ | ⟨x, _ | ⟨y, r⟩⟩ <;> simp [regsGo, regOffs, regsL, Shape.many, placeRegs, Mac.put] <;> (repeat' split) <;> simp_all
theorem macGo_eq (b : UInt8) (bs : List UInt8) : macGo b.toNat bs = macL (b :: bs) := by
  rw [macGo, macL]
  by_cases hk : known b.toNat = false
  · rw [if_pos hk, if_pos hk]
  · rw [if_neg hk, if_neg hk, regsGo_eq]
    cases regsL (shapeOf b.toNat).many bs with
    | none => rfl
    | some r =>
      simp only [Option.map_some, Option.bind_some]
      split
      · rfl
      · cases numberL r.2 with
        | none => rfl
        | some x => rfl
theorem regsGo_nil (op : Int) (ps : List Nat) : regsGo ps ⟨op, 0, 0, 0, 0⟩ [] = if ps = [] then some (⟨op, 0, 0, 0, 0⟩, []) else none := by
  rcases ps with _ | ⟨x, _ | ⟨y, t⟩⟩ <;> simp [regsGo]
/-- Lists of registers that stand ahead. -/
def Regs (ps : List Nat) : Prop := ps = [] ∨ ps = [1] ∨ ps = [2] ∨ ps = [3] ∨ ps = [1, 2] ∨ ps = [2, 3] ∨ ps = [1, 2, 3]
theorem regs_of (op : Int) : Regs (regOffs (shapeOf op)) := by
  by_cases h : 1 ≤ op ∧ op ≤ 47
  · obtain ⟨k, rfl⟩ : ∃ k : Nat, op = (k : Int) := ⟨op.toNat, by omega⟩
    rw [shapeOf, if_pos h]
    have key : ∀ k : Nat, k < 48 → (regOffs (shapeTab.getD k ⟨false, false, false, 0⟩) = [] ∨ regOffs (shapeTab.getD k ⟨false, false, false, 0⟩) = [1] ∨ regOffs (shapeTab.getD k ⟨false, false, false, 0⟩) = [2] ∨ regOffs (shapeTab.getD k ⟨false, false, false, 0⟩) = [3] ∨ regOffs (shapeTab.getD k ⟨false, false, false, 0⟩) = [1, 2] ∨ regOffs (shapeTab.getD k ⟨false, false, false, 0⟩) = [2, 3] ∨ regOffs (shapeTab.getD k ⟨false, false, false, 0⟩) = [1, 2, 3]) := by decide
    exact key k (by omega)
  · rw [shapeOf, if_neg h]
    exact .inl rfl
end Go.Proofs.YtkodcoianakjoaaDoor
