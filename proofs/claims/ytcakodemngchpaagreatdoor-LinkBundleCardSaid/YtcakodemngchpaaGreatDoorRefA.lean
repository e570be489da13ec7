/- The document's answer: what is wrong with an instruction. The document's answer: what is wrong with a list of instructions. The document's answer: a number that stands at a place. -/
import Derived.Test.YtcakodemngchpaaGreatDoorBase
import Derived.Test.YtcakodemngchpaaGreatDoorRows
import Derived.IntWalk
import Derived.Deep.LoopGhost
import Derived.Test.YtcakodemngchpaaGreatDoorReadB
import Derived.Test.YtcakodemngchpaaGreatDoorMacB
/- The document's answer: what is wrong with an instruction. -/
namespace Go.Proofs.YtcakodemngchpaaGreatDoor
open Go.RowKit
set_option linter.unusedSimpArgs false
set_option linter.unusedVariables false

theorem fields_has (op : Int) (h : known op = true) : (fieldsOf op).size ≤ 3 ∧ ((fieldsOf op).toList == [63]) = false ∧ hasB (fieldsOf op) 100 (fieldsOf op).size 0 = (shapeOf op).d ∧ hasB (fieldsOf op) 97 (fieldsOf op).size 0 = (shapeOf op).a ∧ hasB (fieldsOf op) 98 (fieldsOf op).size 0 = (shapeOf op).b ∧
    hasB (fieldsOf op) 110 (fieldsOf op).size 0 = ((shapeOf op).n == 1) ∧ hasB (fieldsOf op) 116 (fieldsOf op).size 0 = ((shapeOf op).n == 2) ∧ hasB (fieldsOf op) 119 (fieldsOf op).size 0 = ((shapeOf op).n == 3) ∧ hasB (fieldsOf op) 114 (fieldsOf op).size 0 = ((shapeOf op).n == 4) ∧
    ((shapeOf op).n = 0 ∨ (shapeOf op).n = 1 ∨ (shapeOf op).n = 2 ∨ (shapeOf op).n = 3 ∨ (shapeOf op).n = 4) := by
  have hb : 1 ≤ op ∧ op ≤ 47 := by simpa [known] using h
  obtain ⟨k, rfl⟩ : ∃ k : Nat, op = (k : Int) := ⟨op.toNat, by omega⟩
  have e1 : fieldsOf (k : Int) = fieldsTab.getD k ⟨#[63]⟩ := by rw [fieldsOf, if_pos hb]; rfl
  have e2 : shapeOf (k : Int) = shapeTab.getD k ⟨false, false, false, 0⟩ := by rw [shapeOf, if_pos hb]; rfl
  rw [e1, e2]
  have key : ∀ k : Nat, k < 48 → 1 ≤ k → (fieldsTab.getD k ⟨#[63]⟩).size ≤ 3 ∧ ((fieldsTab.getD k ⟨#[63]⟩).toList == [63]) = false ∧ hasB (fieldsTab.getD k ⟨#[63]⟩) 100 (fieldsTab.getD k ⟨#[63]⟩).size 0 = (shapeTab.getD k ⟨false, false, false, 0⟩).d ∧ hasB (fieldsTab.getD k ⟨#[63]⟩) 97 (fieldsTab.getD k ⟨#[63]⟩).size 0 = (shapeTab.getD k ⟨false, false, false, 0⟩).a ∧ hasB (fieldsTab.getD k ⟨#[63]⟩) 98 (fieldsTab.getD k ⟨#[63]⟩).size 0 = (shapeTab.getD k ⟨false, false, false, 0⟩).b ∧
    hasB (fieldsTab.getD k ⟨#[63]⟩) 110 (fieldsTab.getD k ⟨#[63]⟩).size 0 = ((shapeTab.getD k ⟨false, false, false, 0⟩).n == 1) ∧ hasB (fieldsTab.getD k ⟨#[63]⟩) 116 (fieldsTab.getD k ⟨#[63]⟩).size 0 = ((shapeTab.getD k ⟨false, false, false, 0⟩).n == 2) ∧ hasB (fieldsTab.getD k ⟨#[63]⟩) 119 (fieldsTab.getD k ⟨#[63]⟩).size 0 = ((shapeTab.getD k ⟨false, false, false, 0⟩).n == 3) ∧ hasB (fieldsTab.getD k ⟨#[63]⟩) 114 (fieldsTab.getD k ⟨#[63]⟩).size 0 = ((shapeTab.getD k ⟨false, false, false, 0⟩).n == 4) ∧
    ((shapeTab.getD k ⟨false, false, false, 0⟩).n = 0 ∨ (shapeTab.getD k ⟨false, false, false, 0⟩).n = 1 ∨ (shapeTab.getD k ⟨false, false, false, 0⟩).n = 2 ∨ (shapeTab.getD k ⟨false, false, false, 0⟩).n = 3 ∨ (shapeTab.getD k ⟨false, false, false, 0⟩).n = 4) := by decide +kernel
  exact key k (by omega) (by omega)

/-- Does a text have a letter? -/
def hasN (s : ByteArray) (n : Int) : Bool := hasB s (UInt8.ofNat n.toNat) s.size 0
theorem Has_any (s : ByteArray) (n : Int) (h0 : 0 ≤ n) (h1 : n < 256) (hs : s.size ≤ 100) (w : World) (R : Ending → World → Prop) (hR : R (.returned (.bool (hasN s n))) w) :
    Calls Tryz.prog 67 #[.string s, .int .u8 n] w R := by
  have e : n = ((UInt8.ofNat n.toNat).toNat : Nat) := by
    rw [UInt8.toNat_ofNat']
    omega
  have := Has_calls s (UInt8.ofNat n.toNat) hs w R hR
  rw [← e] at this
  exact this

end Go.Proofs.YtcakodemngchpaaGreatDoor

/- The document's answer: what is wrong with a list of instructions. -/
namespace Go.Proofs.YtcakodemngchpaaGreatDoor
open Go.RowKit
set_option linter.unusedSimpArgs false
set_option linter.unusedVariables false

end Go.Proofs.YtcakodemngchpaaGreatDoor

/- The document's answer: a number that stands at a place. -/
namespace Go.Proofs.YtcakodemngchpaaGreatDoor
open Go.RowKit
set_option linter.unusedSimpArgs false
set_option linter.unusedVariables false

end Go.Proofs.YtcakodemngchpaaGreatDoor
