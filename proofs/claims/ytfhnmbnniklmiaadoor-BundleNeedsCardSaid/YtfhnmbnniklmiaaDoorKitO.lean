/- The object that is made of raw numbers, plainly: it may be. -/
import Derived.Test.YtfhnmbnniklmiaaDoorKitPl
import Derived.Test.YtfhnmbnniklmiaaDoorPlainA
namespace Go.Proofs.YtfhnmbnniklmiaaDoor
open Go.RowKit
set_option linter.unusedSimpArgs false
set_option linter.unusedVariables false

def nameF (k : Nat) : ByteArray := ⟨#[102, UInt8.ofNat (48 + k)]⟩
def nameMain : ByteArray := ⟨#[109, 97, 105, 110]⟩
def nameAway : ByteArray := ⟨#[97, 119, 97, 121]⟩
def nameS (main : Bool) (k : Nat) : ByteArray := if main = true ∧ k = 0 then nameMain else nameF k
def mendName (len n : Nat) (main : Bool) (x : Int) : ByteArray := if (len : Int) ≤ x ∨ (n : Int) ≤ x then nameAway else if x = 0 ∧ main = true then nameMain else nameF x.toNat
def mendsAt (f : Int → ByteArray) : Nat → List Mac → List Mend
  | _, [] => []
  | k, m :: t => if m.op = 44 then ⟨(k : Int), f m.n⟩ :: mendsAt f (k + 1) t else mendsAt f (k + 1) t
def ownM (m : Mac) : Mac := if m.op = 44 then ⟨m.op, m.dst, m.a, m.b, 0⟩ else m
def secOf (raw : List (List Int)) (n : Nat) (main : Bool) (i : Nat) : Section :=
  ⟨nameS main i, codeB ((codeOf (raw.getD i []) 8 4).map ownM), mendsAt (mendName raw.length n main) 0 (codeOf (raw.getD i []) 8 4)⟩
def kitGlobals_ : List Global := [⟨⟨#[103]⟩, 2, [5]⟩, ⟨⟨#[104]⟩, 1, []⟩]
def objOf (raw : List (List Int)) (n : Nat) (main : Bool) : Object := ⟨kitGlobals_, (List.range (min raw.length n)).map (secOf raw n main)⟩

theorem mendsAt_append (f : Int → ByteArray) : ∀ (k : Nat) (a b : List Mac), mendsAt f k (a ++ b) = mendsAt f k a ++ mendsAt f (k + a.length) b
  | k, [], b => by simp [mendsAt]
  | k, m :: a, b => by
    simp only [List.cons_append, mendsAt, List.length_cons]
    rw [mendsAt_append f (k + 1) a b, show k + 1 + a.length = k + (a.length + 1) from by omega]
    split <;> simp
theorem mendsAt_len (f : Int → ByteArray) : ∀ (k : Nat) (a : List Mac), (mendsAt f k a).length = (a.filter fun m => m.op == 44).length
  | k, [] => rfl
  | k, m :: a => by
    simp only [mendsAt, List.filter_cons]
    by_cases h : m.op = 44
    · rw [if_pos h, if_pos (by simp [h]), List.length_cons, List.length_cons, mendsAt_len f (k + 1) a]
    · rw [if_neg h, if_neg (by simp [h]), mendsAt_len f (k + 1) a]
theorem mendsAt_mem (f : Int → ByteArray) : ∀ (k : Nat) (a : List Mac) (x : Mend), x ∈ mendsAt f k a → ∃ j : Nat, j < a.length ∧ x = ⟨((k + j : Nat) : Int), f (a.getD j ⟨0, 0, 0, 0, 0⟩).n⟩ ∧ (a.getD j ⟨0, 0, 0, 0, 0⟩).op = 44
  | k, [], x, h => by simp [mendsAt] at h
  | k, m :: a, x, h => by
    simp only [mendsAt] at h
    have rec_ : x ∈ mendsAt f (k + 1) a → ∃ j : Nat, j < (m :: a).length ∧ x = ⟨((k + j : Nat) : Int), f ((m :: a).getD j ⟨0, 0, 0, 0, 0⟩).n⟩ ∧ ((m :: a).getD j ⟨0, 0, 0, 0, 0⟩).op = 44 := fun h => by
      obtain ⟨j, h1, h2, h3⟩ := mendsAt_mem f (k + 1) a x h
      refine ⟨j + 1, by simp; omega, ?_, by simpa using h3⟩
      rw [h2, show k + 1 + j = k + (j + 1) from by omega]
      simp
    by_cases hm : m.op = 44
    · rw [if_pos hm] at h
      rcases List.mem_cons.1 h with h | h
      · exact ⟨0, by simp, by rw [h]; simp, by simpa using hm⟩
      · exact rec_ h
    · rw [if_neg hm] at h
      exact rec_ h
theorem mendsAt_up (f : Int → ByteArray) : ∀ (k : Nat) (a : List Mac), (mendsAt f k a).Pairwise fun x y => x.at_ < y.at_
  | k, [] => by simp [mendsAt]
  | k, m :: a => by
    simp only [mendsAt]
    split
    · refine List.pairwise_cons.2 ⟨fun y hy => ?_, mendsAt_up f (k + 1) a⟩
      obtain ⟨j, _, h2, _⟩ := mendsAt_mem f (k + 1) a y hy
      rw [h2]
      show (k : Int) < ((k + 1 + j : Nat) : Int)
      omega
    · exact mendsAt_up f (k + 1) a
theorem mendsFrom_fine (l : List Mac) (ms : List Mend) (h1 : ∀ m ∈ ms, 0 ≤ m.at_ ∧ m.at_ < (l.length : Int) ∧ (l.getD m.at_.toNat ⟨0, 0, 0, 0, 0⟩).op = 44 ∧ (l.getD m.at_.toNat ⟨0, 0, 0, 0, 0⟩).n = 0 ∧ goodName m.name = true) (h2 : ms.Pairwise fun x y => x.at_ < y.at_) (h3 : (l.filter fun m => m.op == 44).length = ms.length) : ∀ (f i : Nat), f + i = ms.length → mendsFrom l ms f i = 0
  | 0, i, hi => by rw [mendsFrom, if_pos h3]
  | f + 1, i, hi => by
    have hlt : i < ms.length := by omega
    obtain ⟨g1, g2, g3, g4, g5⟩ := h1 _ (List.getElem_mem hlt)
    rw [mendsFrom, List.getElem?_eq_getElem hlt]
    simp only []
    rw [if_neg (by omega), if_neg (by simpa using g3), if_neg, if_neg (by rw [g5]; simp)]
    · exact mendsFrom_fine l ms h1 h2 h3 f (i + 1) (by omega)
    · rintro (h | ⟨h, h'⟩)
      · exact h g4
      · have hi1 : i - 1 < ms.length := by omega
        have := List.pairwise_iff_getElem.1 h2 (i - 1) i hi1 hlt (by omega)
        rw [List.getD_eq_getElem?_getD, List.getElem?_eq_getElem hi1] at h'
        simp at h'
        omega
end Go.Proofs.YtfhnmbnniklmiaaDoor
