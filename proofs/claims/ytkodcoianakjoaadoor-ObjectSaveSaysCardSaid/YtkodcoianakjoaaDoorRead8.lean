/- Lists of instructions that bytes tell, plainly. -/
import Derived.Test.YtkodcoianakjoaaDoorMacPlain
namespace Go.Proofs.YtkodcoianakjoaaDoor
set_option linter.unusedSimpArgs false
set_option linter.unusedVariables false

theorem macsL_more : ∀ (f g : Nat) (bs : List UInt8), bs.length ≤ f → bs.length ≤ g → macsL f bs = macsL g bs
  | f, g, [], _, _ => by cases f <;> cases g <;> rfl
  | 0, _, b :: bs, h, _ => by simp at h
  | _, 0, b :: bs, _, h => by simp at h
  | f + 1, g + 1, b :: bs, hf, hg => by
    rw [macsL, macsL]
    cases hm : macL (b :: bs) with
    | none => rfl
    | some r =>
      have hs := macL_short (m := r.1) (r := r.2) hm
      simp only [Option.bind_some]
      simp only [List.length_cons] at hs hf hg
      rw [macsL_more f g r.2 (by omega) (by omega)]
def macsAll (bs : List UInt8) : Option (List Mac) := macsL bs.length bs
theorem macsAll_nil : macsAll [] = some [] := rfl
theorem macsAll_step {bs : List UInt8} (h : bs ≠ []) : macsAll bs = (macL bs).bind fun r => (macsAll r.2).map fun l => r.1 :: l := by
  cases bs with
  | nil => exact absurd rfl h
  | cons b bs =>
    rw [macsAll, List.length_cons, macsL]
    cases hm : macL (b :: bs) with
    | none => rfl
    | some r =>
      have hs := macL_short (m := r.1) (r := r.2) hm
      simp only [List.length_cons] at hs
      simp only [Option.bind_some]
      rw [macsAll, macsL_more bs.length r.2.length r.2 (by omega) (by omega)]
theorem readL_eq (bs : List UInt8) : readL bs = if 70000 < bs.length then none else (macsAll bs).bind fun l => if macsFault l = (0, 0) then some l else none := rfl
theorem macF_pos (m : Mac) (n : Int) : macF m n = 0 ∨ 0 < macF m n := by
  unfold macF
  simp only []
  repeat' split
  all_goals simp
theorem macsFrom_zero (l : List Mac) : ∀ (f i : Nat), (macsFrom l f i).1 = 0 → macsFrom l f i = (0, 0)
  | 0, i, h => by
    rw [macsFrom] at h ⊢
    split
    · rfl
    · rename_i hn
      rw [if_neg hn] at h
      simp at h
  | f + 1, i, h => by
    rw [macsFrom] at h ⊢
    split
    · rename_i hn
      rw [if_pos hn] at h
      exact absurd h hn
    · rename_i hn
      rw [if_neg hn] at h
      exact macsFrom_zero l f (i + 1) h
theorem macsFault_zero (l : List Mac) (h : (macsFault l).1 = 0) : macsFault l = (0, 0) := by
  unfold macsFault at h ⊢
  split
  · rename_i hn
    rw [if_pos hn] at h
    simp at h
  · rename_i hn
    rw [if_neg hn] at h
    split
    · rename_i hn
      rw [if_pos hn] at h
      simp at h
    · rename_i hn
      rw [if_neg hn] at h
      exact macsFrom_zero l _ _ h
/-- So far read; what is left. -/
theorem macs_some {bs rest r : List UInt8} {done : List Mac} {m : Mac} (h : (macsAll rest).map (fun l => done ++ l) = macsAll bs) (hm : macL rest = some (m, r)) : (macsAll r).map (fun l => (done ++ [m]) ++ l) = macsAll bs := by
  have hne : rest ≠ [] := by rintro rfl; cases hm
  rw [← h, macsAll_step hne, hm]
  simp only [Option.bind_some, Option.map_map]
  congr 1
  funext l
  simp
theorem macs_none {bs rest : List UInt8} {done : List Mac} (h : (macsAll rest).map (fun l => done ++ l) = macsAll bs) (hr : rest ≠ []) (hm : macL rest = none) : readL bs = none := by
  rw [macsAll_step hr, hm] at h
  rw [readL_eq, ← h]
  split <;> rfl
theorem macs_end {bs : List UInt8} {done : List Mac} (h : (macsAll []).map (fun l => done ++ l) = macsAll bs) (hl : ¬ 70000 < bs.length) : readL bs = if macsFault done = (0, 0) then some done else none := by
  rw [readL_eq, if_neg hl, ← h, macsAll_nil]
  simp
end Go.Proofs.YtkodcoianakjoaaDoor
