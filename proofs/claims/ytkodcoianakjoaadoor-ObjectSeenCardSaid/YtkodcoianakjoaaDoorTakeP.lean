/- What the reference takes out of bytes, plainly: just what the program reads. -/
import Derived.Test.YtkodcoianakjoaaDoorLoadP
namespace Go.Proofs.YtkodcoianakjoaaDoor
open Go.RowKit
set_option linter.unusedSimpArgs false
set_option linter.unusedVariables false

/-- A text as the reference takes it. -/
def textR : Prs ByteArray := fun bs => (smallL bs).bind fun x => if x.1 ≤ x.2.length then some (strL (x.2.take x.1), x.2.drop x.1) else none
/-- A list as the reference takes it. -/
def listR {α : Type} (one : Prs α) : Prs (List α) := fun bs => (smallL bs).bind fun x => timesL one x.1 x.2
theorem textR_eq {bs : List UInt8} (h : bs.length ≤ 90000) : textR bs = textL bs := by
  unfold textR textL smallL manyL
  cases hn : numberL bs with
  | none => rfl
  | some x =>
    have hs := numberL_short _ _ _ (show numberL bs = some (x.1, x.2) from hn)
    simp only [Option.bind_some]
    by_cases h1 : x.1 ≤ x.2.length
    · rw [if_pos h1, if_pos (by omega)]
      simp [h1]
    · rw [if_neg h1]
      by_cases h2 : x.1 ≤ 90000
      · rw [if_pos h2]
        simp [h1]
      · rw [if_neg h2]
        rfl
theorem listR_eq {α : Type} {one : Prs α} (hone : Short one) {bs : List UInt8} (h : bs.length ≤ 90000) : listR one bs = listL one bs := by
  unfold listR listL smallL manyL
  cases hn : numberL bs with
  | none => rfl
  | some x =>
    have hs := numberL_short _ _ _ (show numberL bs = some (x.1, x.2) from hn)
    simp only [Option.bind_some]
    by_cases h1 : x.1 ≤ x.2.length
    · rw [if_pos h1, if_pos (by omega)]
    · rw [if_neg h1]
      by_cases h2 : x.1 ≤ 90000
      · rw [if_pos h2]
        simp only [Option.bind_some, Option.bind_none]
        cases ht : timesL one x.1 x.2 with
        | none => rfl
        | some y =>
          have := timesL_short hone _ _ _ _ (show timesL one x.1 x.2 = some (y.1, y.2) from ht)
          omega
      · rw [if_neg h2]
/-- What a step has read is at the place behind it. -/
theorem drop_of_suffix {bs r : List UInt8} (h : r = bs.drop (bs.length - r.length)) : ∃ k, r = bs.drop k ∧ k ≤ bs.length := ⟨_, h, by omega⟩
end Go.Proofs.YtkodcoianakjoaaDoor
