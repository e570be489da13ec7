/- The law of what is needed: closed, and what two names need is what each needs. -/
import Derived.Test.YtcakodemngchpaaGreatDoorBase
import Derived.Test.YtcakodemngchpaaGreatDoorRows
import Derived.IntWalk
import Derived.Outline
import Derived.Deep.LoopGhost
import Derived.Deep.CutBlock
import Derived.Deep.DeepCutAuto
import Derived.Test.YtcakodemngchpaaGreatDoorKbA
import Derived.Test.YtcakodemngchpaaGreatDoorNeedA
namespace Go.Proofs.YtcakodemngchpaaGreatDoor
open Go.RowKit
set_option linter.unusedSimpArgs false
set_option linter.unusedVariables false

theorem needF_good {bs : List UInt8} {names : List ByteArray} (h : openF bs = (0, 0)) (hn : names.length ≤ 40) (hpre : ∀ x ∈ names, 0 ≤ ownerL (openO bs) x) : needF bs names = (0, 0) := by
  have hb : badN (openO bs) names = none := by
    unfold badN
    rw [List.findIdx?_eq_none_iff]
    intro x hx
    have := hpre x hx
    simp
    omega
  unfold needF
  rw [h, if_neg (by simp), if_neg (by omega), hb]
theorem needs_got {bs : List UInt8} {names : List ByteArray} {xs : List Int} (h : needF bs names = (0, 0)) (hx : NeedsM bs names xs) : ∃ S, GotM (openO bs) (needKs (openO bs) names) S ∧ xs = idxsM S := by
  unfold NeedsM at hx
  rw [h, if_neg (by simp)] at hx
  exact hx
theorem strs_made (W : World) (xs : List ByteArray) (hx : xs.length ≤ 100) (hp : 0 < xs.length) : rpStr.SL (W.alloc (.cells (xs.map Value.string).toArray 9)) (W.alloc (.cells (xs.map Value.string).toArray 9)).heap.size xs (.slice (some ⟨W.heap.size, 0, none⟩) xs.length xs.length) := by
  have he : xs.flatMap strCells = xs.map Value.string := by
    induction xs with
    | nil => simp at hp
    | cons x xs ih =>
      rw [List.flatMap_cons, List.map_cons]
      rcases Nat.eq_zero_or_pos xs.length with h0 | h0
      · rw [List.eq_nil_of_length_eq_zero h0]
        rfl
      · rw [ih (by simp at hx; omega) h0]
        rfl
  refine SLstr_own (base := 0) (e := 9) ⟨by rw [he]; simp, .inr ⟨W.heap.size, xs.length, _, rfl, Nat.zero_le _, heap_alloc_new _ _, Nat.le_refl _, by unfold maxLen; omega, by simp, ?_⟩⟩ (Nat.le_refl _)
  rw [he]
  simp only [List.toList_toArray]
  rw [List.take_of_length_le (by simp)]

end Go.Proofs.YtcakodemngchpaaGreatDoor
