/- slices.Contains, slices.Max at numbers; what is wrong with an instruction. -/
import Derived.Test.YtkodcoianakjoaaDoorLib
import Derived.Test.YtkodcoianakjoaaDoorRows
import Derived.IntWalk
import Derived.Deep.LoopGhost
import Derived.Test.YtkodcoianakjoaaDoorMac1
namespace Go.Proofs.YtkodcoianakjoaaDoor
open Go.RowKit
set_option linter.unusedSimpArgs false
set_option linter.unusedVariables false

theorem Index_calls (v : Value) (xs : List Int) (t : Int) (w : World) (h : rpInt.SL w w.heap.size xs v) (R : Ending → World → Prop)
    (hin : ∀ k : Nat, k < xs.length → xs.getD k 0 = t → R (.returned (.int .i64 (k : Int))) w) (hout : (∀ k, k < xs.length → xs.getD k 0 ≠ t) → R (.returned (.int .i64 (-1))) w) :
    Calls Tryd.prog 112 #[v, .int .i64 t] w R := by
  obtain ⟨A, c, rfl, hm, hcap, hs⟩ := h.cases_
  have Hin := Lib.hid hin
  have Hout := Lib.hid hout
  clear hin hout h
  go_enter Tryd.func112, Tryd.ntmps112
  go_wp2
  go_loopg [5, 8] xs.length (fun g o i wr => ∃ k : Nat, k ≤ xs.length ∧ g = xs.length - k ∧ i = .int .i64 k ∧ (∀ j, j < k → xs.getD j 0 ≠ t) ∧ wr = w)
  case atStart => exact ⟨0, Nat.zero_le _, rfl, rfl, (fun j hj => absurd hj (Nat.not_lt_zero _)), rfl⟩
  case round =>
    obtain ⟨k, hk, rfl, rfl, hne, rfl⟩ := hrel
    have Hne := Lib.hid hne
    clear hne
    by_cases hlt : k < xs.length
    · obtain ⟨b, off, rfl, hb, p0⟩ := hs.int_at hlt
      have i1 : (0 : Int) ≤ (k : Int) := Int.natCast_nonneg _
      have i2 : (k : Int) < (xs.length : Int) := by omega
      have Hk : Hid (xs.getD k 0 = t → R (.returned (.int .i64 (k : Int))) wr) := Hin.out k hlt
      obtain ⟨x, hx⟩ : ∃ x, xs.getD k 0 = x := ⟨_, rfl⟩
      rw [hx] at p0 Hk
      have Hx := Lib.hid hx
      clear hx
      by_cases hxt : t = x
      · subst hxt
        have HR : Hid (R (.returned (.int .i64 (k : Int))) wr) := Hk.out rfl
        clear Hk Hin Hout
        go_wp2
        exact HR.out
      · have hb' : (t == x) = false := by simp [hxt]
        go_wp2
        go_roundg (xs.length - (k + 1))
        case measure => omega
        case rel =>
          refine ⟨k + 1, by omega, rfl, by go_num, fun j hj => ?_, rfl⟩
          rcases Nat.lt_succ_iff_lt_or_eq.1 hj with h1 | rfl
          · exact Hne.out j h1
          · rw [Hx.out]; exact fun e => hxt e.symm
    · obtain rfl : k = xs.length := by omega
      have HR : Hid (R (.returned (.int .i64 (-1))) wr) := Hout.out Hne.out
      clear Hin Hout Hne
      go_wp2
      exact HR.out

theorem Contains_calls (v : Value) (xs : List Int) (t : Int) (w : World) (h : rpInt.SL w w.heap.size xs v) (R : Ending → World → Prop)
    (hR : R (.returned (.bool (decide (t ∈ xs)))) w) :
    Calls Tryd.prog 110 #[v, .int .i64 t] w R := by
  have HR := Lib.hid hR
  clear hR
  go_enter Tryd.func110, Tryd.ntmps110
  go_wp2_with fail
  refine Index_calls _ xs t _ h _ (fun k hk e => ?_) (fun hn => ?_)
  · have hin : decide (t ∈ xs) = true := by
      have : t ∈ xs := by rw [← e, List.getD_eq_getElem?_getD, List.getElem?_eq_getElem hk]; exact List.getElem_mem hk
      simp [this]
    rw [hin] at HR
    have i1 : (0 : Int) ≤ (k : Int) := Int.natCast_nonneg _
    clear hin
    go_wp2
    exact HR.out
  · have hin : decide (t ∈ xs) = false := by
      have : t ∉ xs := by
        intro hm
        obtain ⟨k, hk, e⟩ := List.getElem_of_mem hm
        exact hn k hk (by rw [List.getD_eq_getElem?_getD, List.getElem?_eq_getElem hk]; exact e)
      simp [this]
    rw [hin] at HR
    clear hin hn
    go_wp2
    exact HR.out

def maxTo (xs : List Int) (k : Nat) : Int := ((xs.take k).drop 1).foldl max (xs.getD 0 0)
theorem maxTo_one (xs : List Int) : maxTo xs 1 = xs.getD 0 0 := by
  unfold maxTo
  cases xs <;> rfl
theorem maxTo_succ {xs : List Int} {k : Nat} (h : k < xs.length) (h1 : 1 ≤ k) : maxTo xs (k + 1) = max (maxTo xs k) (xs.getD k 0) := by
  unfold maxTo
  rw [List.take_succ_eq_append_getElem h, List.drop_append_of_le_length (by simp; omega), List.foldl_append, show xs.getD k 0 = xs[k] from by rw [List.getD_eq_getElem?_getD, List.getElem?_eq_getElem h]; rfl]
  rfl

theorem Max_calls (v : Value) (xs : List Int) (w : World) (h : rpInt.SL w w.heap.size xs v) (h1 : 1 ≤ xs.length) (R : Ending → World → Prop)
    (hR : R (.returned (.int .i64 (maxTo xs xs.length))) w) :
    Calls Tryd.prog 111 #[v] w R := by
  obtain ⟨A, c, rfl, hm, hcap, hs⟩ := h.cases_
  have HR := Lib.hid hR
  have i0 : (1 : Int) ≤ (xs.length : Int) := by omega
  have hn : ¬ ((xs.length : Int) < 1) := by omega
  have hp : (0 : Int) < (xs.length : Int) := by omega
  obtain ⟨b, off, rfl, hb, p0⟩ := hs.int_at (k := 0) (by omega)
  have e0 := maxTo_one xs
  have E0 := Lib.hid e0
  clear hR h e0
  generalize xs.getD 0 0 = x0 at *
  simp only [Nat.add_zero] at p0
  go_enter Tryd.func111, Tryd.ntmps111
  go_wp2
  go_loopg [3, 4] (xs.length - 1) (fun g m i wr => ∃ k : Nat, 1 ≤ k ∧ k ≤ xs.length ∧ g = xs.length - k ∧ i = .int .i64 k ∧ m = .int .i64 (maxTo xs k) ∧ wr = w)
  case atStart => exact ⟨1, Nat.le_refl _, h1, rfl, rfl, by rw [E0.out], rfl⟩
  case round =>
    obtain ⟨k, hk1, hk, rfl, rfl, rfl, rfl⟩ := hrel
    by_cases hlt : k < xs.length
    · obtain ⟨b', off', hA, _, q0⟩ := hs.int_at hlt
      injection hA with hA
      injection hA with hA1 hA2
      subst hA1 hA2
      have i1 : (0 : Int) ≤ (k : Int) := Int.natCast_nonneg _
      have i2 : (k : Int) < (xs.length : Int) := by omega
      have Hs := Lib.hid (maxTo_succ hlt hk1)
      generalize xs.getD k 0 = x at *
      generalize maxTo xs k = m at *
      by_cases hmx : m < x
      · have hmx2 : ¬ x < m := by omega
        rw [Int.max_eq_right (by omega)] at Hs
        have Hmx := Lib.hid hmx
        go_wp2
        go_roundg (xs.length - (k + 1))
        case measure => omega
        case rel => exact ⟨k + 1, by omega, by omega, rfl, by go_num, by rw [Hs.out], rfl⟩
      · rw [Int.max_eq_left (by omega)] at Hs
        go_wp2
        go_roundg (xs.length - (k + 1))
        case measure => omega
        case rel => exact ⟨k + 1, by omega, by omega, rfl, by go_num, by rw [Hs.out], rfl⟩
    · obtain rfl : k = xs.length := by omega
      go_wp2
      exact HR.out
end Go.Proofs.YtkodcoianakjoaaDoor
