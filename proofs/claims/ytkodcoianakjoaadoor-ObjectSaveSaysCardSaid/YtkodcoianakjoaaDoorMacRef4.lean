/- The document's answer: a number that stands at a place. -/
import Derived.Test.YtkodcoianakjoaaDoorLib
import Derived.Test.YtkodcoianakjoaaDoorRows
import Derived.IntWalk
import Derived.Deep.LoopGhost
import Derived.Test.YtkodcoianakjoaaDoorMacRef3
import Derived.Test.YtkodcoianakjoaaDoorRead4
namespace Go.Proofs.YtkodcoianakjoaaDoor
open Go.RowKit
set_option linter.unusedSimpArgs false
set_option linter.unusedVariables false

/-- Where a number ends. -/
def placeOf (bs : List UInt8) (r : List UInt8) : Int := (bs.length : Int) - r.length
theorem numL_drop : ∀ (f i acc : Nat) (bs : List UInt8) (n : Nat) (r : List UInt8), numL f i acc bs = some (n, r) → r = bs.drop (bs.length - r.length) ∧ r.length < bs.length
  | 0, _, _, _, _, _, h => by cases h
  | _ + 1, _, _, [], _, _, h => by cases h
  | f + 1, i, acc, b :: bs, n, r, h => by
    unfold numL at h
    split at h
    · cases h
    split at h
    · obtain ⟨_, rfl⟩ := Prod.mk.inj (Option.some.inj h)
      refine ⟨?_, by simp⟩
      rw [List.length_cons, show bs.length + 1 - bs.length = 1 from by omega]
      rfl
    · obtain ⟨h1, h2⟩ := numL_drop f _ _ _ _ _ h
      refine ⟨?_, by simp; omega⟩
      rw [List.length_cons, show bs.length + 1 - r.length = (bs.length - r.length) + 1 from by omega, List.drop_succ_cons]
      exact h1
theorem drop_cons {bs : List UInt8} {k : Nat} (h : k < bs.length) : bs.drop k = bs[k] :: bs.drop (k + 1) := by
  rw [List.drop_eq_getElem_cons h]

set_option maxRecDepth 100000 in
set_option maxHeartbeats 4000000 in
theorem readNumber_calls (v : Value) (bs : List UInt8) (k : Nat) (w : World) (h : rpByte.SL w w.heap.size bs v) (hk : k ≤ bs.length) (hlen : bs.length ≤ 100000) (R : Ending → World → Prop)
    (hsome : ∀ n r, n < 18446744073709551616 → numberL (bs.drop k) = some (n, r) → R (.returned (.tuple #[.int .u64 (n : Nat), .int .i64 (placeOf bs r)])) w)
    (hnone : numberL (bs.drop k) = none → R (.returned (.tuple #[.int .u64 0, .int .i64 (-1)])) w) :
    Calls Tryd.prog 104 #[v, .int .i64 (k : Int)] w R := by
  have Hsome := Lib.hid hsome
  have Hnone := Lib.hid hnone
  clear hsome hnone
  obtain ⟨A, n, rfl, hm, hcap, h⟩ := h.cases_
  have Hs := Lib.hid h
  have hk0 : (0 : Int) ≤ (k : Int) := Int.natCast_nonneg _
  have hk1 : (k : Int) ≤ 100000 := by omega
  clear h
  go_enter Tryd.func104, Tryd.ntmps104
  go_wp2
  go_loopg [6, 7, 8] 10 (fun g n s b wr => ∃ (i acc : Nat), i ≤ 9 ∧ g = 10 - i ∧ n = .int .u64 (acc : Int) ∧ s = .int .i64 (i : Int) ∧ acc < 2 ^ (7 * i) ∧ acc < 18446744073709551616 ∧ k + i ≤ bs.length ∧ numL (10 - i) i acc (bs.drop (k + i)) = numberL (bs.drop k) ∧ wr = w)
  case atStart => exact ⟨0, 0, by omega, rfl, rfl, rfl, by omega, by omega, by omega, rfl, rfl⟩
  case round =>
    obtain ⟨i, acc, hi, rfl, rfl, rfl, ha, ha2, hki, hq, rfl⟩ := hrel
    have Ha := Lib.hid ha
    clear ha
    have i0 : (0 : Int) ≤ (i : Int) := Int.natCast_nonneg _
    have i1 : (i : Int) < 10 := by omega
    by_cases hlt : k + i < bs.length
    · obtain ⟨g, off, rfl, hg, q0⟩ := Hs.out.byte_at hlt
      have hstep := drop_cons hlt
      rw [hstep, numL_step (by omega)] at hq
      have hx2 := (bs[k + i]).toNat_lt
      generalize (bs[k + i]).toNat = x at *
      have i2 : (k : Int) + (i : Int) < (bs.length : Int) := by omega
      have x0 : (0 : Int) ≤ (x : Int) := Int.natCast_nonneg _
      have x1 : (x : Int) < 256 := by omega
      by_cases h9 : i = 9 ∧ 1 < x
      · have hfin := Hnone.out (by rw [← hq, if_pos (.inl h9)])
        have Hfin := Lib.hid hfin
        obtain ⟨rfl, h9⟩ := h9
        have x2 : (1 : Int) < (x : Int) := by omega
        clear hfin hstep hq
        go_wp2
        exact Hfin.out
      by_cases hz : x = 0 ∧ 0 < i
      · have hfin := Hnone.out (by rw [← hq, if_pos (.inr ⟨hz.2, hz.1⟩)])
        have Hfin := Lib.hid hfin
        obtain ⟨rfl, hz⟩ := hz
        have i3 : (0 : Int) < (i : Int) := by omega
        clear hfin hstep hq h9
        by_cases hi9 : i = 9
        · subst hi9
          go_wp2
          all_goals first | exact Hfin.out | (exfalso; omega)
        · have n9 : ((i : Int) == 9) = false := by simp; omega
          clear hi9
          go_wp2
          all_goals first | exact Hfin.out | (exfalso; omega)
      have h9' : i = 9 → x < 2 := by omega
      by_cases hx128 : x < 128
      · have hf := acc_fits (x := x) (i := i) (by omega) Ha.out hx128 h9'
        have hxi : (x : Int) < 128 := by omega
        rw [if_neg (by omega), if_pos hx128] at hq
        have hfin : Hid (∀ a b : Int, a = ((acc + x * 2 ^ (7 * i) : Nat) : Int) → b = (k : Int) + i + 1 → R (.returned (.tuple #[.int .u64 a, .int .i64 b])) wr) := Lib.hid fun a b ha hb => by
          subst ha
          have := Hsome.out _ _ hf.2 hq.symm
          rw [placeOf, List.length_drop, show ((bs.length - (k + i + 1) : Nat) : Int) = (bs.length : Int) - (k + i + 1) from by omega] at this
          rw [hb, show (k : Int) + i + 1 = (bs.length : Int) - ((bs.length : Int) - (k + i + 1)) from by omega]
          exact this
        have he : Hid (IntKind.u64.wrap ((acc : Int) + IntKind.u64.wrap ((x : Int) % 128 * 2 ^ (7 * i))) = ((acc + x * 2 ^ (7 * i) : Nat) : Int)) := Lib.hid (by
          rw [show ((x : Int) % 128 * 2 ^ (7 * i)) = ((x * 2 ^ (7 * i) : Nat) : Int) from by push_cast; rw [show (x : Int) % 128 = x from by omega]]
          rw [IntKind.wrap_u64, IntKind.wrap_u64]
          omega)
        by_cases hi9 : i = 9
        · subst hi9
          obtain rfl : x = 1 := by omega
          clear hz hf hq h9 h9' hstep hx128
          go_wp2
          all_goals first
          | exact hfin.out _ _ (by rw [IntKind.wrap_u64]; have := Ha.out; simp at this ⊢; omega) (by omega)
          | (exfalso; omega)
        · have n9 : ((i : Int) == 9) = false := by simp; omega
          have Hz := Lib.hid hz
          clear hz hf hq h9 h9' hstep hx128 hi9
          go_wp2
          all_goals first
          | exact hfin.out _ _ he.out (by omega)
          | (exfalso; have := Hz.out; omega)
      · have hf := acc_fits (x := x % 128) (i := i) (by omega) Ha.out (Nat.mod_lt _ (by decide)) (by omega)
        have hxi : ¬ (x : Int) < 128 := by omega
        have n9 : ((i : Int) == 9) = false := by simp; omega
        rw [if_neg (by omega), if_neg hx128, show x - 128 = x % 128 from by omega] at hq
        have he : Hid (IntKind.u64.wrap ((acc : Int) + IntKind.u64.wrap ((x : Int) % 128 * 2 ^ (7 * i))) = ((acc + x % 128 * 2 ^ (7 * i) : Nat) : Int)) := Lib.hid (by
          rw [show ((x : Int) % 128 * 2 ^ (7 * i)) = ((x % 128 * 2 ^ (7 * i) : Nat) : Int) from by push_cast; rfl]
          rw [IntKind.wrap_u64, IntKind.wrap_u64]
          omega)
        have Hf := Lib.hid hf
        have Hq := Lib.hid hq
        have Hi := Lib.hid (show i < 9 by omega)
        have Hk := Lib.hid (show k + (i + 1) ≤ bs.length by omega)
        clear hz hf hq h9 h9' hstep hx128
        go_wp2
        go_roundg (10 - (i + 1))
        case measure => have := Hi.out; omega
        case rel => exact ⟨i + 1, _, Hi.out, rfl, by rw [← he.out], by go_num, Hf.out.1, Hf.out.2, Hk.out, Hq.out, rfl⟩
    · have hfin := Hnone.out (by rw [← hq, List.drop_eq_nil_of_le (by omega), numL_nil (by omega)])
      have Hfin := Lib.hid hfin
      have i2 : ¬ (k : Int) + (i : Int) < (bs.length : Int) := by omega
      clear hfin hq
      go_wp2
      exact Hfin.out
end Go.Proofs.YtkodcoianakjoaaDoor
