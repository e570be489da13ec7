/- Names: core.Name and the document's GoodName. -/
import Derived.Test.YtkodcoianakjoaaDoorLib
import Derived.Test.YtkodcoianakjoaaDoorRows
import Derived.IntWalk
import Derived.Deep.LoopGhost
import Derived.Deep.CutBlock
import Derived.Deep.DeepCutAuto
import Derived.Test.YtkodcoianakjoaaDoorObjPlain
import Derived.Test.YtkodcoianakjoaaDoorMacRef1
namespace Go.Proofs.YtkodcoianakjoaaDoor
open Go.RowKit
set_option linter.unusedSimpArgs false
set_option linter.unusedVariables false

theorem nameFrom_step {s : ByteArray} {k : Nat} (h : k < s.size) : nameFrom s (s.size - k) k = (letterOk k s[k] && nameFrom s (s.size - (k + 1)) (k + 1)) := by
  rw [show s.size - k = (s.size - (k + 1)) + 1 from by omega, nameFrom, byte_get h]

set_option maxRecDepth 100000 in
set_option maxHeartbeats 1000000 in
theorem Name_calls (s : ByteArray) (w : World) (R : Ending → World → Prop) (hR : R (.returned (.bool (goodName s))) w) :
    Calls Tryd.prog 47 #[.string s] w R := by
  by_cases h1 : s.size < 1
  · have HR : Hid (R (.returned (.bool false)) w) := by
      rw [show goodName s = false from by rw [goodName, Bool.and_eq_false_iff]; left; simp; omega] at hR
      exact Lib.hid hR
    clear hR
    have h1i : (s.size : Int) < 1 := by omega
    clear h1
    go_enter Tryd.func47, Tryd.ntmps47
    go_wp2
    exact HR.out
  by_cases h2 : 12 < s.size
  · have HR : Hid (R (.returned (.bool false)) w) := by
      rw [show goodName s = false from by rw [goodName, Bool.and_eq_false_iff]; left; simp; omega] at hR
      exact Lib.hid hR
    clear hR
    have h1i : ¬ (s.size : Int) < 1 := by omega
    have h2i : (12 : Int) < (s.size : Int) := by omega
    clear h1 h2
    go_enter Tryd.func47, Tryd.ntmps47
    go_wp2
    exact HR.out
  have HR : Hid (R (.returned (.bool (nameFrom s s.size 0))) w) := by
    rw [show goodName s = nameFrom s s.size 0 from by rw [goodName, show decide (1 ≤ s.size ∧ s.size ≤ 12) = true from by simp; omega, Bool.true_and]] at hR
    exact Lib.hid hR
  clear hR
  have h1i : ¬ (s.size : Int) < 1 := by omega
  have h2i : ¬ (12 : Int) < (s.size : Int) := by omega
  go_enter Tryd.func47, Tryd.ntmps47
  go_wp2
  go_loopg [3, 4, 15] s.size (fun g j c i wr => ∃ k : Nat, k ≤ s.size ∧ g = s.size - k ∧ i = .int .i64 k ∧ nameFrom s (s.size - k) k = nameFrom s s.size 0 ∧ wr = w)
  case atStart => exact ⟨0, Nat.zero_le _, rfl, rfl, rfl, rfl⟩
  case round =>
    obtain ⟨k, hk, rfl, rfl, ht, rfl⟩ := hrel
    have Ht := Lib.hid ht
    clear ht
    by_cases hlt : k < s.size
    · have i1 : (0 : Int) ≤ (k : Int) := Int.natCast_nonneg _
      have i2 : (k : Int) < (s.size : Int) := by omega
      have Hs := Lib.hid (nameFrom_step hlt)
      have hlo : Hid (letterOk k s[k] = decide ((97 ≤ s[k].toNat ∧ s[k].toNat ≤ 122) ∨ (65 ≤ s[k].toNat ∧ s[k].toNat ≤ 90) ∨ s[k].toNat = 95 ∨ (0 < k ∧ 48 ≤ s[k].toNat ∧ s[k].toNat ≤ 57))) := Lib.hid rfl
      have hyes : Hid (letterOk k s[k] = true → nameFrom s (s.size - (k + 1)) (k + 1) = nameFrom s s.size 0) := Lib.hid fun h => by rw [← Ht.out, Hs.out, h, Bool.true_and]
      have hno : Hid (letterOk k s[k] = false → R (.returned (.bool false)) wr) := Lib.hid fun h => by
        have := HR.out
        rw [← Ht.out, Hs.out, h, Bool.false_and] at this
        exact this
      clear HR
      go_wp2
      all_goals first
      | (refine hno.out ?_
         try simp only [Bool.not_eq_true', Bool.not_eq_false', decide_eq_true_eq, decide_eq_false_iff_not, beq_iff_eq, beq_eq_false_iff_ne, ne_eq] at *
         rw [hlo.out]
         exact decide_eq_false (by omega))
      | (go_roundg (s.size - (k + 1))
         case measure => omega
         case rel =>
           refine ⟨k + 1, hlt, rfl, by go_num, hyes.out ?_, rfl⟩
           try simp only [Bool.not_eq_true', Bool.not_eq_false', decide_eq_true_eq, decide_eq_false_iff_not, beq_iff_eq, beq_eq_false_iff_ne, ne_eq] at *
           rw [hlo.out]
           exact decide_eq_true (by omega))
    · obtain rfl : k = s.size := by omega
      rw [Nat.sub_self, nameFrom] at Ht
      rw [← Ht.out] at HR
      go_wp2
      exact HR.out
set_option maxRecDepth 100000 in
set_option maxHeartbeats 1000000 in
theorem GoodName_calls (s : ByteArray) (w : World) (R : Ending → World → Prop) (hR : R (.returned (.bool (goodName s))) w) :
    Calls Tryd.prog 53 #[.string s] w R := by
  by_cases h1 : s.size < 1
  · have HR : Hid (R (.returned (.bool false)) w) := by
      rw [show goodName s = false from by rw [goodName, Bool.and_eq_false_iff]; left; simp; omega] at hR
      exact Lib.hid hR
    clear hR
    have h1i : (s.size : Int) < 1 := by omega
    clear h1
    go_enter Tryd.func53, Tryd.ntmps53
    go_wp2
    exact HR.out
  by_cases h2 : 12 < s.size
  · have HR : Hid (R (.returned (.bool false)) w) := by
      rw [show goodName s = false from by rw [goodName, Bool.and_eq_false_iff]; left; simp; omega] at hR
      exact Lib.hid hR
    clear hR
    have h1i : ¬ (s.size : Int) < 1 := by omega
    have h2i : (12 : Int) < (s.size : Int) := by omega
    clear h1 h2
    go_enter Tryd.func53, Tryd.ntmps53
    go_wp2
    exact HR.out
  have HR : Hid (R (.returned (.bool (nameFrom s s.size 0))) w) := by
    rw [show goodName s = nameFrom s s.size 0 from by rw [goodName, show decide (1 ≤ s.size ∧ s.size ≤ 12) = true from by simp; omega, Bool.true_and]] at hR
    exact Lib.hid hR
  clear hR
  have h1i : ¬ (s.size : Int) < 1 := by omega
  have h2i : ¬ (12 : Int) < (s.size : Int) := by omega
  go_enter Tryd.func53, Tryd.ntmps53
  go_wp2
  go_loopg [3, 4, 5, 6] s.size (fun g i c l d wr => ∃ k : Nat, k ≤ s.size ∧ g = s.size - k ∧ i = .int .i64 k ∧ nameFrom s (s.size - k) k = nameFrom s s.size 0 ∧ wr = w)
  case atStart => exact ⟨0, Nat.zero_le _, rfl, rfl, rfl, rfl⟩
  case round =>
    obtain ⟨k, hk, rfl, rfl, ht, rfl⟩ := hrel
    have Ht := Lib.hid ht
    clear ht
    by_cases hlt : k < s.size
    · have i1 : (0 : Int) ≤ (k : Int) := Int.natCast_nonneg _
      have i2 : (k : Int) < (s.size : Int) := by omega
      have Hs := Lib.hid (nameFrom_step hlt)
      have hlo : Hid (letterOk k s[k] = decide ((97 ≤ s[k].toNat ∧ s[k].toNat ≤ 122) ∨ (65 ≤ s[k].toNat ∧ s[k].toNat ≤ 90) ∨ s[k].toNat = 95 ∨ (0 < k ∧ 48 ≤ s[k].toNat ∧ s[k].toNat ≤ 57))) := Lib.hid rfl
      have hyes : Hid (letterOk k s[k] = true → nameFrom s (s.size - (k + 1)) (k + 1) = nameFrom s s.size 0) := Lib.hid fun h => by rw [← Ht.out, Hs.out, h, Bool.true_and]
      have hno : Hid (letterOk k s[k] = false → R (.returned (.bool false)) wr) := Lib.hid fun h => by
        have := HR.out
        rw [← Ht.out, Hs.out, h, Bool.false_and] at this
        exact this
      clear HR
      go_wp2
      all_goals first
      | (refine hno.out ?_
         try simp only [Bool.not_eq_true', Bool.not_eq_false', decide_eq_true_eq, decide_eq_false_iff_not, beq_iff_eq, beq_eq_false_iff_ne, ne_eq] at *
         rw [hlo.out]
         exact decide_eq_false (by omega))
      | (go_roundg (s.size - (k + 1))
         case measure => omega
         case rel =>
           refine ⟨k + 1, hlt, rfl, by go_num, hyes.out ?_, rfl⟩
           try simp only [Bool.not_eq_true', Bool.not_eq_false', decide_eq_true_eq, decide_eq_false_iff_not, beq_iff_eq, beq_eq_false_iff_ne, ne_eq] at *
           rw [hlo.out]
           exact decide_eq_true (by omega))
    · obtain rfl : k = s.size := by omega
      rw [Nat.sub_self, nameFrom] at Ht
      rw [← Ht.out] at HR
      go_wp2
      exact HR.out
end Go.Proofs.YtkodcoianakjoaaDoor
