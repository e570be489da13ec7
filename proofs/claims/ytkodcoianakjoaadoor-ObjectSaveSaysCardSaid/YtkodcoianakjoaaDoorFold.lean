/- Numbers folded. -/
import Derived.Test.YtkodcoianakjoaaDoorLib
import Derived.Test.YtkodcoianakjoaaDoorRows
import Derived.IntWalk
import Derived.Laws.BitsLemmas
import Derived.Laws.Bits64
import Derived.Laws.Bits64b
import Derived.Test.YtkodcoianakjoaaDoorCopy
namespace Go.Proofs.YtkodcoianakjoaaDoor
open Go.RowKit
set_option linter.unusedSimpArgs false
set_option linter.unusedVariables false

def foldN (n : Int) : Nat := if n < 0 then (2 * (-(n + 1)) + 1).toNat else (2 * n).toNat
theorem foldN_lt {n : Int} (h0 : -9223372036854775808 ≤ n) (h1 : n ≤ 9223372036854775807) : foldN n < 18446744073709551616 := by
  unfold foldN
  split <;> omega

theorem xor64_ones (a : Nat) (h : a < 18446744073709551616) : bits .xor .u64 (a : Int) 18446744073709551615 = 18446744073709551615 - (a : Int) := by
  have e : bits .xor .u64 (a : Int) 18446744073709551615 = IntKind.u64.wrap ((BitVec.ofInt 64 (a : Int) ^^^ BitVec.ofInt 64 18446744073709551615).toNat : Nat) := rfl
  rw [e, show BitVec.ofInt 64 18446744073709551615 = BitVec.allOnes 64 from by decide, BitVec.xor_allOnes, BitVec.toNat_not, BitVec.ofInt_natCast, BitVec.toNat_ofNat, IntKind.wrap_u64]
  omega
theorem xor64_zero (a : Nat) (h : a < 18446744073709551616) : bits .xor .u64 (a : Int) 0 = a := by
  have e : bits .xor .u64 (a : Int) 0 = IntKind.u64.wrap ((BitVec.ofInt 64 (a : Int) ^^^ BitVec.ofInt 64 0).toNat : Nat) := rfl
  rw [e, show BitVec.ofInt 64 0 = 0#64 from rfl, BitVec.xor_zero, BitVec.ofInt_natCast, BitVec.toNat_ofNat, IntKind.wrap_u64]
  omega

set_option maxHeartbeats 400000 in
theorem Folded_calls (n : Int) (w : World) (hn : I64 n) (R : Ending → World → Prop) (hR : R (.returned (.int .u64 (foldN n : Nat))) w) :
    Calls Tryd.prog 63 #[.int .i64 n] w R := by
  obtain ⟨h0, h1⟩ := hn
  unfold foldN at hR
  by_cases h : n < 0
  · rw [if_pos h] at hR
    have e : (((2 * (-(n + 1)) + 1).toNat : Nat) : Int) = 2 * (-(n + 1)) + 1 := by omega
    rw [e] at hR
    have HR := Lib.hid hR
    clear hR e
    go_enter Tryd.func63, Tryd.ntmps63
    go_wp2
    exact HR.out
  · rw [if_neg h] at hR
    have e : (((2 * n).toNat : Nat) : Int) = 2 * n := by omega
    rw [e] at hR
    have HR := Lib.hid hR
    have h' : 0 ≤ n := by omega
    clear hR e
    go_enter Tryd.func63, Tryd.ntmps63
    go_wp2
    exact HR.out
set_option maxHeartbeats 400000 in
theorem Fold_calls (n : Int) (w : World) (hn : I64 n) (R : Ending → World → Prop) (hR : R (.returned (.int .u64 (foldN n : Nat))) w) :
    Calls Tryd.prog 58 #[.int .i64 n] w R := by
  obtain ⟨h0, h1⟩ := hn
  unfold foldN at hR
  by_cases h : n < 0
  · rw [if_pos h] at hR
    have e : (((2 * (-(n + 1)) + 1).toNat : Nat) : Int) = 2 * (-(n + 1)) + 1 := by omega
    rw [e] at hR
    have HR := Lib.hid hR
    clear hR e
    go_enter Tryd.func58, Tryd.ntmps58
    go_wp2
    show R (.returned (.int .u64 (bits .xor .u64 (IntKind.u64.wrap (IntKind.u64.wrap n * 2)) (IntKind.u64.wrap (n / 9223372036854775808))))) w
    have e1 : IntKind.u64.wrap (IntKind.u64.wrap n * 2) = (((18446744073709551616 + 2 * n).toNat : Nat) : Int) := by rw [IntKind.wrap_u64, IntKind.wrap_u64]; omega
    have e2 : IntKind.u64.wrap (n / 9223372036854775808) = 18446744073709551615 := by rw [IntKind.wrap_u64]; omega
    rw [e1, e2, xor64_ones _ (by omega), show (18446744073709551615 : Int) - (((18446744073709551616 + 2 * n).toNat : Nat) : Int) = 2 * (-(n + 1)) + 1 from by omega]
    exact HR.out
  · rw [if_neg h] at hR
    have e : (((2 * n).toNat : Nat) : Int) = 2 * n := by omega
    rw [e] at hR
    have HR := Lib.hid hR
    have h' : 0 ≤ n := by omega
    clear hR e
    go_enter Tryd.func58, Tryd.ntmps58
    go_wp2
    have e1 : n * 2 = (((2 * n).toNat : Nat) : Int) := by omega
    have e2 : n / 9223372036854775808 = 0 := by omega
    rw [e1, e2, xor64_zero _ (by omega), show (((2 * n).toNat : Nat) : Int) = 2 * n from by omega]
    exact HR.out
end Go.Proofs.YtkodcoianakjoaaDoor
