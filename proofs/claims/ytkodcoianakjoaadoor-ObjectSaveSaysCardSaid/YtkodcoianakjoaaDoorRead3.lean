/- The reader's numbers. -/
import Derived.Test.YtkodcoianakjoaaDoorLib
import Derived.Test.YtkodcoianakjoaaDoorRows
import Derived.IntWalk
import Derived.Deep.LoopGhost
import Derived.Test.YtkodcoianakjoaaDoorRead2
import Derived.Laws.BitsLemmas
import Derived.Laws.Bits64
import Derived.Laws.Bits64b
namespace Go.Proofs.YtkodcoianakjoaaDoor
open Go.RowKit
set_option linter.unusedSimpArgs false
set_option linter.unusedVariables false

theorem xor_zero (a : Nat) (h : a < 9223372036854775808) : bits .xor .i64 (a : Int) 0 = a := by
  have e : bits .xor .i64 (a : Int) 0 = IntKind.i64.wrap ((BitVec.ofInt 64 (a : Int) ^^^ BitVec.ofInt 64 0).toNat : Nat) := rfl
  rw [e, show BitVec.ofInt 64 0 = 0#64 from rfl, BitVec.xor_zero, BitVec.ofInt_natCast, BitVec.toNat_ofNat, IntKind.wrap_i64]
  omega
theorem xor_ones (a : Nat) (h : a < 9223372036854775808) : bits .xor .i64 (a : Int) (-1) = -(a : Int) - 1 := by
  have e : bits .xor .i64 (a : Int) (-1) = IntKind.i64.wrap ((BitVec.ofInt 64 (a : Int) ^^^ BitVec.ofInt 64 (-1)).toNat : Nat) := rfl
  rw [e, show BitVec.ofInt 64 (-1) = BitVec.allOnes 64 from by decide, BitVec.xor_allOnes, BitVec.toNat_not, BitVec.ofInt_natCast, BitVec.toNat_ofNat, IntKind.wrap_i64]
  omega
theorem and_one (n : Nat) (h : n < 18446744073709551616) : bits .and .u64 (n : Int) 1 = ((n % 2 : Nat) : Int) := by
  have := bits_mask .u64 64 (by decide) (fun n h0 h1 => by rw [IntKind.wrap_u64]; omega) 1 (by decide) (n : Int) (by omega) (by omega)
  simpa using this

set_option maxHeartbeats 1000000 in
theorem Unfold_calls (n : Nat) (hn : n < 18446744073709551616) (w : World) (R : Ending → World → Prop) (hR : R (.returned (.int .i64 (unfoldN n))) w) :
    Calls Tryd.prog 89 #[.int .u64 (n : Int)] w R := by
  have HR := Lib.hid hR
  clear hR
  go_enter Tryd.func89, Tryd.ntmps89
  go_wp2
  show R (.returned (.int .i64 (bits .xor .i64 ((n : Int) / 2) (wrap64 (-wrap64 (bits .and .u64 (n : Int) 1)))))) w
  rw [and_one n hn, show ((n : Int) / 2) = ((n / 2 : Nat) : Int) by omega]
  have HR := HR.out
  unfold unfoldN at HR
  rcases Nat.mod_two_eq_zero_or_one n with hm | hm
  · rw [if_neg (by omega)] at HR
    rw [hm, show wrap64 (-wrap64 ((0 : Nat) : Int)) = 0 from by unfold wrap64; simp, xor_zero _ (by omega)]
    exact HR
  · rw [if_pos hm] at HR
    rw [hm, show wrap64 (-wrap64 ((1 : Nat) : Int)) = -1 from by unfold wrap64; simp, xor_ones _ (by omega)]
    exact HR
end Go.Proofs.YtkodcoianakjoaaDoor
