/- math/bits.Len at what is less than 128. -/
import Derived.Test.YtkodcoianakjoaaDoorLib
import Derived.Test.YtkodcoianakjoaaDoorRows
import Derived.IntWalk
import Derived.Deep.LoopGhost
import Derived.Test.YtkodcoianakjoaaDoorRead1
import Derived.Test.YtkodcoianakjoaaDoorMacRef1
namespace Go.Proofs.YtkodcoianakjoaaDoor
open Go.RowKit
set_option linter.unusedSimpArgs false
set_option linter.unusedVariables false

def len8 : ByteArray := ⟨#[0, 1, 2, 2, 3, 3, 3, 3, 4, 4, 4, 4, 4, 4, 4, 4, 5, 5, 5, 5, 5, 5, 5, 5, 5, 5, 5, 5, 5, 5, 5, 5, 6, 6, 6, 6, 6, 6, 6, 6, 6, 6, 6, 6, 6, 6, 6, 6, 6, 6, 6, 6, 6, 6, 6, 6, 6, 6, 6, 6, 6, 6, 6, 6, 7, 7, 7, 7, 7, 7, 7, 7, 7, 7, 7, 7, 7, 7, 7, 7, 7, 7, 7, 7, 7, 7, 7, 7, 7, 7, 7, 7, 7, 7, 7, 7, 7, 7, 7, 7, 7, 7, 7, 7, 7, 7, 7, 7, 7, 7, 7, 7, 7, 7, 7, 7, 7, 7, 7, 7, 7, 7, 7, 7, 7, 7, 7, 7, 8, 8, 8, 8, 8, 8, 8, 8, 8, 8, 8, 8, 8, 8, 8, 8, 8, 8, 8, 8, 8, 8, 8, 8, 8, 8, 8, 8, 8, 8, 8, 8, 8, 8, 8, 8, 8, 8, 8, 8, 8, 8, 8, 8, 8, 8, 8, 8, 8, 8, 8, 8, 8, 8, 8, 8, 8, 8, 8, 8, 8, 8, 8, 8, 8, 8, 8, 8, 8, 8, 8, 8, 8, 8, 8, 8, 8, 8, 8, 8, 8, 8, 8, 8, 8, 8, 8, 8, 8, 8, 8, 8, 8, 8, 8, 8, 8, 8, 8, 8, 8, 8, 8, 8, 8, 8, 8, 8, 8, 8, 8, 8, 8, 8, 8, 8, 8, 8, 8, 8, 8, 8, 8, 8, 8, 8, 8, 8]⟩
theorem len8_ok (x : Nat) (hx : x < 128) (h : x < len8.size) : (len8[x]).toNat ≤ 7 ∧ (2 ≤ (len8[x]).toNat ↔ 2 ≤ x) := by
  have key : ∀ x : Nat, x < 128 → (len8.get! x).toNat ≤ 7 ∧ (2 ≤ (len8.get! x).toNat ↔ 2 ≤ x) := by decide +kernel
  rw [byte_get h]
  exact key x hx

set_option maxRecDepth 100000 in
set_option maxHeartbeats 1000000 in
theorem Len64_calls (x : Nat) (hx : x < 128) (w : World) (R : Ending → World → Prop) (hR : ∀ n : Int, 0 ≤ n → n ≤ 7 → (2 ≤ n ↔ 2 ≤ x) → R (.returned (.int .i64 n)) w) :
    Calls Tryd.prog 107 #[.int .u64 (x : Int)] w R := by
  have HR := Lib.hid hR
  have h1 : ¬ ((4294967296 : Int) ≤ (x : Int)) := by omega
  have h2 : ¬ ((65536 : Int) ≤ (x : Int)) := by omega
  have h3 : ¬ ((256 : Int) ≤ (x : Int)) := by omega
  have h4 : (0 : Int) ≤ (x : Int) := Int.natCast_nonneg _
  have h5 : (x : Int) < 256 := by omega
  clear hR
  go_enter Tryd.func107, Tryd.ntmps107
  go_wp2
  have hs : x < len8.size := by show x < 256; omega
  show R (.returned (.int .i64 (wrap64 (wrap64 ((len8[x]).toNat : Int))))) w
  obtain ⟨k1, k2⟩ := len8_ok x hx hs
  generalize (len8[x]).toNat = t at *
  rw [show wrap64 (wrap64 (t : Int)) = (t : Int) from by
    have : wrap64 (t : Int) = (t : Int) := by unfold wrap64; omega
    rw [this, this]]
  exact HR.out _ (by omega) (by omega) (by omega)

theorem Len_calls (x : Nat) (hx : x < 128) (w : World) (R : Ending → World → Prop) (hR : ∀ n : Int, 0 ≤ n → n ≤ 7 → (2 ≤ n ↔ 2 ≤ x) → R (.returned (.int .i64 n)) w) :
    Calls Tryd.prog 100 #[.int .u64 (x : Int)] w R := by
  have HR := Lib.hid hR
  clear hR
  go_enter Tryd.func100, Tryd.ntmps100
  go_wp2_with fail
  refine Len64_calls x hx _ _ (fun n n0 n1 n2 => ?_)
  have Hf := Lib.hid (HR.out n n0 n1 n2)
  clear HR n2
  go_wp2
  exact Hf.out
end Go.Proofs.YtkodcoianakjoaaDoor
