/- An image that may be, plainly. -/
import Derived.Test.YtcakodemngchpaaGreatDoorLinkY
namespace Go.Proofs.YtcakodemngchpaaGreatDoor
open Go.RowKit

/-- An image that may be. -/
structure ImgOk (im : Image) : Prop where
  glob : globFault im.globals = (0, 0)
  some_ : 0 < im.routines.length
  few : im.routines.length ≤ 40
  each : ∀ (k : Nat) (r : Routine), im.routines[k]? = some r → goodName r.name = true ∧ (k = 0 → r.name = mainB) ∧ hasG im.globals r.name = false ∧ (∀ (j : Nat) (x : Routine), j < k → im.routines[j]? = some x → x.name ≠ r.name) ∧ ∃ c, readL r.code = some c ∧ ∀ x ∈ c, x.op = 44 → x.n < (im.routines.length : Int)
end Go.Proofs.YtcakodemngchpaaGreatDoor
