/- Instructions that come in. -/
import Derived.Test.YtemakpjickbmnaaDoorRows
import Derived.ProofKit
import Derived.LaidMore
import Derived.OpenShut
import Derived.Test.YtemakpjickbmnaaDoorPlainA
namespace Go.Proofs.YtemakpjickbmnaaDoor
open Go.ChangeShapes Go.WideShapes Go.ChangeAt Go.RowKit
set_option linter.unusedVariables false
set_option linter.unusedSimpArgs false

theorem opensMac : rpMac.opens Tryd.prog 36 :=
  opens_as (fun x => ⟨x.1, x.2.1, x.2.2.1, x.2.2.2.1, x.2.2.2.2⟩) (fun _ => rfl) (opens_struct Tryd.underlying36 (by kernel_rfl) (fields_cons (opens_int Tryd.underlying3 (by kernel_rfl)) rfl (fields_cons (opens_int Tryd.underlying3 (by kernel_rfl)) rfl (fields_cons (opens_int Tryd.underlying3 (by kernel_rfl)) rfl (fields_cons (opens_int Tryd.underlying3 (by kernel_rfl)) rfl (fields_one (opens_int Tryd.underlying3 (by kernel_rfl)) rfl))))))
end Go.Proofs.YtemakpjickbmnaaDoor
