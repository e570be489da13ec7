/- For every frame frame.Enter tells what the document tells: its instructions, or what is wrong and where. -/
import Derived.Test.YtmlmnhhgdcfchaaRows
import Derived.ProofKit
import Derived.OpenShut
import Derived.ShutString
import Derived.ChangeOld
import Derived.Below
import Derived.Test.YtmlmnhhgdcfchaaFrame4
namespace Go.Proofs.Ytmlmnhhgdcfchaa
open Go.ChangeShapes Go.WideShapes Go.ChangeAt Go.RowKit
set_option linter.unusedVariables false
set_option linter.unusedSimpArgs false

theorem own : ownKnob Try.prog.godebug = none := by kernel_rfl
theorem laidOut : laidOutB Try.prog = true := by kernel_rfl

structure Frame where
  spills : Int
  saves : List Int
def rpFrame : Rp Frame := (rpInt.pair rpInt.slice).as_ fun f => (f.spills, f.saves)
theorem opensFrame : rpFrame.opens Try.prog 24 :=
  opens_as (fun x => ⟨x.1, x.2⟩) (fun _ => rfl) (opens_struct Try.underlying24 (by kernel_rfl) (fields_cons (opens_int Try.underlying3 (by kernel_rfl)) rfl (fields_one (opens_slice Try.underlying22 (by kernel_rfl) (by decide) (opens_int Try.underlying3 (by kernel_rfl))) rfl)))
theorem rpFrame_rep {w : World} {B : Nat} {f : Frame} {cs : List Value} (h : rpFrame.rep w B f cs) : ∃ v, cs = [.int .i64 f.spills, v] ∧ rpInt.SL w B f.saves v := by
  obtain ⟨c1, c2, rfl, rfl, v, rfl, hv⟩ := h
  exact ⟨v, rfl, hv⟩

set_option maxRecDepth 100000 in
theorem frameEnterSays_lifted (os : Os) (started : os.Started) (H : Type) (enc : TypeId × Value → H) :
    ReturnsInHanded {} Try.checked os 3 .any (Rows.frameEnterSaysSpec.pre6 enc Try.prog Try.f3 Rows.frameEnterSaysRow.domain false) (Rows.frameEnterSaysSpec.post enc Try.prog Try.f3 false true false false) := by
  refine returnsInHanded_of_change (C := Try.checked) own started (by kernel_rfl) Try.func3
    (ChangeSpec.witness6 (enc := enc) (C := Try.checked) false ⟨#[], #[.agg #[.int .i64 0, .slice none 0 0]], []⟩ 8 (by kernel_rfl) (by kernel_rfl) (by kernel_rfl) (by kernel_rfl)) ?_
  intro W base args ds gs before hval0 hW hcnd _
  have hval : ∀ (j : Nat) t v, Try.f3.params[j]? = some t → args[j]? = some v → Value.okWide Try.prog W .any base t v := hval0
  have hW' := hW
  obtain ⟨p, q, hA0, hV, rfl, hfz, hnd⟩ := hW
  have hA : DataW.TrodAll enc Try.prog W 0 (fun _ => true) true Try.f3.params.toList args.toList ds p := hA0
  rw [Try.params3] at hA hval
  obtain ⟨v0, vs0, d0, ds0, p0, q0, hargs, rfl, rfl, g0, r0⟩ := trodAll_cons hA
  obtain ⟨rfl, rfl, rfl⟩ := trodAll_nil r0
  obtain rfl : args = #[v0] := by cases args; simp_all
  obtain ⟨rfl, rfl⟩ := trodVars_none hV
  have k0 := g0
  have lt0 : ∀ x ∈ p0, x.block < W.heap.size := by obtain ⟨m, hm⟩ := k0; exact DataW.trod_lt m _ _ _ hm
  obtain ⟨cs0, rfl, _⟩ := okWide_struct Try.underlying24 (hval 0 24 v0 rfl rfl)
  obtain ⟨x0, h0, ok0⟩ := Rp.arg opensFrame g0
  clear hA0 hval0
  have walk : Calls Try.prog 3 #[.agg cs0] W fun e w' => e = .returned (.bool true) ∧ Below W.heap.size W w' := by
    obtain ⟨v, hcs, hv⟩ := rpFrame_rep h0
    obtain rfl : cs0 = #[.int .i64 x0.spills, v] := by cases cs0; simpa [Value.cells] using hcs
    exact EnterSays_calls _ _ _ _ hv _ fun w' hb => ⟨rfl, hb⟩
  refine walk.mono fun e W' ⟨he, bel⟩ => ?_
  subst he
  exact ⟨_, rfl, _, _, _, [], _, [], hW', trodAll_mk1 (shut_bool Try.underlying4 _), (trodAll_cons_mk (Below.trod laidOut (by kernel_rfl) (of_decide_eq_true (by kernel_rfl)) k0 bel lt0) trodAll_mk0), rfl, bel.frame _, fun h => by cases h⟩

/-- The statement. -/
theorem frameEnterSays_holds : Rows.FrameEnterSaysSaid :=
  OpenClaim.holds_of_wide 3 Try.f3 rfl rfl rfl rfl rfl rfl rfl ⟨rfl, rfl, rfl, rfl, rfl⟩ rfl rfl rfl rfl rfl (by kernel_rfl) Try.func3 (by kernel_rfl)
    (of_decide_eq_true (by kernel_rfl)) (by unfold Func.isWrapper; first | (rw [if_pos (by decide +kernel)]; kernel_rfl) | (rw [if_neg (by decide +kernel)]; exact ⟨rfl, rfl⟩))
    (fun os started H enc _ => frameEnterSays_lifted os started H enc)

end Go.Proofs.Ytmlmnhhgdcfchaa
