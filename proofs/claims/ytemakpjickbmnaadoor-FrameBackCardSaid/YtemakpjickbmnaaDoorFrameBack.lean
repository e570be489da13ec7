/- A routine that enters a frame, changes all registers and leaves it gives main's kept registers back (a card: mac.shapes is tied to the program's text). No condition beyond the card's own. -/
import Derived.Test.YtemakpjickbmnaaDoorRows
import Derived.Test.YtemakpjickbmnaaDoorCards
import Derived.Test.YtemakpjickbmnaaDoorTie
import Derived.ProofKit
import Derived.LaidMore
import Derived.OpenShut
import Derived.ShutString
import Derived.ChangeOld
import Derived.Below
import Derived.Stop.Joined
import Derived.SevenTiedAt
import Derived.Test.YtemakpjickbmnaaDoorObjOpen
import Derived.Test.YtemakpjickbmnaaDoorFk4
namespace Go.Proofs.YtemakpjickbmnaaDoor
open Go.ChangeShapes Go.WideShapes Go.ChangeAt Go.RowKit
set_option linter.unusedVariables false
set_option linter.unusedSimpArgs false

theorem own : ownKnob Tryd.prog.godebug = none := by kernel_rfl
theorem laidOut : laidOutB Tryd.prog = true := by kernel_rfl

set_option maxRecDepth 100000 in
theorem frameBack_lifted (os : Os) (started : os.Started) (H : Type) (enc : TypeId × Value → H) :
    ReturnsInHanded {} Tryd.checked os 8 .any (fun w args => (Rows.frameBackSpec.pre enc Tryd.prog Tryd.f8 [] false w args ∧ laidMetH Tryd.prog laidS w) ∧ sizedMet enc Tryd.prog Tryd.f8 (OpenSpec.ofChange Rows.frameBackSpec) false w args) (Rows.frameBackSpec.post enc Tryd.prog Tryd.f8 false true false false) := by
  refine returnsInHanded_of_change_and (C := Tryd.checked) (X := fun w _ => laidMetH Tryd.prog laidS w) (fun _ _ _ hh h => h.of_heap hh) own started (by kernel_rfl) Tryd.func8
    (ChangeSpec.witness_shaped (enc := enc) (C := Tryd.checked) (os := os) (X := fun w _ => laidMetH Tryd.prog laidS w) false (World.doorLaid Tryd.prog 400 os) #[.int .i64 0, .int .i64 0, .int .i64 0, .int .i64 0] 8 rfl (World.shaped_of_RefB (by kernel_rfl) (by kernel_rfl)) (by kernel_rfl) (by kernel_rfl) (by kernel_rfl) (door_met os _)) ?_
  intro W base args ds gs before hval0 hW _ _ hL _
  have hval : ∀ (j : Nat) t v, Tryd.f8.params[j]? = some t → args[j]? = some v → Value.okWide Tryd.prog W .any base t v := hval0
  have hW' := hW
  obtain ⟨p, q, hA0, hV, rfl, hfz, hnd⟩ := hW
  have hA : DataW.TrodAll enc Tryd.prog W 0 (fun _ => true) true Tryd.f8.params.toList args.toList ds p := hA0
  rw [Tryd.params8] at hA hval
  obtain ⟨v0, vs0, d0, ds0, p0, q0, hargs, rfl, rfl, g0, r0⟩ := trodAll_cons hA
  obtain ⟨v1, vs1, d1, ds1, p1, q1, rfl, rfl, rfl, g1, r1⟩ := trodAll_cons r0
  obtain ⟨v2, vs2, d2, ds2, p2, q2, rfl, rfl, rfl, g2, r2⟩ := trodAll_cons r1
  obtain ⟨v3, vs3, d3, ds3, p3, q3, rfl, rfl, rfl, g3, r3⟩ := trodAll_cons r2
  obtain ⟨rfl, rfl, rfl⟩ := trodAll_nil r3
  obtain rfl : args = #[v0, v1, v2, v3] := by cases args; simp_all
  obtain ⟨rfl, rfl⟩ := trodVars_none hV
  have k0 := g0
  have lt0 : ∀ x ∈ p0, x.block < W.heap.size := by obtain ⟨m, hm⟩ := k0; exact DataW.trod_lt m _ _ _ hm
  have k1 := g1
  have lt1 : ∀ x ∈ p1, x.block < W.heap.size := by obtain ⟨m, hm⟩ := k1; exact DataW.trod_lt m _ _ _ hm
  have k2 := g2
  have lt2 : ∀ x ∈ p2, x.block < W.heap.size := by obtain ⟨m, hm⟩ := k2; exact DataW.trod_lt m _ _ _ hm
  have k3 := g3
  have lt3 : ∀ x ∈ p3, x.block < W.heap.size := by obtain ⟨m, hm⟩ := k3; exact DataW.trod_lt m _ _ _ hm
  obtain ⟨n0, rfl, ok0⟩ : ∃ n, v0 = .int .i64 n ∧ I64 n := by obtain ⟨x, rfl, _, _, wx⟩ := open_int Tryd.underlying3 (hval 0 3 v0 rfl rfl) g0; exact ⟨x, rfl, bounds_i64 wx⟩
  obtain ⟨n1, rfl, ok1⟩ : ∃ n, v1 = .int .i64 n ∧ I64 n := by obtain ⟨x, rfl, _, _, wx⟩ := open_int Tryd.underlying3 (hval 1 3 v1 rfl rfl) g1; exact ⟨x, rfl, bounds_i64 wx⟩
  obtain ⟨n2, rfl, ok2⟩ : ∃ n, v2 = .int .i64 n ∧ I64 n := by obtain ⟨x, rfl, _, _, wx⟩ := open_int Tryd.underlying3 (hval 2 3 v2 rfl rfl) g2; exact ⟨x, rfl, bounds_i64 wx⟩
  obtain ⟨n3, rfl, ok3⟩ : ∃ n, v3 = .int .i64 n ∧ I64 n := by obtain ⟨x, rfl, _, _, wx⟩ := open_int Tryd.underlying3 (hval 3 3 v3 rfl rfl) g3; exact ⟨x, rfl, bounds_i64 wx⟩
  have hS := of_laid hL
  clear hA0 hval0
  have walk : Calls Tryd.prog 8 #[.int .i64 n0, .int .i64 n1, .int .i64 n2, .int .i64 n3] W fun e w' => e = .returned (.bool true) ∧ Below W.heap.size W w' := by
    exact FrameBack_calls n0 n1 n2 n3 ok0 ok1 ok2 ok3 W hS _ fun w' hb => ⟨rfl, hb⟩
  refine walk.mono fun e W' ⟨he, bel⟩ => ?_
  subst he
  exact ⟨_, rfl, _, _, _, [], _, [], hW', trodAll_mk1 (shut_bool Tryd.underlying4 _), (trodAll_cons_mk (Below.trod laidOut (by kernel_rfl) (of_decide_eq_true (by kernel_rfl)) k0 bel lt0) (trodAll_cons_mk (Below.trod laidOut (by kernel_rfl) (of_decide_eq_true (by kernel_rfl)) k1 bel lt1) (trodAll_cons_mk (Below.trod laidOut (by kernel_rfl) (of_decide_eq_true (by kernel_rfl)) k2 bel lt2) (trodAll_cons_mk (Below.trod laidOut (by kernel_rfl) (of_decide_eq_true (by kernel_rfl)) k3 bel lt3) trodAll_mk0)))), rfl, bel.frame _, fun h => by cases h⟩

theorem frameBack_row : Rows.FrameBackSaid :=
  OpenClaim.holds_of_wide 8 Tryd.f8 rfl rfl rfl rfl rfl rfl rfl ⟨rfl, rfl, rfl, rfl, rfl⟩ rfl rfl rfl rfl rfl (by kernel_rfl) Tryd.func8 (by kernel_rfl)
    (of_decide_eq_true (by kernel_rfl)) (by unfold Func.isWrapper; first | (rw [if_pos (by decide +kernel)]; kernel_rfl) | (rw [if_neg (by decide +kernel)]; exact ⟨rfl, rfl⟩))
    (fun os started H enc _ => frameBack_lifted os started H enc)
/-- The card. -/
theorem frameBack_holds : Rows.FrameBackCardSaid :=
  Claim7.holds_tied_plain_at .later [] [.data] true (true, "38b563fcbe18118eb6cdf68b32839a875de6f3e11bb7b5c5eb87970a7be73bbe") false
    frameBack_row (fun _ h => by cases h) (by kernel_rfl) (fun _ h => by cases h) frameBack_row_tie rfl ⟨rfl, rfl⟩ (by kernel_rfl) rfl
    (fun f fn hf hfn => by
      obtain rfl : f = 8 := Option.some.inj ((show Tryd.prog.funcNamed "turnery/turnerylaw8.FrameBack" = some 8 by kernel_rfl).symm.trans hf) |>.symm
      obtain rfl : fn = Tryd.f8 := (Option.some.inj (Tryd.func8.symm.trans hfn)).symm
      exact ⟨by kernel_rfl, fun j t ht => by
        rw [Tryd.params8] at ht
        rcases j with _ | _ | _ | _ | j
        · have h3 : t = 3 := by simpa using ht.symm
          subst h3
          exact (show Tryd.prog.wantsStandIn 3 = false by kernel_rfl)
        · have h3 : t = 3 := by simpa using ht.symm
          subst h3
          exact (show Tryd.prog.wantsStandIn 3 = false by kernel_rfl)
        · have h3 : t = 3 := by simpa using ht.symm
          subst h3
          exact (show Tryd.prog.wantsStandIn 3 = false by kernel_rfl)
        · have h3 : t = 3 := by simpa using ht.symm
          subst h3
          exact (show Tryd.prog.wantsStandIn 3 = false by kernel_rfl)
        · simp at ht⟩)
    (by kernel_rfl)

end Go.Proofs.YtemakpjickbmnaaDoor
