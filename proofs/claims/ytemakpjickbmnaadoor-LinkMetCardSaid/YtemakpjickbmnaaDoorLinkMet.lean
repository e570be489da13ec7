/- Of an image with the left out routines added, none of those is ever met, and it runs as the image does (a card: mac.shapes is tied to the program's text). No condition beyond the card's own. -/
import Derived.Test.YtemakpjickbmnaaDoorRows
import Derived.Test.YtemakpjickbmnaaDoorCards
import Derived.Test.YtemakpjickbmnaaDoorTie
import Derived.ProofKit
import Derived.LaidMore
import Derived.OpenShut
import Derived.ShutString
import Derived.ChangeOld
import Derived.Below
import Derived.Stop.Joined
import Derived.SevenTiedAt
import Derived.Test.YtemakpjickbmnaaDoorObjOpen
import Derived.Test.YtemakpjickbmnaaDoorMt4
namespace Go.Proofs.YtemakpjickbmnaaDoor
open Go.ChangeShapes Go.WideShapes Go.ChangeAt Go.RowKit
set_option linter.unusedVariables false
set_option linter.unusedSimpArgs false

theorem own : ownKnob Tryd.prog.godebug = none := by kernel_rfl
theorem laidOut : laidOutB Tryd.prog = true := by kernel_rfl

set_option maxRecDepth 100000 in
theorem linkMet_lifted (os : Os) (started : os.Started) (H : Type) (enc : TypeId × Value → H) :
    ReturnsInHanded {} Tryd.checked os 7 .any (fun w args => (Rows.linkMetSpec.pre enc Tryd.prog Tryd.f7 [] false w args ∧ laidMetH Tryd.prog laidS w) ∧ sizedMet enc Tryd.prog Tryd.f7 (OpenSpec.ofChange Rows.linkMetSpec) false w args) (Rows.linkMetSpec.post enc Tryd.prog Tryd.f7 false true false false) := by
  refine returnsInHanded_of_change_and (C := Tryd.checked) (X := fun w _ => laidMetH Tryd.prog laidS w) (fun _ _ _ hh h => h.of_heap hh) own started (by kernel_rfl) Tryd.func7
    (ChangeSpec.witness_shaped (enc := enc) (C := Tryd.checked) (os := os) (X := fun w _ => laidMetH Tryd.prog laidS w) false (World.doorLaid Tryd.prog 400 os) #[.slice none 0 0, .slice none 0 0, .int .i64 0] 8 rfl (World.shaped_of_RefB (by kernel_rfl) (by kernel_rfl)) (by kernel_rfl) (by kernel_rfl) (by kernel_rfl) (door_met os _)) ?_
  intro W base args ds gs before hval0 hW _ _ hL _
  have hval : ∀ (j : Nat) t v, Tryd.f7.params[j]? = some t → args[j]? = some v → Value.okWide Tryd.prog W .any base t v := hval0
  have hW' := hW
  obtain ⟨p, q, hA0, hV, rfl, hfz, hnd⟩ := hW
  have hA : DataW.TrodAll enc Tryd.prog W 0 (fun _ => true) true Tryd.f7.params.toList args.toList ds p := hA0
  rw [Tryd.params7] at hA hval
  obtain ⟨v0, vs0, d0, ds0, p0, q0, hargs, rfl, rfl, g0, r0⟩ := trodAll_cons hA
  obtain ⟨v1, vs1, d1, ds1, p1, q1, rfl, rfl, rfl, g1, r1⟩ := trodAll_cons r0
  obtain ⟨v2, vs2, d2, ds2, p2, q2, rfl, rfl, rfl, g2, r2⟩ := trodAll_cons r1
  obtain ⟨rfl, rfl, rfl⟩ := trodAll_nil r2
  obtain rfl : args = #[v0, v1, v2] := by cases args; simp_all
  obtain ⟨rfl, rfl⟩ := trodVars_none hV
  have k0 := g0
  have lt0 : ∀ x ∈ p0, x.block < W.heap.size := by obtain ⟨m, hm⟩ := k0; exact DataW.trod_lt m _ _ _ hm
  have k1 := g1
  have lt1 : ∀ x ∈ p1, x.block < W.heap.size := by obtain ⟨m, hm⟩ := k1; exact DataW.trod_lt m _ _ _ hm
  have k2 := g2
  have lt2 : ∀ x ∈ p2, x.block < W.heap.size := by obtain ⟨m, hm⟩ := k2; exact DataW.trod_lt m _ _ _ hm
  obtain ⟨A0, len0, cap0, rfl⟩ := okWide_slice Tryd.underlying32 (hval 0 32 v0 rfl rfl)
  obtain ⟨x0, ⟨u0, hu0, h0⟩, ok0⟩ := Rp.arg (opens_slice Tryd.underlying32 (by kernel_rfl) (by decide) (opens_slice Tryd.underlying22 (by kernel_rfl) (by decide) (opens_int Tryd.underlying3 (by kernel_rfl)))) g0
  obtain rfl : u0 = .slice A0 len0 cap0 := by simpa [Value.cells] using hu0.symm
  obtain ⟨A1, len1, cap1, rfl⟩ := okWide_slice Tryd.underlying22 (hval 1 22 v1 rfl rfl)
  obtain ⟨x1, ⟨u1, hu1, h1⟩, ok1⟩ := Rp.arg (opens_slice Tryd.underlying22 (by kernel_rfl) (by decide) (opens_int Tryd.underlying3 (by kernel_rfl))) g1
  obtain rfl : u1 = .slice A1 len1 cap1 := by simpa [Value.cells] using hu1.symm
  obtain ⟨n2, rfl, ok2⟩ : ∃ n, v2 = .int .i64 n ∧ I64 n := by obtain ⟨x, rfl, _, _, wx⟩ := open_int Tryd.underlying3 (hval 2 3 v2 rfl rfl) g2; exact ⟨x, rfl, bounds_i64 wx⟩
  have hS := of_laid hL
  clear hA0 hval0
  have walk : Calls Tryd.prog 7 #[.slice A0 len0 cap0, .slice A1 len1 cap1, .int .i64 n2] W fun e w' => e = .returned (.bool true) ∧ Below W.heap.size W w' := by
    exact LawMet_calls x0 x1 n2 _ _ W h0 (fun l hl x hx => (ok0.2 l hl).2 x hx) h1 ok1.2 ok2 hS _ fun w' hb => ⟨rfl, hb⟩
  refine walk.mono fun e W' ⟨he, bel⟩ => ?_
  subst he
  exact ⟨_, rfl, _, _, _, [], _, [], hW', trodAll_mk1 (shut_bool Tryd.underlying4 _), (trodAll_cons_mk (Below.trod laidOut (by kernel_rfl) (of_decide_eq_true (by kernel_rfl)) k0 bel lt0) (trodAll_cons_mk (Below.trod laidOut (by kernel_rfl) (of_decide_eq_true (by kernel_rfl)) k1 bel lt1) (trodAll_cons_mk (Below.trod laidOut (by kernel_rfl) (of_decide_eq_true (by kernel_rfl)) k2 bel lt2) trodAll_mk0))), rfl, bel.frame _, fun h => by cases h⟩

theorem linkMet_row : Rows.LinkMetSaid :=
  OpenClaim.holds_of_wide 7 Tryd.f7 rfl rfl rfl rfl rfl rfl rfl ⟨rfl, rfl, rfl, rfl, rfl⟩ rfl rfl rfl rfl rfl (by kernel_rfl) Tryd.func7 (by kernel_rfl)
    (of_decide_eq_true (by kernel_rfl)) (by unfold Func.isWrapper; first | (rw [if_pos (by decide +kernel)]; kernel_rfl) | (rw [if_neg (by decide +kernel)]; exact ⟨rfl, rfl⟩))
    (fun os started H enc _ => linkMet_lifted os started H enc)
/-- The card. -/
theorem linkMet_holds : Rows.LinkMetCardSaid :=
  Claim7.holds_tied_plain_at .later [] [.data] true (true, "38b563fcbe18118eb6cdf68b32839a875de6f3e11bb7b5c5eb87970a7be73bbe") false
    linkMet_row (fun _ h => by cases h) (by kernel_rfl) (fun _ h => by cases h) linkMet_row_tie rfl ⟨rfl, rfl⟩ (by kernel_rfl) rfl
    (fun f fn hf hfn => by
      obtain rfl : f = 7 := Option.some.inj ((show Tryd.prog.funcNamed "turnery/turnerylaw8.LinkMet" = some 7 by kernel_rfl).symm.trans hf) |>.symm
      obtain rfl : fn = Tryd.f7 := (Option.some.inj (Tryd.func7.symm.trans hfn)).symm
      exact ⟨by kernel_rfl, fun j t ht => by
        rw [Tryd.params7] at ht
        rcases j with _ | _ | _ | j
        · have h3 : t = 32 := by simpa using ht.symm
          subst h3
          exact (show Tryd.prog.wantsStandIn 32 = false by kernel_rfl)
        · have h3 : t = 22 := by simpa using ht.symm
          subst h3
          exact (show Tryd.prog.wantsStandIn 22 = false by kernel_rfl)
        · have h3 : t = 3 := by simpa using ht.symm
          subst h3
          exact (show Tryd.prog.wantsStandIn 3 = false by kernel_rfl)
        · simp at ht⟩)
    (by kernel_rfl)

end Go.Proofs.YtemakpjickbmnaaDoor
