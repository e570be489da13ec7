/- The frame of a function fits: its spilled words and kept registers lie in MaxFrame words, and only registers that are given and kept are saved (a card: code.ways is tied to the program's text). No condition beyond the card's own. -/
import Derived.Test.YtdanebboiekieaaGreatDoorRows
import Derived.Test.YtdanebboiekieaaGreatDoorCards
import Derived.Test.YtdanebboiekieaaGreatDoorTie
import Derived.ProofKit
import Derived.LaidMore
import Derived.OpenShut
import Derived.ShutString
import Derived.ChangeOld
import Derived.Below
import Derived.Stop.Joined
import Derived.SevenTiedAt
import Derived.Test.YtdanebboiekieaaGreatDoorQ05
import Derived.Test.YtdanebboiekieaaGreatDoorQ43
namespace Go.Proofs.YtdanebboiekieaaGreatDoor
open Go.ChangeShapes Go.WideShapes Go.ChangeAt Go.RowKit
set_option linter.unusedVariables false
set_option linter.unusedSimpArgs false

theorem own : ownKnob Tryz.prog.godebug = none := by kernel_rfl
theorem laidOut : laidOutB Tryz.prog = true := by kernel_rfl

set_option maxRecDepth 100000 in
theorem frameFits_lifted (os : Os) (started : os.Started) (H : Type) (enc : TypeId × Value → H) :
 ReturnsInHanded {} Tryz.checked os 4 .any (fun w args => (Rows.frameFitsSpec.pre enc Tryz.prog Tryz.f4 [] false w args ∧ laidMetH Tryz.prog laidS w) ∧ sizedMet enc Tryz.prog Tryz.f4 (OpenSpec.ofChange Rows.frameFitsSpec) false w args) (Rows.frameFitsSpec.post enc Tryz.prog Tryz.f4 false true false false) := by
 refine returnsInHanded_of_change_and (C := Tryz.checked) (X := fun w _ => laidMetH Tryz.prog laidS w) (fun _ _ _ hh h => h.of_heap hh) own started (by kernel_rfl) Tryz.func4
  (ChangeSpec.witness_shaped (enc := enc) (C := Tryz.checked) (os := os) (X := fun w _ => laidMetH Tryz.prog laidS w) false (World.doorLaid Tryz.prog 400 os) #[.agg #[.slice none 0 0, .slice none 0 0], .int .i64 0, .int .i64 0] 8 rfl (World.shaped_of_RefB (by kernel_rfl) (by kernel_rfl)) (by kernel_rfl) (by kernel_rfl) (by kernel_rfl) (door_met os _)) ?_
 intro W base args ds gs before hval0 hW _ _ hL _
 have hval : ∀ (j : Nat) t v, Tryz.f4.params[j]? = some t → args[j]? = some v → Value.okWide Tryz.prog W .any base t v := hval0
 have hW' := hW
 obtain ⟨p, q, hA0, hV, rfl, hfz, hnd⟩ := hW
 have hA : DataW.TrodAll enc Tryz.prog W 0 (fun _ => true) true Tryz.f4.params.toList args.toList ds p := hA0
 rw [Tryz.params4] at hA hval
 obtain ⟨v0, vs0, d0, ds0, p0, q0, hargs, rfl, rfl, g0, r0⟩ := trodAll_cons hA
 obtain ⟨v1, vs1, d1, ds1, p1, q1, rfl, rfl, rfl, g1, r1⟩ := trodAll_cons r0
 obtain ⟨v2, vs2, d2, ds2, p2, q2, rfl, rfl, rfl, g2, r2⟩ := trodAll_cons r1
 obtain ⟨rfl, rfl, rfl⟩ := trodAll_nil r2
 obtain rfl : args = #[v0, v1, v2] := by cases args; simp_all
 obtain ⟨rfl, rfl⟩ := trodVars_none hV
 have k0 := g0
 have lt0 : ∀ x ∈ p0, x.block < W.heap.size := by obtain ⟨m, hm⟩ := k0; exact DataW.trod_lt m _ _ _ hm
 have k1 := g1
 have lt1 : ∀ x ∈ p1, x.block < W.heap.size := by obtain ⟨m, hm⟩ := k1; exact DataW.trod_lt m _ _ _ hm
 have k2 := g2
 have lt2 : ∀ x ∈ p2, x.block < W.heap.size := by obtain ⟨m, hm⟩ := k2; exact DataW.trod_lt m _ _ _ hm
 obtain ⟨cs0, rfl, _⟩ := okWide_struct Tryz.underlying25 (hval 0 25 v0 rfl rfl)
 obtain ⟨x0, h0, ok0⟩ := Rp.arg opensUnit g0
 obtain ⟨n1, rfl, ok1⟩ : ∃ n, v1 = .int .i64 n ∧ I64 n := by obtain ⟨x, rfl, _, _, wx⟩ := open_int Tryz.underlying3 (hval 1 3 v1 rfl rfl) g1; exact ⟨x, rfl, bounds_i64 wx⟩
 obtain ⟨n2, rfl, ok2⟩ : ∃ n, v2 = .int .i64 n ∧ I64 n := by obtain ⟨x, rfl, _, _, wx⟩ := open_int Tryz.underlying3 (hval 2 3 v2 rfl rfl) g2; exact ⟨x, rfl, bounds_i64 wx⟩
 have hS := of_laid hL
 clear hA0 hval0
 have walk : Calls Tryz.prog 4 #[.agg cs0, .int .i64 n1, .int .i64 n2] W fun e w' => e = .returned (.bool true) ∧ Below W.heap.size W w' := by
  obtain ⟨v1, v2, hcs, hg, hf⟩ := rpUnt_rep h0
  obtain rfl : cs0 = #[v1, v2] := by cases cs0; simpa [Value.cells] using hcs
  obtain ⟨gA, gc, rfl, _, _, hg⟩ := hg.cases_
  obtain ⟨fA, fc, rfl, _, _, hf⟩ := hf.cases_
  exact FrameFits_calls (rpUnt_ok ok0) n1 n2 ok2 _ _ _ _ _ _ W hS hg hf _ fun w' hb => ⟨rfl, hb⟩
 refine walk.mono fun e W' ⟨he, bel⟩ => ?_
 subst he
 exact ⟨_, rfl, _, _, _, [], _, [], hW', trodAll_mk1 (shut_bool Tryz.underlying4 _), (trodAll_cons_mk (Below.trod laidOut (by kernel_rfl) (of_decide_eq_true (by kernel_rfl)) k0 bel lt0) (trodAll_cons_mk (Below.trod laidOut (by kernel_rfl) (of_decide_eq_true (by kernel_rfl)) k1 bel lt1) (trodAll_cons_mk (Below.trod laidOut (by kernel_rfl) (of_decide_eq_true (by kernel_rfl)) k2 bel lt2) trodAll_mk0))), rfl, bel.frame _, fun h => by cases h⟩

theorem frameFits_row : Rows.FrameFitsSaid :=
 OpenClaim.holds_of_wide 4 Tryz.f4 rfl rfl rfl rfl rfl rfl rfl ⟨rfl, rfl, rfl, rfl, rfl⟩ rfl rfl rfl rfl rfl (by kernel_rfl) Tryz.func4 (by kernel_rfl)
  (of_decide_eq_true (by kernel_rfl)) (by unfold Func.isWrapper; first | (rw [if_pos (by decide +kernel)]; kernel_rfl) | (rw [if_neg (by decide +kernel)]; exact ⟨rfl, rfl⟩))
  (fun os started H enc _ => frameFits_lifted os started H enc)
/-- The card. -/
theorem frameFits_holds : Rows.FrameFitsCardSaid :=
 Claim7.holds_tied_plain_at .later [] [.data] true (true, "b2e6a5a9af20c70360f53055d4eef545cf46f92ce19845cea131af0bb60a3f91") false
  frameFits_row (fun _ h => by cases h) (by kernel_rfl) (fun _ h => by cases h) frameFits_row_tie rfl ⟨rfl, rfl⟩ (by kernel_rfl) rfl
  (fun f fn hf hfn => by
   obtain rfl : f = 4 := Option.some.inj ((show Tryz.prog.funcNamed "turnery/turnerylaw8.FrameFits" = some 4 by kernel_rfl).symm.trans hf) |>.symm
   obtain rfl : fn = Tryz.f4 := (Option.some.inj (Tryz.func4.symm.trans hfn)).symm
   exact ⟨by kernel_rfl, fun j t ht => by
    rw [Tryz.params4] at ht
    rcases j with _ | _ | _ | j
    ·have h3 : t = 25 := by simpa using ht.symm
     subst h3
     exact (show Tryz.prog.wantsStandIn 25 = false by kernel_rfl)
    ·have h3 : t = 3 := by simpa using ht.symm
     subst h3
     exact (show Tryz.prog.wantsStandIn 3 = false by kernel_rfl)
    ·have h3 : t = 3 := by simpa using ht.symm
     subst h3
     exact (show Tryz.prog.wantsStandIn 3 = false by kernel_rfl)
    ·simp at ht⟩)
  (by kernel_rfl)

end Go.Proofs.YtdanebboiekieaaGreatDoor
