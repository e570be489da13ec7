/- The code of a function is valid and speaks of registers that are given, of the two that help and of those of arguments and results alone, where what comes in is of bulk at most 1048576 (a card: code.ways is tied to the program's text). Beyond that bound the statement is false by size (REPORT.md). -/
import Derived.Test.YtdanebboiekieaaGreatDoorCards
import Derived.Test.YtdanebboiekieaaGreatDoorTie
import Derived.Deep.DeepHandedRow
import Derived.Lib.LaidTab
import Derived.Test.YtdanebboiekieaaGreatDoorP31
set_option linter.unusedSimpArgs false
set_option linter.unusedVariables false
set_option maxRecDepth 100000
set_option maxHeartbeats 16000000
namespace Go.Proofs.YtdanebboiekieaaGreatDoor
open Go.ChangeShapes Go.WideShapes Go.ChangeAt Go.RowKit
theorem own : ownKnob Tryz.prog.godebug = none := by kernel_rfl
theorem laidOut : laidOutB Tryz.prog = true := by kernel_rfl
noncomputable def laidWorld (os : Os) : World :=
 { World.holding Tryz.prog os ⟨#[], #[], []⟩ with heap := (World.holding Tryz.prog os ⟨#[], #[], []⟩).heap.modify 0 fun
  | .cells _ t frozen => .cells #[.int .i64 0, .int .i64 0, .int .i64 1, .int .i64 2] t frozen
  | o => o }
theorem laid_met (os : Os) : laidMet Tryz.prog Rows.pickHomesUptoRow.laid ((laidWorld os).forCall (fun _ _ => 0) ⟨#[], #[.agg #[.slice none 0 0, .slice none 0 0], .int .i64 0, .int .i64 0], []⟩).memory :=
 laidMet_of_run' 8 (by kernel_rfl) (by kernel_rfl)
theorem reads (os : Os) {H : Type} (enc : TypeId × Value -> H) : ∃ places, DataW.whole enc Tryz.prog ((laidWorld os).forCall (fun _ _ => 0) ⟨#[], #[.agg #[.slice none 0 0, .slice none 0 0], .int .i64 0, .int .i64 0], []⟩).memory Tryz.f6.params.toList Rows.pickHomesSpec.vars false #[Value.agg #[.slice none 0 0, .slice none 0 0], .int .i64 0, .int .i64 0].toList 8 = some ([.agg [.nil, .nil], .lit (.int .i64 0), .lit (.int .i64 0)], [], places) :=
 ⟨[], by kernel_rfl⟩
theorem pickHomes_lifted (os : Os) (started : os.Started) (H : Type) (enc : TypeId × Value -> H) (F : Stop.Interp) :
 ReturnsInHanded {} Tryz.checked os 6 .any ((Rows.OpenSpec.upto Rows.pickHomesSpec).preRow enc Tryz.prog Tryz.f6 Rows.pickHomesUptoRow.domain false Rows.pickHomesUptoRow.laid) (((Rows.OpenSpec.upto Rows.pickHomesSpec).at F).post enc Tryz.prog Tryz.f6 false true false false) := by
 obtain ⟨places, hx⟩ := reads os enc
 refine returnsInHanded_of_row (C := Tryz.checked) (s := Rows.OpenSpec.upto Rows.pickHomesSpec) own started (by kernel_rfl) Tryz.func6
  (witness_row_at (enc := enc) (C := Tryz.checked) false (laidWorld os) #[.agg #[.slice none 0 0, .slice none 0 0], .int .i64 0, .int .i64 0] rfl (by kernel_rfl) (by kernel_rfl) (by kernel_rfl)
   (OpenSpec.preRow_of_cond 8 hx (by kernel_rfl) (fun k hk => by cases hk; kernel_rfl) (by kernel_rfl) (laid_met os))) ?_
 intro W base args ds gs q01 hval0 hW _ hcond _ hL _ _;have hval : ∀ (j : Nat) t v, Tryz.f6.params[j]? = some t -> args[j]? = some v -> Value.okWide Tryz.prog W .any base t v := hval0;have hW' := hW;obtain ⟨p, q, hA0, hV, rfl, hfz, hnd⟩ := hW;have hA : DataW.TrodAll enc Tryz.prog W 0 (fun _ => true) true Tryz.f6.params.toList args.toList ds p := hA0;rw [Tryz.params6] at hA hval;obtain ⟨v0, vs0, d0, ds0, p0, q0, hargs, rfl, rfl, g0, r0⟩ := trodAll_cons hA;obtain ⟨v1, vs1, d1, ds1, p1, q1, rfl, rfl, rfl, g1, r1⟩ := trodAll_cons r0;obtain ⟨v2, vs2, d2, ds2, p2, q2, rfl, rfl, rfl, g2, r2⟩ := trodAll_cons r1;obtain ⟨rfl, rfl, rfl⟩ := trodAll_nil r2;obtain rfl : args = #[v0, v1, v2] := by cases args; simp_all
 obtain ⟨rfl, rfl⟩ := trodVars_none hV;have hk0 : Rows.uptoSmall H (d0 :: ([d1, d2] ++ [])) = true := hcond _ rfl;have k0 := g0;have lt0 : ∀ x ∈ p0, x.block < W.heap.size := by obtain ⟨m, hm⟩ := k0; exact DataW.trod_lt m _ _ _ hm
 have k1 := g1;have lt1 : ∀ x ∈ p1, x.block < W.heap.size := by obtain ⟨m, hm⟩ := k1; exact DataW.trod_lt m _ _ _ hm
 have k2 := g2;have lt2 : ∀ x ∈ p2, x.block < W.heap.size := by obtain ⟨m, hm⟩ := k2; exact DataW.trod_lt m _ _ _ hm
 obtain ⟨cs0, rfl, _⟩ := okWide_struct Tryz.underlying25 (hval 0 25 v0 rfl rfl);obtain ⟨x0, h0, ok0⟩ := argN (qh1 1048576) g0 (qeg hk0);obtain ⟨n1, rfl, ok1⟩ : ∃ n, v1 = .int .i64 n ∧ I64 n := by obtain ⟨x, rfl, _, _, wx⟩ := open_int Tryz.underlying3 (hval 1 3 v1 rfl rfl) g1; exact ⟨x, rfl, bounds_i64 wx⟩
 obtain ⟨n2, rfl, ok2⟩ : ∃ n, v2 = .int .i64 n ∧ I64 n := by obtain ⟨x, rfl, _, _, wx⟩ := open_int Tryz.underlying3 (hval 2 3 v2 rfl rfl) g2; exact ⟨x, rfl, bounds_i64 wx⟩
 have hS := qng hL;clear hA0 hval0
 have walk : Calls Tryz.prog 6 #[.agg cs0, .int .i64 n1, .int .i64 n2] W fun e w' => e = .returned (.bool true) ∧ Below W.heap.size W w' := by
  obtain ⟨okU, okN⟩ := qjy ok0;have hT : qbg x0 := fun h => qj2 okN h;obtain ⟨v1, v2, hcs, hg, hf⟩ := qjz h0;obtain rfl : cs0 = #[v1, v2] := by cases cs0; simpa [Value.cells] using hcs
  obtain ⟨gA, gc, rfl, _, _, hg⟩ := hg.cases_;obtain ⟨fA, fc, rfl, _, _, hf⟩ := hf.cases_;exact q81 (qm8 okU) hT n1 n2 ok2 _ _ _ _ _ _ W hS hg hf _ fun w' hb => ⟨rfl, hb⟩
 refine walk.mono fun e W' ⟨he, bel⟩ => ?_;subst he;exact ⟨_, rfl, _, _, _, [], _, [], hW', trodAll_mk1 (shut_bool Tryz.underlying4 _), (trodAll_cons_mk (Below.trod laidOut (by kernel_rfl) (of_decide_eq_true (by kernel_rfl)) k0 bel lt0) (trodAll_cons_mk (Below.trod laidOut (by kernel_rfl) (of_decide_eq_true (by kernel_rfl)) k1 bel lt1) (trodAll_cons_mk (Below.trod laidOut (by kernel_rfl) (of_decide_eq_true (by kernel_rfl)) k2 bel lt2) trodAll_mk0))), rfl, bel.frame _, fun h => by cases h⟩
theorem pickHomes_row : Rows.PickHomesUptoSaid :=
 OpenClaim.holds_of_cond 6 Tryz.f6 rfl rfl rfl rfl rfl rfl rfl ⟨rfl, rfl, rfl, rfl, rfl⟩ rfl rfl rfl rfl rfl (by kernel_rfl) Tryz.func6 (by kernel_rfl)
  (of_decide_eq_true (by kernel_rfl)) (by unfold Func.isWrapper; first | (rw [if_pos (by decide +kernel)]; kernel_rfl) | (rw [if_neg (by decide +kernel)]; exact ⟨rfl, rfl⟩))
  (fun os started H enc _ F => by rw [OpenClaim.pre_eq_preRow]; exact pickHomes_lifted os started H enc F)
theorem pickHomes_holds : Rows.PickHomesUptoCardSaid :=
 Claim7.holds_tied_plain_at .later [] _ _ _ _
  pickHomes_row (fun _ h => by cases h) (by kernel_rfl) (fun _ h => by cases h) pickHomesUpto_row_tie rfl ⟨rfl, rfl⟩ (by kernel_rfl) rfl
  (fun f fn hf hfn => by
   obtain rfl : f = 6 := Option.some.inj ((show Tryz.prog.funcNamed "turnery/turnerylaw8.PickHomes" = some 6 by kernel_rfl).symm.trans hf) |>.symm;obtain rfl : fn = Tryz.f6 := (Option.some.inj (Tryz.func6.symm.trans hfn)).symm
   exact ⟨by kernel_rfl, fun j t ht => by
    rw [Tryz.params6] at ht
    rcases j with _ | _ | _ | j
    ·have h3 : t = 25 := by simpa using ht.symm
     subst h3;exact (show Tryz.prog.wantsStandIn 25 = false by kernel_rfl)
    ·have h3 : t = 3 := by simpa using ht.symm
     subst h3;exact (show Tryz.prog.wantsStandIn 3 = false by kernel_rfl)
    ·have h3 : t = 3 := by simpa using ht.symm
     subst h3;exact (show Tryz.prog.wantsStandIn 3 = false by kernel_rfl)
    ·simp at ht⟩)
  (by kernel_rfl)
end Go.Proofs.YtdanebboiekieaaGreatDoor
