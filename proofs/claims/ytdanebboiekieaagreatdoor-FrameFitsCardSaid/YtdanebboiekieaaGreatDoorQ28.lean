/- A region that draws its order, inside a fence: the done operations are closed under what they come after; operations by their facts. -/
import Derived.Test.YtdanebboiekieaaGreatDoorQ05
import Derived.Test.YtdanebboiekieaaGreatDoorQ01
import Derived.Test.YtdanebboiekieaaGreatDoorRows
import Derived.IntWalk
namespace Go.Proofs.YtdanebboiekieaaGreatDoor
open Go.RowKit
set_option linter.unusedSimpArgs false
set_option linter.unusedVariables false

def Closed (ops : Array Oper) (d : Nat → Bool) : Prop := ∀ i o, ops[i]? = some o → d i = true → ∀ e ∈ o.after, Region.binds .any e = true → d e.on = true
theorem StepIn.mono {F : Fence} {n : Nat} {P : Program} {ops : Array Oper} {Q : Exit → Act → World → Prop} {slots : List Nat} {a0 : Act} {I I' : (Nat → Bool) → (Nat → Value) → World → Prop} {d : Nat → Bool} {i : Nat} {o : Oper} {a : Act} {w : World}
 (h : ∀ val w', I (don d i) val w' → I' (don d i) val w') (H : StepIn F n P ops Q slots a0 I d i o a w) : StepIn F n P ops Q slots a0 I' d i o a w := by
 unfold StepIn at H ⊢
 by_cases hw : Region.wanted o (yielded ops a.tmps) = true
 ·rw [if_pos hw] at H ⊢
  exact Oper.wpIn_mono (fun a' w' h' => ⟨h'.1, h _ _ h'.2⟩) H
 ·rw [if_neg hw] at H ⊢
  exact ⟨H.1, H.2.1, h _ _ H.2.2⟩
theorem regIn_invC {F : Fence} {n : Nat} {P : Program} {ops : Array Oper} {Q : Exit → Act → World → Prop} {id : Nat} {a0 : Act} {w : World} (hm : P.follows .mixedOrders = true) (slots : List Nat) (I : (Nat → Bool) → (Nat → Value) → World → Prop)
 (hd : ∀ (i : Nat) (o : Oper), ops[i]? = some o → ∀ e ∈ o.after, Region.binds .any e = true → e.on < i) (hsl : ∀ k ∈ slots, k < a0.tmps.size)
 (h0 : I (fun _ => false) (vals a0) w.drew)
 (hs : ∀ (d : Nat → Bool) a w' i o, ops[i]? = some o → d i = false → (∀ e ∈ o.after, Region.binds .any e = true → d e.on = true) → Closed ops d → Ag slots a0 a → I d (vals a) w' → StepIn F n P ops Q slots a0 I d i o a w')
 (he : ∀ (d : Nat → Bool) vs w', (∀ i, i < ops.size → d i = true) → (∀ k, k ∉ slots → vs k = vals a0 k) → I d vs w' → Q .normal (over a0 (slots.map fun k => (k, vs k))) w') : (Code.region id ops true).wpIn F n P Q a0 w := by
 refine regIn_inv hm slots (fun d val w' => I d val w' ∧ Closed ops d) hd hsl ⟨h0, fun _ _ _ h => by cases h⟩ (fun d a w' i o ho hdi hall hag H => ?_) (fun d vs w' h1 h2 h3 => he d vs w' h1 h2 h3.1)
 refine StepIn.mono (fun val w'' h => ⟨h, ?_⟩) (hs d a w' i o ho hdi hall H.2 hag H.1)
 intro j oj hj hdj e hee hb
 have hne : e.on ≠ i ∨ e.on = i := by omega
 by_cases e1 : e.on = i
 ·unfold don
  rw [if_pos e1]
 ·unfold don
  rw [if_neg e1]
  by_cases e2 : j = i
  ·subst e2
   rw [ho] at hj
   cases hj
   exact hall e hee hb
  ·unfold don at hdj
   rw [if_neg e2] at hdj
   exact H.2 j oj hj hdj e hee hb
def depB (o : Oper) (j : Nat) : Bool := o.after.any fun e => Region.binds .any e && e.on == j
theorem depB_all {o : Oper} {d : Nat → Bool} (hall : ∀ e ∈ o.after, Region.binds .any e = true → d e.on = true) {j : Nat} (h : depB o j = true) : d j = true := by
 unfold depB at h
 rw [Array.any_eq_true'] at h
 obtain ⟨e, he, hb⟩ := h
 rw [Bool.and_eq_true, beq_iff_eq] at hb
 rw [← hb.2]
 exact hall e he hb.1
/-- What an operation of a region is. -/
def OpIs (ops : Array Oper) (i k : Nat) (g : Option (Nat × Bool)) (op : Op) (deps : List Nat) : Prop := ∃ o, ops[i]? = some o ∧ o.dst = some k ∧ o.guard = g ∧ o.op = op ∧ deps.all (depB o) = true
theorem OpIs.deps {ops : Array Oper} {i k : Nat} {g : Option (Nat × Bool)} {op : Op} {deps : List Nat} (h : OpIs ops i k g op deps) {d : Nat → Bool} (hc : Closed ops d) (hi : d i = true) : ∀ j ∈ deps, d j = true := by
 obtain ⟨o, ho, _, _, _, h4⟩ := h
 intro j hj
 rw [List.all_eq_true] at h4
 exact depB_all (hc i o ho hi) (h4 j hj)
theorem OpIs.all {ops : Array Oper} {i k : Nat} {g : Option (Nat × Bool)} {op : Op} {deps : List Nat} (h : OpIs ops i k g op deps) {o : Oper} (ho : ops[i]? = some o) {d : Nat → Bool} (hall : ∀ e ∈ o.after, Region.binds .any e = true → d e.on = true) : o.dst = some k ∧ o.guard = g ∧ o.op = op ∧ ∀ j ∈ deps, d j = true := by
 obtain ⟨o', ho', h1, h2, h3, h4⟩ := h
 rw [ho] at ho'
 cases ho'
 rw [List.all_eq_true] at h4
 exact ⟨h1, h2, h3, fun j hj => depB_all hall (h4 j hj)⟩
theorem false_of {b : Bool} {c : Bool} (h : b = true → c = true) (hc : c = false) : b = false := by
 cases b
 ·rfl
 ·rw [h rfl] at hc
  cases hc
/-- A guarded operation is wanted by what its guard's slot says. -/
theorem wanted_is {ops : Array Oper} {o : Oper} {a : Act} {j k : Nat} {b : Bool} {g : Option (Nat × Bool)} {op : Op} {deps : List Nat} (h : o.guard = some (j, b)) (ho : OpIs ops j k g op deps) (hk : k < a.tmps.size) {c : Bool} (hv : vals a k = .bool c) : Region.wanted o (yielded ops a.tmps) = (c == b) := by
 obtain ⟨o', ho', h1, _⟩ := ho
 exact wanted_yes h ho' h1 hk hv
end Go.Proofs.YtdanebboiekieaaGreatDoor
