/- The objects that the bundle's laws make of raw numbers, plainly. bundleSure. -/
import Derived.Test.YtcakodemngchpaaGreatDoorKitPm
import Derived.Test.YtcakodemngchpaaGreatDoorBunC
import Derived.Test.YtcakodemngchpaaGreatDoorBunB
import Derived.Test.YtcakodemngchpaaGreatDoorBase
import Derived.Test.YtcakodemngchpaaGreatDoorRows
import Derived.IntWalk
import Derived.Outline
import Derived.Deep.LoopGhost
import Derived.Deep.CutBlock
import Derived.Deep.DeepCutAuto
import Derived.Deep.RegionHeld3
import Derived.Test.YtcakodemngchpaaGreatDoorKb0
/- The objects that the bundle's laws make of raw numbers, plainly. -/
namespace Go.Proofs.YtcakodemngchpaaGreatDoor
open Go.RowKit
set_option linter.unusedSimpArgs false
set_option linter.unusedVariables false

theorem bunL_ok {o : Object} (h : ObjOk o) (hn : o.sections.length ≤ 12) : BunOk (bunL o o.sections.length) where
  few := by rw [bunL_len]; exact hn
  each := fun k x hx => by
    obtain ⟨hk, rfl⟩ := bunL_get hx
    have hs : o.sections[k]? = some o.sections[k] := List.getElem?_eq_getElem hk
    refine ⟨seg_ok h _ _, fun s hs' => ?_⟩
    rw [seg_one hs] at hs'
    have e : s = o.sections[k] := by simpa using hs'
    subst e
    rw [bunL_take o (Nat.le_of_lt hk), bunL_all k (Nat.le_of_lt hk)]
    exact (h.secs k _ hs).noS
theorem seg_few (raw : List (List Int)) (k : Nat) : (savedB (segO (objOf raw 6 true) k (k + 1))).length ≤ 700 := by
  have h0 : (segO (objOf raw 6 true) k (k + 1)).sections.length ≤ 1 := by rw [seg_len]; omega
  have h1 := flat_few (f := secB) (b := 500) (segO (objOf raw 6 true) k (k + 1)).sections (fun s hs => by
    obtain ⟨j, hj, e⟩ := List.mem_iff_getElem.1 hs
    have hg := seg_get (show (segO (objOf raw 6 true) k (k + 1)).sections[j]? = some s by rw [List.getElem?_eq_getElem hj, e])
    obtain ⟨_, rfl⟩ := objOf_at hg.1
    exact secB_few _ _ _ _)
  have h2 : (globsB kitGlobals_).length ≤ 100 := by decide +kernel
  have h3 := numB_len (segO (objOf raw 6 true) k (k + 1)).globals.length
  have h4 := numB_len (segO (objOf raw 6 true) k (k + 1)).sections.length
  have h5 : (globsB (segO (objOf raw 6 true) k (k + 1)).globals).length ≤ 100 := h2
  unfold savedB sumB bodyB secsB
  simp only [List.length_append, List.length_cons, List.length_nil]
  omega
theorem kit_few {raw : List (List Int)} (hr : ∀ l ∈ raw, ∀ x ∈ l, I64 x) : (packB (kitL raw)).length ≤ 90000 := by
  have hok : BunOk (kitL raw) := bunL_ok (objOf_ok (raw := raw) (n := 6) (main := true) (by decide) hr) (by have := kit_secs raw; omega)
  rw [packB_len]
  unfold bunB
  simp only [List.length_append, List.length_cons, List.length_nil]
  have h1 := flat_le entB 32 (idxL (kitL raw)) (fun e he => by
    have h2 := textB_len e.1
    have h3 := numB_len e.2
    have h4 := (idx_size hok he).1
    unfold entB
    rw [List.length_append]
    omega)
  have h2 := flat_le objB 710 (kitL raw) (fun o ho => by
    obtain ⟨k, hk, e⟩ := List.mem_iff_getElem.1 ho
    obtain ⟨_, rfl⟩ := bunL_get (show (kitL raw)[k]? = some o by rw [List.getElem?_eq_getElem hk, e])
    have h3 := seg_few raw k
    have h4 := textB_len (strL (savedB (segO (objOf raw 6 true) k (k + 1))))
    rw [strL_size] at h4
    unfold objB
    omega)
  have h3 := numB_len (kitL raw).length
  have h4 := numB_len (idxL (kitL raw)).length
  have h5 := Nat.mul_le_mul_right 32 (idxL_len hok)
  have h6 : (kitL raw).length ≤ 6 := by unfold kitL; rw [bunL_len]; exact kit_secs raw
  have h7 := Nat.mul_le_mul_right 710 h6
  omega
theorem kit_pack {raw : List (List Int)} (hr : ∀ l ∈ raw, ∀ x ∈ l, I64 x) : packF (kitL raw) = (0, 0) ∧ packO (kitL raw) = packB (kitL raw) ∧ openL (packB (kitL raw)) = some (kitL raw) := by
  have hok := bunL_ok (objOf_ok (raw := raw) (n := 6) (main := true) (by decide) hr) (by have := kit_secs raw; omega)
  have hw := bunL_wide (objOf_wide raw 6 true) (objOf raw 6 true).sections.length
  have hl := kit_few hr
  obtain ⟨h1, h2⟩ := pack_fine (l := kitL raw) (bunF_good hok) (by omega)
  exact ⟨h2, h1, openL_pack h2 hw⟩
end Go.Proofs.YtcakodemngchpaaGreatDoor

/- bundleSure. -/
namespace Go.Proofs.YtcakodemngchpaaGreatDoor
open Go.RowKit
set_option linter.unusedSimpArgs false
set_option linter.unusedVariables false

set_option maxHeartbeats 1000000 in
theorem sure_pack : packF [] = (0, 0) ∧ (packO []).length = 7 := by
  constructor
  · decide +kernel
  · decide +kernel
set_option maxHeartbeats 1000000 in
theorem bundleSure_calls (w : World) (hS : Shapes w) (R : Ending → World → Prop)
    (hR : ∀ w', Below w.heap.size w w' → R (.returned (.bool true)) w') : Calls Tryz.prog 6 #[] w R := by
  have HR := Lib.hid hR
  have HSh := Lib.hid hS
  clear hR hS
  go_enter Tryz.func6, Tryz.ntmps6
  go_wp2_with fail
  refine Pack_calls [] _ _ (Rp.SL.nil _ _ _) (fun o h => by cases h) HSh.out _ (fun w1 v1 hb1 hbuf => ?_)
  rw [sure_pack.1]
  obtain ⟨A1, c1, rfl⟩ := hbuf.slice
  rw [sure_pack.2]
  have Hb1 := Lib.hid hb1
  clear hb1 hbuf
  go_wp2
  exact HR.out _ (Hb1.out.alloc Hb1.out.size _)
end Go.Proofs.YtcakodemngchpaaGreatDoor
