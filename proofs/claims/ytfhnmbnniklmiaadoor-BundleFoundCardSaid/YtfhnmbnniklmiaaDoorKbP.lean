/- The objects that the bundle's laws make of raw numbers, plainly. -/
import Derived.Test.YtfhnmbnniklmiaaDoorBunC
import Derived.Test.YtfhnmbnniklmiaaDoorKitS
import Derived.Test.YtfhnmbnniklmiaaDoorSegP
import Derived.Test.YtfhnmbnniklmiaaDoorBunB
namespace Go.Proofs.YtfhnmbnniklmiaaDoor
open Go.RowKit
set_option linter.unusedSimpArgs false
set_option linter.unusedVariables false

def bunL (o : Object) (n : Nat) : List Object := (List.range n).map fun k => segO o k (k + 1)
theorem bunL_len (o : Object) (n : Nat) : (bunL o n).length = n := by unfold bunL; simp
theorem bunL_get {o : Object} {n k : Nat} {x : Object} (h : (bunL o n)[k]? = some x) : k < n ∧ x = segO o k (k + 1) := by
  obtain ⟨hk, e⟩ := List.getElem?_eq_some_iff.1 h
  rw [bunL_len] at hk
  refine ⟨hk, ?_⟩
  rw [← e]
  simp [bunL]
theorem bunL_at {o : Object} {n k : Nat} (h : k < n) : (bunL o n)[k]? = some (segO o k (k + 1)) := by
  unfold bunL
  rw [List.getElem?_map, List.getElem?_range h]
  rfl
theorem bunL_snoc (o : Object) (n : Nat) : bunL o (n + 1) = bunL o n ++ [segO o n (n + 1)] := by
  unfold bunL
  rw [List.range_succ, List.map_append]
  rfl
theorem bunL_take (o : Object) : ∀ {i n : Nat}, i ≤ n → (bunL o n).take i = bunL o i := fun {i n} h => by
  unfold bunL
  rw [← List.map_take, List.take_range, Nat.min_eq_left h]
theorem seg_one {o : Object} {k : Nat} {s : Section} (h : o.sections[k]? = some s) : (segO o k (k + 1)).sections = [s] := by
  obtain ⟨hk, e⟩ := List.getElem?_eq_some_iff.1 h
  unfold segO
  simp only []
  rw [List.take_succ_eq_append_getElem hk, e, List.drop_left' (by rw [List.length_take]; omega)]
theorem bunL_all {o : Object} : ∀ (i : Nat), i ≤ o.sections.length → allS (bunL o i) = o.sections.take i
  | 0, _ => rfl
  | i + 1, h => by
    have ih := bunL_all (o := o) i (by omega)
    have hs : o.sections[i]? = some o.sections[i] := List.getElem?_eq_getElem (by omega)
    rw [bunL_snoc, List.take_succ_eq_append_getElem (by omega), ← ih]
    unfold allS
    rw [List.flatMap_append, List.flatMap_cons, List.flatMap_nil, List.append_nil, seg_one hs]
theorem bunL_ok {o : Object} (h : ObjOk o) (hn : o.sections.length ≤ 12) : BunOk (bunL o o.sections.length) where
  few := by rw [bunL_len]; exact hn
  each := fun k x hx => by
    obtain ⟨hk, rfl⟩ := bunL_get hx
    have hs : o.sections[k]? = some o.sections[k] := List.getElem?_eq_getElem hk
    refine ⟨seg_ok h _ _, fun s hs' => ?_⟩
    rw [seg_one hs] at hs'
    have e : s = o.sections[k] := by simpa using hs'
    subst e
    rw [bunL_take o (Nat.le_of_lt hk), bunL_all k (Nat.le_of_lt hk)]
    exact (h.secs k _ hs).noS
theorem bunL_wide {o : Object} (h : Wide o) (n : Nat) : ∀ x ∈ bunL o n, Wide x := fun x hx => by
  obtain ⟨k, hk, e⟩ := List.mem_iff_getElem.1 hx
  obtain ⟨_, rfl⟩ := bunL_get (show (bunL o n)[k]? = some x by rw [List.getElem?_eq_getElem hk, e])
  exact h
theorem bunL_owner {o : Object} (h : ObjOk o) {k : Nat} {s : Section} (hs : o.sections[k]? = some s) : ownerL (bunL o o.sections.length) s.name = (k : Int) := by
  obtain ⟨hk, e⟩ := List.getElem?_eq_some_iff.1 hs
  refine owner_some (bunL_at hk) (by rw [seg_one hs]; simp [hasS]) fun j y hj hy => ?_
  obtain ⟨hjn, rfl⟩ := bunL_get hy
  have hsj : o.sections[j]? = some o.sections[j] := List.getElem?_eq_getElem hjn
  rw [seg_one hsj]
  have h1 := (h.secs k s hs).noS
  cases hh : hasS [o.sections[j]] s.name with
  | false => rfl
  | true =>
    obtain ⟨x, hx, hn⟩ := hasS_true.1 hh
    have hx' : x = o.sections[j] := by simpa using hx
    subst hx'
    have : hasS (o.sections.take k) s.name = true := hasS_true.2 ⟨_, List.mem_iff_getElem.2 ⟨j, by rw [List.length_take]; omega, by rw [List.getElem_take]⟩, hn⟩
    rw [h1] at this
    cases this

def nobodyB : ByteArray := ⟨#[110, 111, 98, 111, 100, 121]⟩
def kitL (raw : List (List Int)) : List Object := bunL (objOf raw 6 true) (objOf raw 6 true).sections.length
theorem kit_secs (raw : List (List Int)) : (objOf raw 6 true).sections.length ≤ 6 := by rw [objOf_len]; omega
theorem kit_none (raw : List (List Int)) : ownerL (kitL raw) nobodyB < 0 := by
  rw [owner_none]
  · decide
  intro j y hy
  obtain ⟨hj, rfl⟩ := bunL_get hy
  have hs : (objOf raw 6 true).sections[j]? = some (objOf raw 6 true).sections[j] := List.getElem?_eq_getElem hj
  obtain ⟨_, e⟩ := objOf_at hs
  rw [seg_one hs, e]
  cases hh : hasS [secOf raw 6 true j] nobodyB with
  | false => rfl
  | true =>
    obtain ⟨x, hx, hn⟩ := hasS_true.1 hh
    have hx' : x = secOf raw 6 true j := by simpa using hx
    subst hx'
    have h1 := nameS_few true j
    have h2 : (secOf raw 6 true j).name = nameS true j := rfl
    rw [← h2, hn] at h1
    exact absurd h1 (by decide)
theorem seg_few (raw : List (List Int)) (k : Nat) : (savedB (segO (objOf raw 6 true) k (k + 1))).length ≤ 700 := by
  have h0 : (segO (objOf raw 6 true) k (k + 1)).sections.length ≤ 1 := by rw [seg_len]; omega
  have h1 := flat_few (f := secB) (b := 500) (segO (objOf raw 6 true) k (k + 1)).sections (fun s hs => by
    obtain ⟨j, hj, e⟩ := List.mem_iff_getElem.1 hs
    have hg := seg_get (show (segO (objOf raw 6 true) k (k + 1)).sections[j]? = some s by rw [List.getElem?_eq_getElem hj, e])
    obtain ⟨_, rfl⟩ := objOf_at hg.1
    exact secB_few _ _ _ _)
  have h2 : (globsB kitGlobals_).length ≤ 100 := by decide +kernel
  have h3 := numB_len (segO (objOf raw 6 true) k (k + 1)).globals.length
  have h4 := numB_len (segO (objOf raw 6 true) k (k + 1)).sections.length
  have h5 : (globsB (segO (objOf raw 6 true) k (k + 1)).globals).length ≤ 100 := h2
  unfold savedB sumB bodyB secsB
  simp only [List.length_append, List.length_cons, List.length_nil]
  omega
theorem kit_few {raw : List (List Int)} (hr : ∀ l ∈ raw, ∀ x ∈ l, I64 x) : (packB (kitL raw)).length ≤ 90000 := by
  have hok : BunOk (kitL raw) := bunL_ok (objOf_ok (raw := raw) (n := 6) (main := true) (by decide) hr) (by have := kit_secs raw; omega)
  rw [packB_len]
  unfold bunB
  simp only [List.length_append, List.length_cons, List.length_nil]
  have h1 := flat_le entB 32 (idxL (kitL raw)) (fun e he => by
    have h2 := textB_len e.1
    have h3 := numB_len e.2
    have h4 := (idx_size hok he).1
    unfold entB
    rw [List.length_append]
    omega)
  have h2 := flat_le objB 710 (kitL raw) (fun o ho => by
    obtain ⟨k, hk, e⟩ := List.mem_iff_getElem.1 ho
    obtain ⟨_, rfl⟩ := bunL_get (show (kitL raw)[k]? = some o by rw [List.getElem?_eq_getElem hk, e])
    have h3 := seg_few raw k
    have h4 := textB_len (strL (savedB (segO (objOf raw 6 true) k (k + 1))))
    rw [strL_size] at h4
    unfold objB
    omega)
  have h3 := numB_len (kitL raw).length
  have h4 := numB_len (idxL (kitL raw)).length
  have h5 := Nat.mul_le_mul_right 32 (idxL_len hok)
  have h6 : (kitL raw).length ≤ 6 := by unfold kitL; rw [bunL_len]; exact kit_secs raw
  have h7 := Nat.mul_le_mul_right 710 h6
  omega
theorem kit_pack {raw : List (List Int)} (hr : ∀ l ∈ raw, ∀ x ∈ l, I64 x) : packF (kitL raw) = (0, 0) ∧ packO (kitL raw) = packB (kitL raw) ∧ openL (packB (kitL raw)) = some (kitL raw) := by
  have hok := bunL_ok (objOf_ok (raw := raw) (n := 6) (main := true) (by decide) hr) (by have := kit_secs raw; omega)
  have hw := bunL_wide (objOf_wide raw 6 true) (objOf raw 6 true).sections.length
  have hl := kit_few hr
  obtain ⟨h1, h2⟩ := pack_fine (l := kitL raw) (bunF_good hok) (by omega)
  exact ⟨h2, h1, openL_pack h2 hw⟩
end Go.Proofs.YtfhnmbnniklmiaaDoor
