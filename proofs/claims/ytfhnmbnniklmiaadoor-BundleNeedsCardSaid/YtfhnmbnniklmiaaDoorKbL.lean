/- The objects that the link's and the bundle's laws make of raw numbers, plainly. -/
import Derived.Test.YtfhnmbnniklmiaaDoorKitS
import Derived.Test.YtfhnmbnniklmiaaDoorLinkP
namespace Go.Proofs.YtfhnmbnniklmiaaDoor
open Go.RowKit
set_option linter.unusedSimpArgs false
set_option linter.unusedVariables false

def bunL (o : Object) (n : Nat) : List Object := (List.range n).map fun k => segO o k (k + 1)
theorem bunL_len (o : Object) (n : Nat) : (bunL o n).length = n := by unfold bunL; simp
theorem bunL_get {o : Object} {n k : Nat} {x : Object} (h : (bunL o n)[k]? = some x) : k < n ∧ x = segO o k (k + 1) := by
  obtain ⟨hk, e⟩ := List.getElem?_eq_some_iff.1 h
  rw [bunL_len] at hk
  refine ⟨hk, ?_⟩
  rw [← e]
  simp [bunL]
theorem bunL_at {o : Object} {n k : Nat} (h : k < n) : (bunL o n)[k]? = some (segO o k (k + 1)) := by
  unfold bunL
  rw [List.getElem?_map, List.getElem?_range h]
  rfl
theorem bunL_snoc (o : Object) (n : Nat) : bunL o (n + 1) = bunL o n ++ [segO o n (n + 1)] := by
  unfold bunL
  rw [List.range_succ, List.map_append]
  rfl
theorem bunL_take (o : Object) : ∀ {i n : Nat}, i ≤ n → (bunL o n).take i = bunL o i := fun {i n} h => by
  unfold bunL
  rw [← List.map_take, List.take_range, Nat.min_eq_left h]
theorem seg_one {o : Object} {k : Nat} {s : Section} (h : o.sections[k]? = some s) : (segO o k (k + 1)).sections = [s] := by
  obtain ⟨hk, e⟩ := List.getElem?_eq_some_iff.1 h
  unfold segO
  simp only []
  rw [List.take_succ_eq_append_getElem hk, e, List.drop_left' (by rw [List.length_take]; omega)]
theorem bunL_all {o : Object} : ∀ (i : Nat), i ≤ o.sections.length → allS (bunL o i) = o.sections.take i
  | 0, _ => rfl
  | i + 1, h => by
    have ih := bunL_all (o := o) i (by omega)
    have hs : o.sections[i]? = some o.sections[i] := List.getElem?_eq_getElem (by omega)
    rw [bunL_snoc, List.take_succ_eq_append_getElem (by omega), ← ih]
    unfold allS
    rw [List.flatMap_append, List.flatMap_cons, List.flatMap_nil, List.append_nil, seg_one hs]
theorem bunL_wide {o : Object} (h : Wide o) (n : Nat) : ∀ x ∈ bunL o n, Wide x := fun x hx => by
  obtain ⟨k, hk, e⟩ := List.mem_iff_getElem.1 hx
  obtain ⟨_, rfl⟩ := bunL_get (show (bunL o n)[k]? = some x by rw [List.getElem?_eq_getElem hk, e])
  exact h
theorem bunL_owner {o : Object} (h : ObjOk o) {k : Nat} {s : Section} (hs : o.sections[k]? = some s) : ownerL (bunL o o.sections.length) s.name = (k : Int) := by
  obtain ⟨hk, e⟩ := List.getElem?_eq_some_iff.1 hs
  refine owner_some (bunL_at hk) (by rw [seg_one hs]; simp [hasS]) fun j y hj hy => ?_
  obtain ⟨hjn, rfl⟩ := bunL_get hy
  have hsj : o.sections[j]? = some o.sections[j] := List.getElem?_eq_getElem hjn
  rw [seg_one hsj]
  have h1 := (h.secs k s hs).noS
  cases hh : hasS [o.sections[j]] s.name with
  | false => rfl
  | true =>
    obtain ⟨x, hx, hn⟩ := hasS_true.1 hh
    have hx' : x = o.sections[j] := by simpa using hx
    subst hx'
    have : hasS (o.sections.take k) s.name = true := hasS_true.2 ⟨_, List.mem_iff_getElem.2 ⟨j, by rw [List.length_take]; omega, by rw [List.getElem_take]⟩, hn⟩
    rw [h1] at this
    cases this

def kitL (raw : List (List Int)) : List Object := bunL (objOf raw 6 true) (objOf raw 6 true).sections.length
theorem kit_secs (raw : List (List Int)) : (objOf raw 6 true).sections.length ≤ 6 := by rw [objOf_len]; omega
end Go.Proofs.YtfhnmbnniklmiaaDoor
