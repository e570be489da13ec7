/- The object that is made of raw numbers may be: its sections, its names, its size. -/
import Derived.Test.YtfhnmbnniklmiaaDoorKitQ
import Derived.Test.YtfhnmbnniklmiaaDoorAppA
namespace Go.Proofs.YtfhnmbnniklmiaaDoor
open Go.RowKit
set_option linter.unusedSimpArgs false
set_option linter.unusedVariables false

theorem good_names : goodName nameMain = true ∧ goodName nameAway = true ∧ ∀ k : Nat, k < 10 → goodName (nameF k) = true := by
  refine ⟨by decide +kernel, by decide +kernel, by decide +kernel⟩
theorem good_nameS (main : Bool) (k : Nat) (hk : k < 10) : goodName (nameS main k) = true := by
  unfold nameS
  split
  · exact good_names.1
  · exact good_names.2.2 k hk
theorem good_mendName (len n : Nat) (main : Bool) (x : Int) (h : 0 ≤ x ∧ x < 10) : goodName (mendName len n main x) = true := by
  unfold mendName
  split
  · exact good_names.2.1
  · split
    · exact good_names.1
    · exact good_names.2.2 _ (by omega)
theorem nameS_ne : ∀ main : Bool, ∀ j : Nat, j < 10 → ∀ k : Nat, k < 10 → j ≠ k → nameS main j ≠ nameS main k := by decide +kernel
theorem nameS_glob : ∀ main : Bool, ∀ k : Nat, k < 10 → hasG kitGlobals_ (nameS main k) = false := by decide +kernel
theorem kit_glob : globFault kitGlobals_ = (0, 0) := by decide +kernel
theorem codeB_len_ (l : List Mac) : (codeB l).length ≤ 14 * l.length := by
  induction l with
  | nil => simp [codeB]
  | cons m l ih =>
    have := macB_len m
    unfold codeB at *
    rw [List.flatMap_cons, List.length_append, List.length_cons]
    omega
theorem map_getD {l : List Mac} {j : Nat} (h : j < l.length) : (l.map ownM).getD j ⟨0, 0, 0, 0, 0⟩ = ownM (l.getD j ⟨0, 0, 0, 0, 0⟩) := by
  rw [List.getD_eq_getElem?_getD, List.getD_eq_getElem?_getD, List.getElem?_map, List.getElem?_eq_getElem h]
  rfl
theorem own_read {l : List Int} (hl : ∀ x ∈ l, I64 x) : readL (codeB ((codeOf l 8 4).map ownM)) = some ((codeOf l 8 4).map ownM) := by
  have hlen : ((codeOf l 8 4).map ownM).length ≤ 9 := by rw [List.length_map, codeOf_len]; unfold codeMany; omega
  have := codeB_len_ ((codeOf l 8 4).map ownM)
  refine readL_of (fun m hm => ?_) (own_fault hl (by decide) (by decide)) (by omega)
  obtain ⟨x, hx, rfl⟩ := List.mem_map.1 hm
  exact ownM_true (codeOf_true hl (by decide) (by decide) x hx)
theorem secOf_fine {raw : List (List Int)} {n : Nat} {main : Bool} {i : Nat} (hr : ∀ l ∈ raw, ∀ x ∈ l, I64 x) : secF (secOf raw n main i) = 0 := by
  have hl : ∀ x ∈ raw.getD i [], I64 x := by
    rcases Nat.lt_or_ge i raw.length with hlt | hge
    · rw [List.getD_eq_getElem?_getD, List.getElem?_eq_getElem hlt]
      exact hr _ (List.getElem_mem hlt)
    · rw [List.getD_eq_getElem?_getD, List.getElem?_eq_none hge]
      intro x hx
      cases hx
  unfold secF secOf
  simp only []
  rw [own_read hl]
  simp only []
  generalize hc : codeOf (raw.getD i []) 8 4 = c
  have hcall : ∀ m ∈ c, m.op = 44 → 0 ≤ m.n ∧ m.n < 4 := by rw [← hc]; exact codeOf_call
  refine mendsFrom_fine _ _ (fun m hm => ?_) (mendsAt_up _ _ _) ?_ _ _ (by simp)
  · obtain ⟨j, h1, h2, h3⟩ := mendsAt_mem _ _ _ _ hm
    rw [Nat.zero_add] at h2
    have e : c.getD j ⟨0, 0, 0, 0, 0⟩ ∈ c := by
      rw [List.getD_eq_getElem?_getD, List.getElem?_eq_getElem h1]
      exact List.getElem_mem h1
    subst h2
    simp only [Int.toNat_natCast]
    rw [List.length_map, map_getD h1, ownM_op]
    refine ⟨by omega, by omega, h3, ?_, good_mendName _ _ _ _ (by have := hcall _ e h3; omega)⟩
    unfold ownM
    rw [if_pos h3]
  · rw [mendsAt_len, List.filter_map, List.length_map]
    congr 1
    apply List.filter_congr
    intro x _
    simp [ownM_op]
theorem objOf_len (raw : List (List Int)) (n : Nat) (main : Bool) : (objOf raw n main).sections.length = min raw.length n := by unfold objOf; simp
theorem objOf_at {raw : List (List Int)} {n : Nat} {main : Bool} {k : Nat} {s : Section} (h : (objOf raw n main).sections[k]? = some s) : k < min raw.length n ∧ s = secOf raw n main k := by
  have hk := (List.getElem?_eq_some_iff.1 h).1
  rw [objOf_len] at hk
  unfold objOf at h
  rw [List.getElem?_map, List.getElem?_range hk] at h
  exact ⟨hk, (Option.some.inj h).symm⟩
theorem objOf_ok {raw : List (List Int)} {n : Nat} {main : Bool} (hn : n ≤ 10) (hr : ∀ l ∈ raw, ∀ x ∈ l, I64 x) : ObjOk (objOf raw n main) := by
  refine ⟨kit_glob, by rw [objOf_len]; omega, fun k s hs => ?_⟩
  obtain ⟨hk, rfl⟩ := objOf_at hs
  refine ⟨good_nameS _ _ (by omega), nameS_glob _ _ (by omega), ?_, secOf_fine hr⟩
  unfold hasS
  rw [List.any_eq_false]
  intro x hx
  obtain ⟨j, hj, e⟩ := List.mem_iff_getElem.1 hx
  rw [List.length_take] at hj
  have hj' : (objOf raw n main).sections[j]? = some x := by
    rw [List.getElem_take] at e
    rw [List.getElem?_eq_getElem (by omega), e]
  obtain ⟨hj2, rfl⟩ := objOf_at hj'
  have h : (secOf raw n main j).name ≠ (secOf raw n main k).name := nameS_ne main j (by omega) k (by omega) (by omega)
  simpa using h
theorem objOf_wide (raw : List (List Int)) (n : Nat) (main : Bool) : Wide (objOf raw n main) := by
  intro g hg x hx
  have hg' : g = ⟨⟨#[103]⟩, 2, [5]⟩ ∨ g = ⟨⟨#[104]⟩, 1, []⟩ := by simpa [objOf, kitGlobals_] using hg
  rcases hg' with rfl | rfl
  · obtain rfl : x = 5 := by simpa using hx
    exact ⟨by decide, by decide⟩
  · cases hx
end Go.Proofs.YtfhnmbnniklmiaaDoor
