/- LinkApart: linked apart or together. -/
import Derived.Test.YtemakpjickbmnaaDoorBase
import Derived.Test.YtemakpjickbmnaaDoorRows
import Derived.IntWalk
import Derived.Outline
import Derived.Deep.LoopGhost
import Derived.Deep.RegionHeld3
import Derived.Deep.RegionLaw
import Derived.Test.YtemakpjickbmnaaDoorSure
import Derived.Test.YtemakpjickbmnaaDoorKb0
import Derived.Test.YtemakpjickbmnaaDoorLawA
import Derived.Test.YtemakpjickbmnaaDoorLink11
namespace Go.Proofs.YtemakpjickbmnaaDoor
open Go.RowKit
set_option linter.unusedSimpArgs false
set_option linter.unusedVariables false

theorem perm_once {α : Type} [DecidableEq α] : ∀ (xs ys : List α), xs.Nodup → (∀ x ∈ xs, x ∈ ys) → ys.length ≤ xs.length → xs.Perm ys
  | [], ys, _, _, hl => by
    have : ys = [] := List.eq_nil_of_length_eq_zero (by simpa using hl)
    subst this; exact List.Perm.refl _
  | x :: xs, ys, hn, hs, hl => by
    rw [List.nodup_cons] at hn
    have hx : x ∈ ys := hs x (by simp)
    have hlen : (ys.erase x).length = ys.length - 1 := List.length_erase_of_mem hx
    have := perm_once xs (ys.erase x) hn.2 (fun z hz => by
      rw [List.mem_erase_of_ne (by rintro rfl; exact hn.1 hz)]
      exact hs z (by simp [hz])) (by simp at hl; omega)
    exact (this.cons x).trans (List.perm_cons_erase hx).symm
/-- The places of the objects, turned round. -/
def turnK (n t k : Nat) : List Nat := (List.range k).map fun i => (i + t) % n
theorem turnK_snoc (n t k : Nat) : turnK n t (k + 1) = turnK n t k ++ [(k + t) % n] := by
  unfold turnK
  rw [List.range_succ, List.map_append]
  rfl
theorem turnK_len (n t k : Nat) : (turnK n t k).length = k := by unfold turnK; simp
theorem turnK_once {n t : Nat} (hn : 0 < n) : (turnK n t n).Nodup := by
  unfold turnK
  rw [List.nodup_iff_pairwise_ne, List.pairwise_map]
  refine List.pairwise_lt_range.imp_of_mem fun {a b} ha hb hab => ?_
  rw [List.mem_range] at ha hb
  intro e
  have h1 : (b + t - (a + t)) % n = 0 := Nat.sub_mod_eq_zero_of_mod_eq e.symm
  rw [Nat.add_sub_add_right, Nat.mod_eq_of_lt (by omega)] at h1
  omega
theorem turnK_all {n t : Nat} (hn : 0 < n) (k : Nat) : k ∈ turnK n t n ↔ k < n := by
  constructor
  · intro h
    unfold turnK at h
    obtain ⟨i, _, e⟩ := List.mem_map.1 h
    rw [← e]
    exact Nat.mod_lt _ hn
  · intro hk
    have hsub : ∀ x ∈ turnK n t n, x ∈ List.range n := fun x hx => by
      unfold turnK at hx
      obtain ⟨i, _, e⟩ := List.mem_map.1 hx
      rw [List.mem_range, ← e]
      exact Nat.mod_lt _ hn
    have hp := perm_once (turnK n t n) (List.range n) (turnK_once (t := t) hn) hsub (by rw [turnK_len, List.length_range]; exact Nat.le_refl _)
    exact hp.mem_iff.2 (List.mem_range.2 hk)
theorem pickL_len (o : Object) (ks : List Nat) : (pickL o ks).length = ks.length := by unfold pickL; simp
theorem pickL_snoc (o : Object) (ks : List Nat) (k : Nat) : pickL o (ks ++ [k]) = pickL o ks ++ [segO o k (k + 1)] := by
  unfold pickL
  rw [List.map_append]
  rfl
theorem none_do : ((linkDo []).2).1 = 6 ∧ ∀ o : Object, o.sections = [] → linkF [o] = (0, 0) → ((linkDo [o]).2).1 = 6 := by
  refine ⟨by decide +kernel, fun o ho hl => ?_⟩
  have hm : metF [o] = (6, -1) := by
    unfold metF
    rw [hl, if_neg (by simp), allS_one, ho]
    decide +kernel
  unfold linkDo
  rw [hm, if_pos (by simp)]
theorem eqF (a b : Int × Int) (w : World) (h : a = b) : (binOp .eql 25 (.agg #[.int .i64 (a).1, .int .i64 (a).2]) (.agg #[.int .i64 (b).1, .int .i64 (b).2])).run Tryd.prog w = .ok (.bool true) w := by
  subst h
  rw [eql_Fault]
  simp
end Go.Proofs.YtemakpjickbmnaaDoor
