/- The bytes of the object that is made of raw numbers are few. -/
import Derived.Test.YtfhnmbnniklmiaaDoorKitR
import Derived.Test.YtfhnmbnniklmiaaDoorBackA
namespace Go.Proofs.YtfhnmbnniklmiaaDoor
open Go.RowKit
set_option linter.unusedSimpArgs false
set_option linter.unusedVariables false

theorem textB_few (s : ByteArray) : (textB s).length ≤ s.size + 10 := by
  have := numB_len s.size
  have e : s.data.toList.length = s.size := by rw [Array.length_toList]; rfl
  unfold textB
  rw [List.length_append, e]
  omega
theorem flat_few {α : Type} {f : α → List UInt8} {b : Nat} : ∀ xs : List α, (∀ x ∈ xs, (f x).length ≤ b) → (xs.flatMap f).length ≤ b * xs.length
  | [], _ => by simp
  | x :: xs, h => by
    have h1 := h x (by simp)
    have h2 := flat_few xs (fun y hy => h y (by simp [hy]))
    rw [List.flatMap_cons, List.length_append, List.length_cons, Nat.mul_add]
    omega
theorem nameS_few (main : Bool) (k : Nat) : (nameS main k).size ≤ 4 := by
  unfold nameS
  split
  · decide
  · exact (show 2 ≤ 4 by decide)
theorem mendName_few (len n : Nat) (main : Bool) (x : Int) : (mendName len n main x).size ≤ 4 := by
  unfold mendName
  split
  · decide
  · split
    · decide
    · exact (show 2 ≤ 4 by decide)
theorem secB_few (raw : List (List Int)) (n : Nat) (main : Bool) (i : Nat) : (secB (secOf raw n main i)).length ≤ 500 := by
  unfold secB secOf
  simp only []
  generalize hc : codeOf (raw.getD i []) 8 4 = c
  have hcl : c.length ≤ 9 := by rw [← hc, codeOf_len]; unfold codeMany; omega
  have h1 := textB_few (nameS main i)
  have h2 := nameS_few main i
  have h3 := textB_few (strL (codeB (c.map ownM)))
  have h4 := codeB_len_ (c.map ownM)
  rw [strL_size] at h3
  rw [List.length_map] at h4
  have h5 := numB_len (mendsAt (mendName raw.length n main) 0 c).length
  have h6 : (mendsAt (mendName raw.length n main) 0 c).length ≤ c.length := by rw [mendsAt_len]; exact List.length_filter_le _ _
  have h7 := flat_few (f := mendB) (b := 24) (mendsAt (mendName raw.length n main) 0 c) (fun m hm => by
    obtain ⟨j, _, e, _⟩ := mendsAt_mem _ _ _ _ hm
    have a1 := numB_len m.at_.toNat
    have a2 := textB_few m.name
    have a3 : m.name.size ≤ 4 := by rw [e]; exact mendName_few _ _ _ _
    unfold mendB
    rw [List.length_append]
    omega)
  unfold mendsB
  simp only [List.length_append]
  omega
theorem objOf_few (raw : List (List Int)) (n : Nat) (main : Bool) (hn : n ≤ 10) : (savedB (objOf raw n main)).length ≤ 90000 := by
  have h1 := flat_few (f := secB) (b := 500) (objOf raw n main).sections (fun s hs => by
    obtain ⟨j, hj, e⟩ := List.mem_iff_getElem.1 hs
    obtain ⟨_, rfl⟩ := objOf_at (k := j) (by rw [List.getElem?_eq_getElem hj, e])
    exact secB_few _ _ _ _)
  rw [objOf_len] at h1
  have h2 : (globsB kitGlobals_).length ≤ 100 := by decide +kernel
  have h3 := numB_len (objOf raw n main).globals.length
  have h4 := numB_len (objOf raw n main).sections.length
  have h5 : (globsB (objOf raw n main).globals).length ≤ 100 := h2
  unfold savedB sumB bodyB secsB
  simp only [List.length_append, List.length_cons, List.length_nil]
  omega
theorem objOf_back (raw : List (List Int)) (n : Nat) (main : Bool) (hn : n ≤ 10) (hr : ∀ l ∈ raw, ∀ x ∈ l, I64 x) :
    objFault (objOf raw n main) = (0, 0) ∧ saveF (objOf raw n main) = (0, 0) ∧ saveB (objOf raw n main) = savedB (objOf raw n main) ∧ loadO (savedB (objOf raw n main)) = objOf raw n main ∧ loadF (savedB (objOf raw n main)) = (0, 0) := by
  have hok := objOf_ok (main := main) hn hr
  have ho := (objOk_iff _).2 hok
  have hl := objOf_few raw n main hn
  obtain ⟨h1, h2⟩ := loadO_saved hok (objOf_wide raw n main) hl
  refine ⟨ho, ?_, ?_, h1, h2⟩
  · unfold saveF
    rw [if_neg (by rw [ho]; simp), if_neg (by omega)]
  · unfold saveB
    rw [if_neg (by rw [ho]; simp), if_neg (by omega)]
end Go.Proofs.YtfhnmbnniklmiaaDoor
