/- Code that is linked, plainly: calls get the places of the names that their mends tell. -/
import Derived.Test.YtemakpjickbmnaaDoorLinkP
import Derived.Test.YtemakpjickbmnaaDoorKitPl
import Derived.Test.YtemakpjickbmnaaDoorBackA
import Derived.Test.YtemakpjickbmnaaDoorPlainA
namespace Go.Proofs.YtemakpjickbmnaaDoor
open Go.RowKit
set_option linter.unusedSimpArgs false
set_option linter.unusedVariables false

theorem macF_good {m : Mac} {len : Int} (h : macF m len = 0) (hn : I64 m.n) : GoodMac m := by
  unfold macF at h
  by_cases hk : known m.op = false
  · rw [if_pos hk] at h
    cases h
  rw [if_neg hk] at h
  simp only [] at h
  split at h
  · cases h
  rename_i h3
  refine ⟨by simpa using hk, fun x hx => ?_, hn⟩
  simp only [not_or] at h3
  obtain ⟨f1, f2, f3, _⟩ := h3
  have key : ∀ (u : Bool) (r : Int), ¬ fieldF u r = 3 → x ∈ (if u = true then [r] else []) → 0 ≤ x ∧ x ≤ 15 := fun u r hf hx => by
    cases u with
    | false => simp at hx
    | true =>
      have : x = r := by simpa using hx
      subst this
      unfold fieldF at hf
      simp only [if_true] at hf
      split at hf
      · exact absurd rfl hf
      · omega
  unfold regsOf at hx
  rcases List.mem_append.1 hx with hx | hx
  · rcases List.mem_append.1 hx with hx | hx
    · exact key _ _ f1 hx
    · exact key _ _ f2 hx
  · exact key _ _ f3 hx
theorem macsFrom_all {l : List Mac} : ∀ (f i : Nat), f + i = l.length → macsFrom l f i = (0, 0) → ∀ k, i ≤ k → k < l.length → macF (l.getD k ⟨0, 0, 0, 0, 0⟩) l.length = 0
  | 0, i, hf, _, k, hk, hl => by omega
  | f + 1, i, hf, h, k, hk, hl => by
    rw [macsFrom] at h
    by_cases h0 : macF (l.getD i ⟨0, 0, 0, 0, 0⟩) l.length ≠ 0
    · rw [if_pos h0] at h
      exact absurd (congrArg Prod.fst h) h0
    rw [if_neg h0] at h
    by_cases e : k = i
    · subst e
      simpa using h0
    · exact macsFrom_all f (i + 1) (by omega) h k (by omega) hl
theorem macL_num {bs : List UInt8} {m : Mac} {r : List UInt8} (h : macL bs = some (m, r)) : I64 m.n := by
  cases bs with
  | nil => cases h
  | cons b bs =>
    rw [macL] at h
    split at h
    · cases h
    rw [Option.bind_eq_some_iff] at h
    obtain ⟨⟨rs, r1⟩, _, h⟩ := h
    simp only [] at h
    split at h
    · obtain ⟨rfl, _⟩ := Prod.mk.inj (Option.some.inj h)
      unfold placeRegs I64
      simp
    · rw [Option.map_eq_some_iff] at h
      obtain ⟨⟨n, r2⟩, h1, h2⟩ := h
      obtain ⟨rfl, _⟩ := Prod.mk.inj h2
      exact unfoldN_wide (numberL_num h1).2
theorem macsL_num : ∀ (f : Nat) (bs : List UInt8) (l : List Mac), macsL f bs = some l → ∀ m ∈ l, I64 m.n
  | f, [], l, h, m, hm => by
    have : l = [] := by
      cases f <;> simp [macsL] at h <;> exact h
    subst this
    cases hm
  | 0, b :: bs, l, h, m, hm => by simp [macsL] at h
  | f + 1, b :: bs, l, h, m, hm => by
    rw [macsL, Option.bind_eq_some_iff] at h
    obtain ⟨⟨x, r⟩, h1, h2⟩ := h
    rw [Option.map_eq_some_iff] at h2
    obtain ⟨l', h3, rfl⟩ := h2
    rcases List.mem_cons.1 hm with rfl | hm
    · exact macL_num h1
    · exact macsL_num f r l' h3 m hm
theorem readL_good {bs : List UInt8} {l : List Mac} (h : readL bs = some l) : (∀ m ∈ l, GoodMac m) ∧ l.length ≤ 5000 := by
  unfold readL at h
  split at h
  · cases h
  rw [Option.bind_eq_some_iff] at h
  obtain ⟨l', h1, h2⟩ := h
  split at h2
  · rename_i hf
    injection h2 with h2
    subst h2
    have hn := macsL_num _ _ _ h1
    unfold macsFault at hf
    split at hf
    · simp at hf
    split at hf
    · simp at hf
    refine ⟨fun m hm => ?_, by omega⟩
    obtain ⟨k, hk, e⟩ := List.mem_iff_getElem.1 hm
    have := macsFrom_all _ 0 (by omega) hf k (Nat.zero_le _) hk
    rw [List.getD_eq_getElem?_getD, List.getElem?_eq_getElem hk, e] at this
    exact macF_good this (hn m hm)
  · cases h2

/-- The place of a name in a list; -1: none (as in Link1). -/
def placeB (l : List ByteArray) (nm : ByteArray) : Int := match l.findIdx? fun x => decide (x = nm) with
  | some k => (k : Int)
  | none => -1
def toCall (l : List Mac) (k : Nat) (n : Int) : List Mac := l.set k ⟨(l.getD k ⟨0, 0, 0, 0, 0⟩).op, (l.getD k ⟨0, 0, 0, 0, 0⟩).dst, (l.getD k ⟨0, 0, 0, 0, 0⟩).a, (l.getD k ⟨0, 0, 0, 0, 0⟩).b, n⟩
/-- Code behind its mends; none: a name has no place. -/
def mendTo (order : List ByteArray) : List Mend → List Mac → Option (List Mac)
  | [], l => some l
  | m :: ms, l => if placeB order m.name < 0 then none else mendTo order ms (toCall l m.at_.toNat (placeB order m.name))
def routB (order : List ByteArray) (s : Section) : Option (List UInt8) := (mendTo order s.mends ((readL s.code).getD [])).map codeB
theorem toCall_len (l : List Mac) (k : Nat) (n : Int) : (toCall l k n).length = l.length := by unfold toCall; rw [List.length_set]
theorem toCall_good {l : List Mac} (h : ∀ m ∈ l, GoodMac m) {k : Nat} (hk : k < l.length) {n : Int} (hn : I64 n) : ∀ m ∈ toCall l k n, GoodMac m := fun m hm => by
  unfold toCall at hm
  rcases List.mem_or_eq_of_mem_set hm with hm | rfl
  · exact h m hm
  · have e : l.getD k ⟨0, 0, 0, 0, 0⟩ = l[k] := by rw [List.getD_eq_getElem?_getD, List.getElem?_eq_getElem hk]; rfl
    have hg := h _ (List.getElem_mem hk)
    rw [e]
    exact ⟨hg.known, hg.regs, hn⟩
/-- What linking comes to. -/
structure Routine where
  name : ByteArray
  code : List UInt8
structure Image where
  globals : List Global
  routines : List Routine
def secAt (S : List Section) (nm : ByteArray) : Section := (secFind S nm).getD ⟨ByteArray.empty, [], []⟩
def routsTo (S : List Section) (order : List ByteArray) : Nat → Nat → List Routine → Image → Image × (Int × Int)
  | 0, _, rs, g => if 40 < rs.length then (⟨[], []⟩, (2, 0)) else (⟨g.globals, rs⟩, (0, 0))
  | f + 1, i, rs, g => match routB order (secAt S (order.getD i ByteArray.empty)) with
    | none => (⟨[], []⟩, (6, (i : Int)))
    | some c => routsTo S order f (i + 1) (rs ++ [⟨order.getD i ByteArray.empty, c⟩]) g
def linkDo (l : List Object) : Image × (Int × Int) := if (metF l).1 ≠ 0 then (⟨[], []⟩, metF l) else routsTo (allS l) (metO l).1 (metO l).1.length 0 [] ⟨(l.getD 0 ⟨[], []⟩).globals, []⟩
end Go.Proofs.YtemakpjickbmnaaDoor
