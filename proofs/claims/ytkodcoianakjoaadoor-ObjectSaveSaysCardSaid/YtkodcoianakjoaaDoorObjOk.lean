/- Objects that may be, plainly. -/
import Derived.Test.YtkodcoianakjoaaDoorObjPlain
import Derived.Test.YtkodcoianakjoaaDoorRead8
import Derived.Test.YtkodcoianakjoaaDoorNames2
namespace Go.Proofs.YtkodcoianakjoaaDoor
open Go.RowKit
set_option linter.unusedSimpArgs false
set_option linter.unusedVariables false

structure SecOk (o : Object) (k : Nat) (s : Section) : Prop where
  good : goodName s.name = true
  noG : hasG o.globals s.name = false
  noS : hasS (o.sections.take k) s.name = false
  fine : secF s = 0
structure ObjOk (o : Object) : Prop where
  glob : globFault o.globals = (0, 0)
  few : o.sections.length ≤ 40
  secs : ∀ (k : Nat) s, o.sections[k]? = some s → SecOk o k s

theorem secsFrom_fst (o : Object) : ∀ (f i : Nat), (secsFrom o f i).1 = 0 → secsFrom o f i = (0, 0)
  | 0, i, _ => rfl
  | f + 1, i, h => by
    rw [secsFrom] at h ⊢
    cases hs : o.sections[i]? with
    | none => rfl
    | some s =>
      simp only [hs] at h ⊢
      by_cases c1 : goodName s.name = false
      · rw [if_pos c1] at h; simp at h
      rw [if_neg c1] at h ⊢
      by_cases c2 : (o.globals.any (fun g => decide (g.name = s.name)) || (o.sections.take i).any (fun t => decide (t.name = s.name))) = true
      · rw [if_pos c2] at h; simp at h
      rw [if_neg c2] at h ⊢
      by_cases c3 : secF s ≠ 0
      · rw [if_pos c3] at h; exact absurd h c3
      rw [if_neg c3] at h ⊢
      exact secsFrom_fst o f _ h
theorem secsFrom_ok (o : Object) : ∀ (f i : Nat), f + i = o.sections.length → (secsFrom o f i = (0, 0) ↔ ∀ (k : Nat) s, i ≤ k → o.sections[k]? = some s → SecOk o k s)
  | 0, i, hi => ⟨fun _ k s hk hs => by have := (List.getElem?_eq_some_iff.1 hs).1; omega, fun _ => rfl⟩
  | f + 1, i, hi => by
    have hlt : i < o.sections.length := by omega
    have hs : o.sections[i]? = some o.sections[i] := List.getElem?_eq_getElem hlt
    have ih := secsFrom_ok o f (i + 1) (by omega)
    rw [secsFrom, hs]
    simp only []
    by_cases c1 : goodName o.sections[i].name = false
    · rw [if_pos c1]
      constructor
      · intro h; simp at h
      · intro h
        have := (h i _ (Nat.le_refl _) hs).good
        rw [c1] at this
        cases this
    rw [if_neg c1]
    by_cases c2 : (o.globals.any (fun g => decide (g.name = o.sections[i].name)) || (o.sections.take i).any (fun t => decide (t.name = o.sections[i].name))) = true
    · rw [if_pos c2]
      constructor
      · intro h; simp at h
      · intro h
        have h1 := (h i _ (Nat.le_refl _) hs).noG
        have h2 := (h i _ (Nat.le_refl _) hs).noS
        unfold hasG at h1
        unfold hasS at h2
        rw [h1, h2] at c2
        cases c2
    rw [if_neg c2]
    by_cases c3 : secF o.sections[i] ≠ 0
    · rw [if_pos c3]
      constructor
      · intro h
        have := congrArg Prod.fst h
        exact absurd this c3
      · intro h
        exact absurd (h i _ (Nat.le_refl _) hs).fine c3
    rw [if_neg c3, ih]
    constructor
    · intro h k s hk he
      by_cases e : k = i
      · subst e
        rw [hs] at he
        injection he with he
        subst he
        simp only [Bool.or_eq_true, not_or, Bool.not_eq_true] at c2
        exact ⟨by simpa using c1, c2.1, c2.2, by simpa using c3⟩
      · exact h k s (by omega) he
    · exact fun h k s hk => h k s (by omega)
theorem objFault_fst (o : Object) (h : (objFault o).1 = 0) : objFault o = (0, 0) := by
  unfold objFault at h ⊢
  by_cases h1 : (globFault o.globals).1 ≠ 0
  · rw [if_pos h1] at h; exact absurd h h1
  rw [if_neg h1] at h ⊢
  by_cases h2 : 40 < o.sections.length
  · rw [if_pos h2] at h; simp at h
  rw [if_neg h2] at h ⊢
  exact secsFrom_fst o _ _ h
theorem globFrom_fst (l : List Global) : ∀ (f i : Nat) (sum : Int), (globFrom l f i sum).1 = 0 → globFrom l f i sum = (0, 0)
  | 0, i, sum, h => rfl
  | f + 1, i, sum, h => by
    rw [globFrom] at h ⊢
    cases hg : l[i]? with
    | none => rfl
    | some g =>
      simp only [hg] at h ⊢
      by_cases c1 : goodName g.name = false
      · rw [if_pos c1] at h; simp at h
      rw [if_neg c1] at h ⊢
      by_cases c2 : (l.take i).any (fun o => decide (o.name = g.name)) = true
      · rw [if_pos c2] at h; simp at h
      rw [if_neg c2] at h ⊢
      by_cases c3 : g.size < 1 ∨ 200 < g.size
      · rw [if_pos c3] at h; simp at h
      rw [if_neg c3] at h ⊢
      by_cases c4 : g.size < (g.init.length : Int)
      · rw [if_pos c4] at h; simp at h
      rw [if_neg c4] at h ⊢
      by_cases c5 : 200 < sum + g.size
      · rw [if_pos c5] at h; simp at h
      rw [if_neg c5] at h ⊢
      exact globFrom_fst l f _ _ h
theorem globFault_fst (l : List Global) (h : (globFault l).1 = 0) : globFault l = (0, 0) := by
  unfold globFault at h ⊢
  by_cases hn : 10 < l.length
  · rw [if_pos hn] at h; simp at h
  · rw [if_neg hn] at h ⊢
    exact globFrom_fst l _ _ _ h
theorem objOk_iff (o : Object) : objFault o = (0, 0) ↔ ObjOk o := by
  have hs := secsFrom_ok o o.sections.length 0 (by omega)
  unfold objFault
  by_cases h1 : (globFault o.globals).1 ≠ 0
  · rw [if_pos h1]
    exact ⟨fun h => absurd (congrArg Prod.fst h) h1, fun h => absurd (congrArg Prod.fst h.glob) h1⟩
  rw [if_neg h1]
  have hg := globFault_fst o.globals (by simpa using h1)
  by_cases h2 : 40 < o.sections.length
  · rw [if_pos h2]
    exact ⟨fun h => by simp at h, fun h => absurd h.few (by omega)⟩
  rw [if_neg h2, hs]
  exact ⟨fun h => ⟨hg, by omega, fun k s he => h k s (Nat.zero_le _) he⟩, fun h k s _ he => h.secs k s he⟩

structure GlobOk (g : Global) : Prop where
  good : goodName g.name = true
  low : 1 ≤ g.size
  high : g.size ≤ 200
  fits : (g.init.length : Int) ≤ g.size
theorem globFrom_ok (l : List Global) : ∀ (f i : Nat) (sum : Int), f + i = l.length → globFrom l f i sum = (0, 0) → ∀ (k : Nat) g, i ≤ k → l[k]? = some g → GlobOk g
  | 0, i, sum, hi, _, k, g, hk, he => by have := (List.getElem?_eq_some_iff.1 he).1; omega
  | f + 1, i, sum, hi, h, k, g, hk, he => by
    have hlt : i < l.length := by omega
    have hs : l[i]? = some l[i] := List.getElem?_eq_getElem hlt
    rw [globFrom, hs] at h
    simp only [] at h
    by_cases c1 : goodName l[i].name = false
    · rw [if_pos c1] at h; simp at h
    rw [if_neg c1] at h
    by_cases c2 : (l.take i).any (fun o => decide (o.name = l[i].name)) = true
    · rw [if_pos c2] at h; simp at h
    rw [if_neg c2] at h
    by_cases c3 : l[i].size < 1 ∨ 200 < l[i].size
    · rw [if_pos c3] at h; simp at h
    rw [if_neg c3] at h
    by_cases c4 : l[i].size < (l[i].init.length : Int)
    · rw [if_pos c4] at h; simp at h
    rw [if_neg c4] at h
    by_cases c5 : 200 < sum + l[i].size
    · rw [if_pos c5] at h; simp at h
    rw [if_neg c5] at h
    by_cases e : k = i
    · subst e
      rw [hs] at he
      injection he with he
      subst he
      exact ⟨by simpa using c1, by omega, by omega, by omega⟩
    · exact globFrom_ok l f (i + 1) _ (by omega) h k g (by omega) he
theorem globFault_ok {l : List Global} (h : globFault l = (0, 0)) : l.length ≤ 10 ∧ ∀ g ∈ l, GlobOk g := by
  unfold globFault at h
  by_cases hn : 10 < l.length
  · rw [if_pos hn] at h; simp at h
  · rw [if_neg hn] at h
    refine ⟨by omega, fun g hg => ?_⟩
    obtain ⟨k, hk, e⟩ := List.mem_iff_getElem.1 hg
    exact globFrom_ok l l.length 0 0 (by omega) h k g (Nat.zero_le _) (by rw [List.getElem?_eq_getElem hk, e])
theorem macsFault_few {l : List Mac} (h : macsFault l = (0, 0)) : l.length ≤ 5000 := by
  unfold macsFault at h
  by_cases hn : 5000 < l.length
  · rw [if_pos hn] at h; simp at h
  · omega
theorem readL_some {bs : List UInt8} {l : List Mac} (h : readL bs = some l) : bs.length ≤ 70000 ∧ macsFault l = (0, 0) := by
  rw [readL_eq] at h
  by_cases hn : 70000 < bs.length
  · rw [if_pos hn] at h; cases h
  · rw [if_neg hn, Option.bind_eq_some_iff] at h
    obtain ⟨l', _, h2⟩ := h
    by_cases hm : macsFault l' = (0, 0)
    · rw [if_pos hm] at h2
      injection h2 with h2
      subst h2
      exact ⟨by omega, hm⟩
    · rw [if_neg hm] at h2; cases h2
theorem mendsFrom_len (l : List Mac) (ms : List Mend) : ∀ (f i : Nat), f + i = ms.length → mendsFrom l ms f i = 0 → (l.filter fun m => m.op == 44).length = ms.length
  | 0, i, hi, h => by
    rw [mendsFrom] at h
    by_cases e : (l.filter fun m => m.op == 44).length = ms.length
    · exact e
    · rw [if_neg e] at h; simp at h
  | f + 1, i, hi, h => by
    have hs : ms[i]? = some ms[i] := List.getElem?_eq_getElem (by omega)
    rw [mendsFrom, hs] at h
    simp only [] at h
    by_cases c1 : ms[i].at_ < 0 ∨ (l.length : Int) ≤ ms[i].at_
    · rw [if_pos c1] at h; simp at h
    rw [if_neg c1] at h
    by_cases c2 : (l.getD ms[i].at_.toNat ⟨0, 0, 0, 0, 0⟩).op ≠ 44
    · rw [if_pos c2] at h; simp at h
    rw [if_neg c2] at h
    by_cases c3 : (l.getD ms[i].at_.toNat ⟨0, 0, 0, 0, 0⟩).n ≠ 0 ∨ (0 < i ∧ ms[i].at_ ≤ (ms.getD (i - 1) ⟨0, ByteArray.empty⟩).at_)
    · rw [if_pos c3] at h; simp at h
    rw [if_neg c3] at h
    by_cases c4 : goodName ms[i].name = false
    · rw [if_pos c4] at h; simp at h
    rw [if_neg c4] at h
    exact mendsFrom_len l ms f (i + 1) (by omega) h
theorem mendsFrom_ok (l : List Mac) (ms : List Mend) : ∀ (f i : Nat), f + i = ms.length → mendsFrom l ms f i = 0 → ∀ (k : Nat) m, i ≤ k → ms[k]? = some m → 0 ≤ m.at_ ∧ m.at_ < (l.length : Int) ∧ goodName m.name = true
  | 0, i, hi, _, k, m, hk, he => by have := (List.getElem?_eq_some_iff.1 he).1; omega
  | f + 1, i, hi, h, k, m, hk, he => by
    have hs : ms[i]? = some ms[i] := List.getElem?_eq_getElem (by omega)
    rw [mendsFrom, hs] at h
    simp only [] at h
    by_cases c1 : ms[i].at_ < 0 ∨ (l.length : Int) ≤ ms[i].at_
    · rw [if_pos c1] at h; simp at h
    rw [if_neg c1] at h
    by_cases c2 : (l.getD ms[i].at_.toNat ⟨0, 0, 0, 0, 0⟩).op ≠ 44
    · rw [if_pos c2] at h; simp at h
    rw [if_neg c2] at h
    by_cases c3 : (l.getD ms[i].at_.toNat ⟨0, 0, 0, 0, 0⟩).n ≠ 0 ∨ (0 < i ∧ ms[i].at_ ≤ (ms.getD (i - 1) ⟨0, ByteArray.empty⟩).at_)
    · rw [if_pos c3] at h; simp at h
    rw [if_neg c3] at h
    by_cases c4 : goodName ms[i].name = false
    · rw [if_pos c4] at h; simp at h
    rw [if_neg c4] at h
    by_cases e : k = i
    · subst e
      rw [hs] at he
      injection he with he
      subst he
      exact ⟨by omega, by omega, by simpa using c4⟩
    · exact mendsFrom_ok l ms f (i + 1) (by omega) h k m (by omega) he
theorem secF_ok {s : Section} (h : secF s = 0) : s.code.length ≤ 70000 ∧ s.mends.length ≤ 5000 ∧ ∀ m ∈ s.mends, 0 ≤ m.at_ ∧ m.at_ < 5000 ∧ goodName m.name = true := by
  unfold secF at h
  cases hr : readL s.code with
  | none => rw [hr] at h; simp at h
  | some l =>
    rw [hr] at h
    obtain ⟨h1, h2⟩ := readL_some hr
    have h3 := macsFault_few h2
    have h4 := mendsFrom_len l s.mends _ 0 (by omega) h
    have h5 := List.length_filter_le (fun m : Mac => m.op == 44) l
    refine ⟨h1, by omega, fun m hm => ?_⟩
    obtain ⟨k, hk, e⟩ := List.mem_iff_getElem.1 hm
    obtain ⟨a, b, c⟩ := mendsFrom_ok l s.mends _ 0 (by omega) h k m (Nat.zero_le _) (by rw [List.getElem?_eq_getElem hk, e])
    exact ⟨a, by omega, c⟩
theorem goodName_len {s : ByteArray} (h : goodName s = true) : 1 ≤ s.size ∧ s.size ≤ 12 := by
  unfold goodName at h
  simp at h
  exact h.1

/-- What object.Part and the document's ObjectPart tell. -/
def partO (o : Object) (k : Int) : Object := if (objFault o).1 ≠ 0 then ⟨[], []⟩ else if k < 0 ∨ (o.sections.length : Int) ≤ k then ⟨[], []⟩ else ⟨o.globals, (o.sections.drop k.toNat).take 1⟩
def partF (o : Object) (k : Int) : Int × Int := if (objFault o).1 ≠ 0 then objFault o else if k < 0 ∨ (o.sections.length : Int) ≤ k then (3, -1) else (0, 0)
end Go.Proofs.YtkodcoianakjoaaDoor
