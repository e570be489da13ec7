/- What joining two objects comes to, plainly. Parts of an object that stand side by side, joined, are the part from the first to the last, plainly. Linking, plainly: what is wrong with objects, what is reached, what is undone. -/
import Derived.Test.YtcakodemngchpaaGreatDoorSameA
import Derived.Test.YtcakodemngchpaaGreatDoorPlainA
/- What joining two objects comes to, plainly. -/
namespace Go.Proofs.YtcakodemngchpaaGreatDoor
open Go.RowKit
set_option linter.unusedSimpArgs false
set_option linter.unusedVariables false

end Go.Proofs.YtcakodemngchpaaGreatDoor

/- Parts of an object that stand side by side, joined, are the part from the first to the last, plainly. -/
namespace Go.Proofs.YtcakodemngchpaaGreatDoor
open Go.RowKit
set_option linter.unusedSimpArgs false
set_option linter.unusedVariables false

/-- The sections of an object from i on, below j. -/
def segO (o : Object) (i j : Nat) : Object := ⟨o.globals, (o.sections.take j).drop i⟩
theorem hasS_false {l : List Section} {nm : ByteArray} : hasS l nm = false ↔ ∀ x ∈ l, x.name ≠ nm := by
  unfold hasS
  rw [List.any_eq_false]
  simp
theorem seg_get {o : Object} {i j k : Nat} {s : Section} (h : (segO o i j).sections[k]? = some s) : o.sections[i + k]? = some s ∧ i + k < j := by
  unfold segO at h
  simp only [] at h
  rw [List.getElem?_drop, List.getElem?_take] at h
  split at h
  · exact ⟨h, by assumption⟩
  · cases h
theorem seg_mem {o : Object} {i j k : Nat} {x : Section} (h : x ∈ ((segO o i j).sections).take k) : x ∈ o.sections.take (i + k) := by
  obtain ⟨m, hm, e⟩ := List.mem_iff_getElem.1 h
  rw [List.length_take] at hm
  have h1 : ((segO o i j).sections)[m]? = some x := by
    rw [List.getElem_take] at e
    rw [List.getElem?_eq_getElem (by omega), e]
  obtain ⟨h2, h3⟩ := seg_get h1
  obtain ⟨h4, h5⟩ := List.getElem?_eq_some_iff.1 h2
  refine List.mem_iff_getElem.2 ⟨i + m, by rw [List.length_take]; omega, ?_⟩
  rw [List.getElem_take, h5]
theorem seg_len (o : Object) (i j : Nat) : (segO o i j).sections.length = min j o.sections.length - i := by
  unfold segO
  simp
theorem seg_ok {o : Object} (h : ObjOk o) (i j : Nat) : ObjOk (segO o i j) := by
  refine ⟨h.glob, ?_, fun k s hs => ?_⟩
  · rw [seg_len]
    have := h.few
    omega
  · obtain ⟨h1, h2⟩ := seg_get hs
    have h3 := h.secs _ _ h1
    refine ⟨h3.good, h3.noG, ?_, h3.fine⟩
    rw [hasS_false]
    have := hasS_false.1 h3.noS
    exact fun x hx => this x (seg_mem hx)
end Go.Proofs.YtcakodemngchpaaGreatDoor

/- Linking, plainly: what is wrong with objects, what is reached, what is undone. -/
namespace Go.Proofs.YtcakodemngchpaaGreatDoor
open Go.RowKit
set_option linter.unusedSimpArgs false
set_option linter.unusedVariables false

def allS (l : List Object) : List Section := l.flatMap (·.sections)
theorem allS_step {l : List Object} {i : Nat} {o : Object} (h : l[i]? = some o) : allS (l.take (i + 1)) = allS (l.take i) ++ o.sections := by
  obtain ⟨hi, e⟩ := List.getElem?_eq_some_iff.1 h
  unfold allS
  rw [List.take_succ_eq_append_getElem hi, e, List.flatMap_append]
  simp
theorem hasS_append (a b : List Section) (nm : ByteArray) : hasS (a ++ b) nm = (hasS a nm || hasS b nm) := by unfold hasS; rw [List.any_append]
theorem hasS_true {l : List Section} {nm : ByteArray} : hasS l nm = true ↔ ∃ x ∈ l, x.name = nm := by
  unfold hasS
  rw [List.any_eq_true]
  simp
theorem hasS_allS {l : List Object} {nm : ByteArray} : hasS (allS l) nm = true ↔ ∃ o ∈ l, hasS o.sections nm = true := by
  rw [hasS_true]
  unfold allS
  constructor
  · rintro ⟨x, hx, e⟩
    obtain ⟨o, ho, hx⟩ := List.mem_flatMap.1 hx
    exact ⟨o, ho, hasS_true.2 ⟨x, hx, e⟩⟩
  · rintro ⟨o, ho, h⟩
    obtain ⟨x, hx, e⟩ := hasS_true.1 h
    exact ⟨x, List.mem_flatMap.2 ⟨o, ho, hx⟩, e⟩

/-- What is wrong with the object at i. -/
def linkAt (l : List Object) (i : Nat) (o : Object) : Int × Int :=
  if (objFault o).1 ≠ 0 then ((objFault o).1, (i : Int)) else if sameG o.globals (l.getD 0 ⟨[], []⟩).globals = false then (5, (i : Int)) else if (o.sections.any fun s => hasS (allS (l.take i)) s.name) = true then (7, (i : Int)) else (0, 0)
def linkFrom (l : List Object) : Nat → Nat → Int × Int
  | 0, _ => (0, 0)
  | f + 1, i => match l[i]? with
    | none => (0, 0)
    | some o => if (linkAt l i o).1 ≠ 0 then linkAt l i o else linkFrom l f (i + 1)
def linkF (l : List Object) : Int × Int := if l.length = 0 then (6, 0) else if 12 < l.length then (2, 0) else linkFrom l l.length 0
theorem linkFrom_step {l : List Object} {i : Nat} {o : Object} (h : l[i]? = some o) (hz : (linkAt l i o).1 = 0) : linkFrom l (l.length - i) i = linkFrom l (l.length - (i + 1)) (i + 1) := by
  have hi := (List.getElem?_eq_some_iff.1 h).1
  rw [show l.length - i = (l.length - (i + 1)) + 1 from by omega, linkFrom, h]
  simp only []
  rw [if_neg (by simp [hz])]
theorem linkFrom_stop {l : List Object} {i : Nat} {o : Object} (h : l[i]? = some o) (hz : (linkAt l i o).1 ≠ 0) : linkFrom l (l.length - i) i = linkAt l i o := by
  have hi := (List.getElem?_eq_some_iff.1 h).1
  rw [show l.length - i = (l.length - (i + 1)) + 1 from by omega, linkFrom, h]
  simp only []
  rw [if_pos hz]
theorem linkFrom_end (l : List Object) : linkFrom l (l.length - l.length) l.length = (0, 0) := by
  rw [Nat.sub_self]
  rfl
structure LinkOkAt (l : List Object) (i : Nat) (o : Object) : Prop where
  ok : ObjOk o
  glob : o.globals = (l.getD 0 ⟨[], []⟩).globals
  new : ∀ s ∈ o.sections, hasS (allS (l.take i)) s.name = false
theorem linkAt_ok {l : List Object} {i : Nat} {o : Object} (h : (linkAt l i o).1 = 0) : LinkOkAt l i o ∧ linkAt l i o = (0, 0) := by
  unfold linkAt at h ⊢
  by_cases h1 : (objFault o).1 ≠ 0
  · rw [if_pos h1] at h
    exact absurd h h1
  rw [if_neg h1] at h ⊢
  by_cases h2 : sameG o.globals (l.getD 0 ⟨[], []⟩).globals = false
  · rw [if_pos h2] at h
    simp at h
  rw [if_neg h2] at h ⊢
  by_cases h3 : (o.sections.any fun s => hasS (allS (l.take i)) s.name) = true
  · rw [if_pos h3] at h
    simp at h
  rw [if_neg h3]
  refine ⟨⟨(objOk_iff o).1 (objFault_fst o (by simpa using h1)), ?_, fun s hs => ?_⟩, rfl⟩
  · have : sameG o.globals (l.getD 0 ⟨[], []⟩).globals = true := by simpa using h2
    unfold sameG at this
    simpa using this
  · have h4 := List.any_eq_false.1 (by simpa using h3) s hs
    simpa using h4
theorem linkFrom_ok {l : List Object} : ∀ (f i : Nat), f + i = l.length → (linkFrom l f i).1 = 0 → linkFrom l f i = (0, 0) ∧ ∀ (k : Nat) o, i ≤ k → l[k]? = some o → LinkOkAt l k o
  | 0, i, hf, _ => ⟨rfl, fun k o hk h => by have := (List.getElem?_eq_some_iff.1 h).1; omega⟩
  | f + 1, i, hf, h => by
    have hi : i < l.length := by omega
    rw [linkFrom, List.getElem?_eq_getElem hi] at h ⊢
    simp only [] at h ⊢
    by_cases h1 : (linkAt l i l[i]).1 ≠ 0
    · rw [if_pos h1] at h
      exact absurd h h1
    rw [if_neg h1] at h ⊢
    obtain ⟨h2, h3⟩ := linkFrom_ok f (i + 1) (by omega) h
    refine ⟨h2, fun k o hk ho => ?_⟩
    by_cases e : k = i
    · subst e
      rw [List.getElem?_eq_getElem hi] at ho
      injection ho with ho
      subst ho
      exact (linkAt_ok (by simpa using h1)).1
    · exact h3 k o (by omega) ho
theorem linkF_ok {l : List Object} (h : (linkF l).1 = 0) : linkF l = (0, 0) ∧ 0 < l.length ∧ l.length ≤ 12 ∧ ∀ (k : Nat) o, l[k]? = some o → LinkOkAt l k o := by
  unfold linkF at h ⊢
  by_cases h1 : l.length = 0
  · rw [if_pos h1] at h
    simp at h
  rw [if_neg h1] at h ⊢
  by_cases h2 : 12 < l.length
  · rw [if_pos h2] at h
    simp at h
  rw [if_neg h2] at h ⊢
  obtain ⟨h3, h4⟩ := linkFrom_ok l.length 0 (by omega) h
  exact ⟨h3, by omega, by omega, fun k o ho => h4 k o (Nat.zero_le _) ho⟩

/-- Which object has a section of a name. -/
def ownerL (l : List Object) (nm : ByteArray) : Int := match l.findIdx? fun o => hasS o.sections nm with
  | some k => (k : Int)
  | none => -1
theorem owner_some {l : List Object} {nm : ByteArray} {k : Nat} {o : Object} (h : l[k]? = some o) (hh : hasS o.sections nm = true) (hn : ∀ (j : Nat) (y : Object), j < k → l[j]? = some y → hasS y.sections nm = false) : ownerL l nm = (k : Int) := by
  unfold ownerL
  obtain ⟨hk, e⟩ := List.getElem?_eq_some_iff.1 h
  have : (l.findIdx? fun o => hasS o.sections nm) = some k := by
    rw [List.findIdx?_eq_some_iff_getElem]
    refine ⟨hk, by rw [e]; exact hh, fun j hj => ?_⟩
    have := hn j l[j] hj (List.getElem?_eq_getElem (by omega))
    simp [this]
  rw [this]
theorem owner_none {l : List Object} {nm : ByteArray} (hn : ∀ (j : Nat) (y : Object), l[j]? = some y → hasS y.sections nm = false) : ownerL l nm = -1 := by
  unfold ownerL
  have : (l.findIdx? fun o => hasS o.sections nm) = none := by
    rw [List.findIdx?_eq_none_iff]
    intro x hx
    obtain ⟨j, hj, e⟩ := List.mem_iff_getElem.1 hx
    exact hn j x (by rw [List.getElem?_eq_getElem hj, e])
  rw [this]
/-- The section of a name. -/
def secFind (S : List Section) (nm : ByteArray) : Option Section := S.find? fun s => decide (s.name = nm)
def mendsOf (S : List Section) (nm : ByteArray) : List Mend := match secFind S nm with
  | some s => s.mends
  | none => []
theorem secFind_has {S : List Section} {nm : ByteArray} (h : hasS S nm = true) : ∃ s, secFind S nm = some s ∧ s ∈ S ∧ s.name = nm := by
  unfold secFind
  cases hf : S.find? fun s => decide (s.name = nm) with
  | none =>
    rw [List.find?_eq_none] at hf
    obtain ⟨x, hx, e⟩ := hasS_true.1 h
    exact absurd (decide_eq_true e) (hf x hx)
  | some s =>
    exact ⟨s, rfl, List.mem_of_find?_eq_some hf, by simpa using List.find?_some hf⟩
theorem secFind_none {S : List Section} {nm : ByteArray} (h : hasS S nm = false) : secFind S nm = none := by
  unfold secFind
  rw [List.find?_eq_none]
  intro x hx
  have := hasS_false.1 h x hx
  simpa using this
theorem secFind_snoc {S : List Section} {s : Section} {nm : ByteArray} (h : hasS S s.name = false) : secFind (S ++ [s]) nm = if s.name = nm then some s else secFind S nm := by
  unfold secFind
  rw [List.find?_append]
  by_cases e : s.name = nm
  · subst e
    rw [if_pos rfl]
    have := secFind_none h
    unfold secFind at this
    rw [this]
    simp
  · rw [if_neg e]
    cases S.find? fun s => decide (s.name = nm) <;> simp [e]

def inB (l : List ByteArray) (nm : ByteArray) : Bool := l.any fun x => decide (x = nm)
theorem inB_iff {l : List ByteArray} {nm : ByteArray} : inB l nm = true ↔ nm ∈ l := by
  unfold inB
  rw [List.any_eq_true]
  constructor
  · rintro ⟨x, hx, e⟩
    have : x = nm := by simpa using e
    exact this ▸ hx
  · exact fun h => ⟨nm, h, by simp⟩
/-- A name is met. -/
def meetL (S : List Section) (st : List ByteArray × List ByteArray) (nm : ByteArray) : List ByteArray × List ByteArray :=
  if hasS S nm = true then (if inB st.1 nm = true then st else (st.1 ++ [nm], st.2)) else if inB st.2 nm = true then st else (st.1, st.2 ++ [nm])
def meetsL (S : List Section) (st : List ByteArray × List ByteArray) (ms : List Mend) : List ByteArray × List ByteArray := ms.foldl (fun st m => meetL S st m.name) st
theorem meetsL_step {S : List Section} {st : List ByteArray × List ByteArray} {ms : List Mend} {k : Nat} {m : Mend} (h : ms[k]? = some m) : meetsL S st (ms.take (k + 1)) = meetL S (meetsL S st (ms.take k)) m.name := by
  obtain ⟨hk, e⟩ := List.getElem?_eq_some_iff.1 h
  unfold meetsL
  rw [List.take_succ_eq_append_getElem hk, e, List.foldl_append]
  rfl
def reachL (S : List Section) : Nat → Nat → List ByteArray × List ByteArray → List ByteArray × List ByteArray
  | 0, _, st => st
  | f + 1, i, st => match st.1[i]? with
    | none => st
    | some nm => reachL S f (i + 1) (meetsL S st (mendsOf S nm))
/-- What is reached are names that are there, each once. -/
structure RInv (S : List Section) (st : List ByteArray × List ByteArray) : Prop where
  once : st.1.Nodup
  there : ∀ x ∈ st.1, hasS S x = true
theorem nodup_len {α : Type} [DecidableEq α] : ∀ (l m : List α), l.Nodup → (∀ x ∈ l, x ∈ m) → l.length ≤ m.length
  | [], m, _, _ => Nat.zero_le _
  | x :: l, m, hn, hs => by
    obtain ⟨h1, h2⟩ := List.nodup_cons.1 hn
    have h3 := nodup_len l (m.erase x) h2 fun y hy => by
      have hy' := hs y (List.mem_cons_of_mem _ hy)
      exact (List.mem_erase_of_ne (fun e => h1 (by rw [← e]; exact hy))).2 hy'
    have h4 := List.length_erase_of_mem (hs x (List.mem_cons_self ..))
    have h5 : 0 < m.length := List.length_pos_of_mem (hs x (List.mem_cons_self ..))
    rw [List.length_cons]
    omega
theorem RInv.len {S : List Section} {st : List ByteArray × List ByteArray} (h : RInv S st) : st.1.length ≤ S.length := by
  have := nodup_len st.1 (S.map (·.name)) h.once fun x hx => by
    obtain ⟨s, hs, e⟩ := hasS_true.1 (h.there x hx)
    exact List.mem_map.2 ⟨s, hs, e⟩
  simpa using this
theorem RInv.meet {S : List Section} {st : List ByteArray × List ByteArray} (h : RInv S st) (nm : ByteArray) : RInv S (meetL S st nm) ∧ st.1.length ≤ (meetL S st nm).1.length ∧ (meetL S st nm).2.length ≤ st.2.length + 1 := by
  unfold meetL
  by_cases h1 : hasS S nm = true
  · rw [if_pos h1]
    by_cases h2 : inB st.1 nm = true
    · rw [if_pos h2]
      exact ⟨h, Nat.le_refl _, Nat.le_succ _⟩
    · rw [if_neg h2]
      refine ⟨⟨?_, fun x hx => ?_⟩, by simp, Nat.le_succ _⟩
      · refine List.nodup_append.2 ⟨h.once, by simp, fun a ha b hb => ?_⟩
        have : b = nm := by simpa using hb
        subst this
        exact fun e => h2 (inB_iff.2 (e ▸ ha))
      · rcases List.mem_append.1 hx with hx | hx
        · exact h.there x hx
        · have : x = nm := by simpa using hx
          exact this ▸ h1
  · rw [if_neg h1]
    by_cases h2 : inB st.2 nm = true
    · rw [if_pos h2]
      exact ⟨h, Nat.le_refl _, Nat.le_succ _⟩
    · rw [if_neg h2]
      exact ⟨⟨h.once, h.there⟩, Nat.le_refl _, by simp⟩
theorem RInv.meets {S : List Section} {st : List ByteArray × List ByteArray} (h : RInv S st) : ∀ (ms : List Mend), RInv S (meetsL S st ms) ∧ st.1.length ≤ (meetsL S st ms).1.length ∧ (meetsL S st ms).2.length ≤ st.2.length + ms.length := by
  intro ms
  induction ms generalizing st with
  | nil => exact ⟨h, Nat.le_refl _, Nat.le_refl _⟩
  | cons m ms ih =>
    obtain ⟨h1, h2, h4⟩ := h.meet m.name
    obtain ⟨h3, h5, h6⟩ := ih h1
    refine ⟨h3, Nat.le_trans h2 h5, ?_⟩
    show (meetsL S (meetL S st m.name) ms).2.length ≤ _
    rw [List.length_cons]
    omega
theorem reachL_step {S : List Section} {i : Nat} {st : List ByteArray × List ByteArray} {nm : ByteArray} (h : RInv S st) (hi : st.1[i]? = some nm) : reachL S (S.length - i) i st = reachL S (S.length - (i + 1)) (i + 1) (meetsL S st (mendsOf S nm)) := by
  have h1 := (List.getElem?_eq_some_iff.1 hi).1
  have h2 := h.len
  rw [show S.length - i = (S.length - (i + 1)) + 1 from by omega, reachL, hi]
theorem reachL_end {S : List Section} {f i : Nat} {st : List ByteArray × List ByteArray} (h : st.1.length ≤ i) : reachL S f i st = st := by
  cases f with
  | zero => rfl
  | succ f =>
    rw [reachL, List.getElem?_eq_none h]
def mainB : ByteArray := ⟨#[109, 97, 105, 110]⟩
def reached (S : List Section) : List ByteArray × List ByteArray := reachL S S.length 0 ([mainB], [])
theorem RInv.begin {S : List Section} (h : hasS S mainB = true) : RInv S ([mainB], []) :=
  ⟨by simp, fun x hx => by
    have : x = mainB := by simpa using hx
    exact this ▸ h⟩
/-- What is told of linking: the fault; names that are reached, and those that are undone. -/
def metF (l : List Object) : Int × Int := if (linkF l).1 ≠ 0 then linkF l else if hasS (allS l) mainB = false then (6, -1) else (0, 0)
def metO (l : List Object) : List ByteArray × List ByteArray := if (metF l).1 ≠ 0 then ([], []) else reached (allS l)
end Go.Proofs.YtcakodemngchpaaGreatDoor
