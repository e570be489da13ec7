/- Bundles, plainly: what is wrong with objects, the index, the bytes. slices.Insert of one entry into the index: a row of the call's own. The index of a bundle: how names are compared, where one is found. bundle.index: the names of all sections, in order, each with its object's place. -/
import Derived.Test.YtcakodemngchpaaGreatDoorLinkP2
import Derived.Test.YtcakodemngchpaaGreatDoorAppA
import Derived.Test.YtcakodemngchpaaGreatDoorBase
import Derived.Test.YtcakodemngchpaaGreatDoorRows
import Derived.IntWalk
import Derived.Deep.RegionHeld3
import Derived.Lib.AppendZerosOnto
import Derived.Lib.AppendZeros
import Derived.Lib.Overlaps
import Derived.Laws.NewBlocks
import Derived.Laws.CopyOwn
import Derived.Laws.Externs
import Derived.Deep.LoopGhost
import Derived.Outline
import Derived.Deep.CutBlock
import Derived.Deep.DeepCutAuto
import Derived.Test.YtcakodemngchpaaGreatDoorLinkW
import Derived.Test.YtcakodemngchpaaGreatDoorLinkA
/- Bundles, plainly: what is wrong with objects, the index, the bytes. -/
namespace Go.Proofs.YtcakodemngchpaaGreatDoor
open Go.RowKit
set_option linter.unusedSimpArgs false
set_option linter.unusedVariables false

/-- What is wrong with the object at i. -/
def bunAt (l : List Object) (i : Nat) (o : Object) : Int × Int :=
  if (objFault o).1 ≠ 0 then ((objFault o).1, (i : Int)) else if (o.sections.any fun s => hasS (allS (l.take i)) s.name) = true then (7, (i : Int)) else (0, 0)
def bunFrom (l : List Object) : Nat → Nat → Int × Int
  | 0, _ => (0, 0)
  | f + 1, i => match l[i]? with
    | none => (0, 0)
    | some o => if (bunAt l i o).1 ≠ 0 then bunAt l i o else bunFrom l f (i + 1)
def bunF (l : List Object) : Int × Int := if 12 < l.length then (2, 0) else bunFrom l l.length 0
theorem bunFrom_step {l : List Object} {i : Nat} {o : Object} (h : l[i]? = some o) (hz : (bunAt l i o).1 = 0) : bunFrom l (l.length - i) i = bunFrom l (l.length - (i + 1)) (i + 1) := by
  have hi := (List.getElem?_eq_some_iff.1 h).1
  rw [show l.length - i = (l.length - (i + 1)) + 1 from by omega, bunFrom, h]
  simp only []
  rw [if_neg (by simp [hz])]
theorem bunFrom_stop {l : List Object} {i : Nat} {o : Object} (h : l[i]? = some o) (hz : (bunAt l i o).1 ≠ 0) : bunFrom l (l.length - i) i = bunAt l i o := by
  have hi := (List.getElem?_eq_some_iff.1 h).1
  rw [show l.length - i = (l.length - (i + 1)) + 1 from by omega, bunFrom, h]
  simp only []
  rw [if_pos hz]
theorem bunFrom_end (l : List Object) : bunFrom l (l.length - l.length) l.length = (0, 0) := by
  rw [Nat.sub_self]
  rfl
structure BunOkAt (l : List Object) (i : Nat) (o : Object) : Prop where
  ok : ObjOk o
  new : ∀ s ∈ o.sections, hasS (allS (l.take i)) s.name = false
theorem bunAt_ok {l : List Object} {i : Nat} {o : Object} (h : (bunAt l i o).1 = 0) : BunOkAt l i o ∧ bunAt l i o = (0, 0) := by
  unfold bunAt at h ⊢
  by_cases h1 : (objFault o).1 ≠ 0
  · rw [if_pos h1] at h
    exact absurd h h1
  rw [if_neg h1] at h ⊢
  by_cases h3 : (o.sections.any fun s => hasS (allS (l.take i)) s.name) = true
  · rw [if_pos h3] at h
    simp at h
  rw [if_neg h3]
  refine ⟨⟨(objOk_iff o).1 (objFault_fst o (by simpa using h1)), fun s hs => ?_⟩, rfl⟩
  have h4 := List.any_eq_false.1 (by simpa using h3) s hs
  simpa using h4
theorem bunAt_good {l : List Object} {i : Nat} {o : Object} (h : BunOkAt l i o) : bunAt l i o = (0, 0) := by
  unfold bunAt
  rw [if_neg (by rw [(objOk_iff o).2 h.ok]; simp), if_neg]
  simp only [List.any_eq_true, not_exists, not_and]
  intro s hs
  rw [h.new s hs]
  simp
theorem bunFrom_ok {l : List Object} : ∀ (f i : Nat), f + i = l.length → (bunFrom l f i).1 = 0 → bunFrom l f i = (0, 0) ∧ ∀ (k : Nat) o, i ≤ k → l[k]? = some o → BunOkAt l k o
  | 0, i, hf, _ => ⟨rfl, fun k o hk h => by have := (List.getElem?_eq_some_iff.1 h).1; omega⟩
  | f + 1, i, hf, h => by
    have hi : i < l.length := by omega
    rw [bunFrom, List.getElem?_eq_getElem hi] at h ⊢
    simp only [] at h ⊢
    by_cases h1 : (bunAt l i l[i]).1 ≠ 0
    · rw [if_pos h1] at h
      exact absurd h h1
    rw [if_neg h1] at h ⊢
    obtain ⟨h2, h3⟩ := bunFrom_ok f (i + 1) (by omega) h
    refine ⟨h2, fun k o hk ho => ?_⟩
    by_cases e : k = i
    · subst e
      rw [List.getElem?_eq_getElem hi] at ho
      injection ho with ho
      subst ho
      exact (bunAt_ok (by simpa using h1)).1
    · exact h3 k o (by omega) ho
theorem bunFrom_good {l : List Object} (h : ∀ (k : Nat) o, l[k]? = some o → BunOkAt l k o) : ∀ (f i : Nat), bunFrom l f i = (0, 0)
  | 0, _ => rfl
  | f + 1, i => by
    rw [bunFrom]
    cases e : l[i]? with
    | none => rfl
    | some o =>
      simp only []
      rw [bunAt_good (h i o e), if_neg (by simp), bunFrom_good h f (i + 1)]
structure BunOk (l : List Object) : Prop where
  few : l.length ≤ 12
  each : ∀ (k : Nat) o, l[k]? = some o → BunOkAt l k o
theorem bunF_ok {l : List Object} (h : (bunF l).1 = 0) : bunF l = (0, 0) ∧ BunOk l := by
  unfold bunF at h ⊢
  by_cases h2 : 12 < l.length
  · rw [if_pos h2] at h
    simp at h
  rw [if_neg h2] at h ⊢
  obtain ⟨h3, h4⟩ := bunFrom_ok l.length 0 (by omega) h
  exact ⟨h3, by omega, fun k o ho => h4 k o (Nat.zero_le _) ho⟩
theorem bunF_good {l : List Object} (h : BunOk l) : bunF l = (0, 0) := by
  unfold bunF
  rw [if_neg (by have := h.few; omega), bunFrom_good h.each]

/-- Names of sections, in their order, each with the place of its object. -/
def pairsAt (o : Object) (i : Nat) : List (ByteArray × Nat) := o.sections.map fun s => (s.name, i)
def pairsTo (l : List Object) : Nat → List (ByteArray × Nat)
  | 0 => []
  | k + 1 => pairsTo l k ++ (match l[k]? with | some o => pairsAt o k | none => [])
theorem pairsTo_names {l : List Object} : ∀ (k : Nat), (pairsTo l k).map Prod.fst = (allS (l.take k)).map (·.name)
  | 0 => by simp [pairsTo, allS]
  | k + 1 => by
    rw [pairsTo, List.map_append, pairsTo_names k]
    cases e : l[k]? with
    | none =>
      have : l.length ≤ k := List.getElem?_eq_none_iff.1 e
      rw [List.take_of_length_le this, List.take_of_length_le (by omega)]
      simp
    | some o =>
      rw [allS_step e, List.map_append]
      simp [pairsAt]
theorem mem_pairsTo {l : List Object} {e : ByteArray × Nat} : ∀ (k : Nat), e ∈ pairsTo l k → e.2 < k ∧ ∃ o s, l[e.2]? = some o ∧ s ∈ o.sections ∧ s.name = e.1
  | 0, h => by cases h
  | k + 1, h => by
    rw [pairsTo, List.mem_append] at h
    rcases h with h | h
    · obtain ⟨h1, h2⟩ := mem_pairsTo k h
      exact ⟨by omega, h2⟩
    · cases ho : l[k]? with
      | none => rw [ho] at h; cases h
      | some o =>
        rw [ho] at h
        simp only [pairsAt] at h
        obtain ⟨s, hs, rfl⟩ := List.mem_map.1 h
        exact ⟨Nat.lt_succ_self _, o, s, ho, hs, rfl⟩
theorem nodup_append_names {a b : List Section} : ((a ++ b).map (·.name)).Nodup ↔ (a.map (·.name)).Nodup ∧ (b.map (·.name)).Nodup ∧ ∀ s ∈ b, hasS a s.name = false := by
  rw [List.map_append, List.nodup_append]
  constructor
  · rintro ⟨h1, h2, h3⟩
    refine ⟨h1, h2, fun s hs => ?_⟩
    cases hh : hasS a s.name with
    | false => rfl
    | true =>
      obtain ⟨x, hx, e⟩ := hasS_true.1 hh
      exact absurd e (h3 _ (List.mem_map.2 ⟨x, hx, rfl⟩) _ (List.mem_map.2 ⟨s, hs, rfl⟩))
  · rintro ⟨h1, h2, h3⟩
    refine ⟨h1, h2, fun x hx y hy e => ?_⟩
    obtain ⟨s, hs, rfl⟩ := List.mem_map.1 hy
    obtain ⟨t, ht, rfl⟩ := List.mem_map.1 hx
    have := h3 s hs
    rw [hasS_true.2 ⟨t, ht, e⟩] at this
    cases this
/-- A fine object's names are there once each. -/
theorem secs_nodup {o : Object} (h : ObjOk o) : (o.sections.map (·.name)).Nodup := by
  have : ∀ k, k ≤ o.sections.length → ((o.sections.take k).map (·.name)).Nodup := by
    intro k
    induction k with
    | zero => intro _; simp
    | succ k ih =>
      intro hk
      have hk' : k < o.sections.length := hk
      rw [List.take_succ_eq_append_getElem hk', nodup_append_names]
      refine ⟨ih (by omega), by simp, fun s hs => ?_⟩
      have e : s = o.sections[k] := by simpa using hs
      subst e
      exact (h.secs k _ (List.getElem?_eq_getElem hk')).noS
  have h1 := this o.sections.length (Nat.le_refl _)
  rwa [List.take_length] at h1
theorem names_step {l : List Object} {i : Nat} {o : Object} (h : l[i]? = some o) (hok : ObjOk o) (hn : ((allS (l.take i)).map (·.name)).Nodup) :
    ((allS (l.take (i + 1))).map (·.name)).Nodup ↔ (o.sections.any fun s => hasS (allS (l.take i)) s.name) = false := by
  rw [allS_step h, nodup_append_names, List.any_eq_false]
  constructor
  · rintro ⟨_, _, h3⟩ s hs
    rw [h3 s hs]
    simp
  · intro h3
    exact ⟨hn, secs_nodup hok, fun s hs => by simpa using h3 s hs⟩
theorem BunOk.nodup {l : List Object} (h : BunOk l) : ∀ (k : Nat), ((allS (l.take k)).map (·.name)).Nodup
  | 0 => by simp [allS]
  | k + 1 => by
    cases e : l[k]? with
    | none =>
      have h1 : l.length ≤ k := List.getElem?_eq_none_iff.1 e
      have := h.nodup k
      rw [List.take_of_length_le h1] at this
      rwa [List.take_of_length_le (by omega)]
    | some o =>
      rw [names_step e (h.each k o e).ok (h.nodup k), List.any_eq_false]
      intro s hs
      rw [(h.each k o e).new s hs]
      simp

/-- How strings are ordered. -/
def ltL : List UInt8 → List UInt8 → Bool := Go.Op.bytesLess
theorem ltL_irr : ∀ (a : List UInt8), ltL a a = false
  | [] => rfl
  | x :: a => by
    have h := ltL_irr a
    unfold ltL at h ⊢
    rw [Go.Op.bytesLess, h]
    simp
theorem ltL_trans : ∀ (a b c : List UInt8), ltL a b = true → ltL b c = true → ltL a c = true
  | _, [], _, h, _ => by cases ‹List UInt8› <;> simp [ltL, Go.Op.bytesLess] at h
  | _, _ :: _, [], _, h => by simp [ltL, Go.Op.bytesLess] at h
  | [], _ :: _, _ :: _, _, _ => by simp [ltL, Go.Op.bytesLess]
  | x :: a, y :: b, z :: c, h, k => by
    have ih := ltL_trans a b c
    unfold ltL at h k ih ⊢
    rw [Go.Op.bytesLess] at h k ⊢
    simp only [Bool.or_eq_true, Bool.and_eq_true, decide_eq_true_eq, beq_iff_eq] at h k ⊢
    rcases h with h | ⟨rfl, h⟩ <;> rcases k with k | ⟨rfl, k⟩
    · exact .inl (UInt8.lt_trans h k)
    · exact .inl h
    · exact .inl k
    · exact .inr ⟨rfl, ih h k⟩
theorem ltL_total : ∀ (a b : List UInt8), ltL a b = false → ltL b a = false → a = b
  | [], [], _, _ => rfl
  | [], _ :: _, h, _ => by simp [ltL, Go.Op.bytesLess] at h
  | _ :: _, [], _, h => by simp [ltL, Go.Op.bytesLess] at h
  | x :: a, y :: b, h, k => by
    have ih := ltL_total a b
    unfold ltL at h k ih
    rw [Go.Op.bytesLess] at h k
    simp only [Bool.or_eq_false_iff, Bool.and_eq_false_imp, decide_eq_false_iff_not, beq_iff_eq] at h k
    have e : x = y := UInt8.le_antisymm (UInt8.not_lt.1 k.1) (UInt8.not_lt.1 h.1)
    subst e
    rw [ih (h.2 rfl) (k.2 rfl)]
def ltB (a b : ByteArray) : Bool := ltL a.data.toList b.data.toList
theorem ltB_irr (a : ByteArray) : ltB a a = false := ltL_irr _
theorem ltB_trans {a b c : ByteArray} (h : ltB a b = true) (k : ltB b c = true) : ltB a c = true := ltL_trans _ _ _ h k
theorem ltB_total {a b : ByteArray} (h : ltB a b = false) (k : ltB b a = false) : a = b := by
  have := ltL_total _ _ h k
  cases a; cases b
  simp only [Array.toList_inj] at this
  rw [this]
/-- Where a name belongs in a row of names. -/
def posN (N : List ByteArray) (nm : ByteArray) : Nat := (N.takeWhile fun x => ltB x nm).length
def insN (N : List ByteArray) (nm : ByteArray) : List ByteArray := N.take (posN N nm) ++ nm :: N.drop (posN N nm)
def Sorted (N : List ByteArray) : Prop := N.Pairwise fun a b => ltB a b = true
theorem posN_le (N : List ByteArray) (nm : ByteArray) : posN N nm ≤ N.length := (List.takeWhile_prefix _).length_le
theorem posN_low {N : List ByteArray} {nm x : ByteArray} {j : Nat} (h : j < posN N nm) (hx : N[j]? = some x) : ltB x nm = true := by
  unfold posN at h
  have h1 : (N.takeWhile fun x => ltB x nm)[j]? = some x := by
    rw [← hx]
    have := List.takeWhile_prefix (p := fun x => ltB x nm) (l := N)
    obtain ⟨t, ht⟩ := this
    conv => rhs; rw [← ht]
    rw [List.getElem?_append_left h]
  have h2 := List.all_takeWhile (p := fun x => ltB x nm) (l := N)
  exact List.all_eq_true.1 h2 x (List.mem_of_getElem? h1)
theorem posN_stop : ∀ {N : List ByteArray} {nm x : ByteArray}, N[posN N nm]? = some x → ltB x nm = false
  | [], _, _, h => by simp at h
  | y :: N, nm, x, h => by
    unfold posN at h
    rw [List.takeWhile_cons] at h
    by_cases hy : ltB y nm = true
    · rw [if_pos hy] at h
      exact posN_stop (N := N) (by unfold posN; simpa using h)
    · rw [if_neg hy] at h
      have : y = x := by simpa using h
      rw [← this]
      simpa using hy
theorem sorted_get {N : List ByteArray} (h : Sorted N) {i j : Nat} {x y : ByteArray} (hij : i < j) (hx : N[i]? = some x) (hy : N[j]? = some y) : ltB x y = true := by
  obtain ⟨hi, rfl⟩ := List.getElem?_eq_some_iff.1 hx
  obtain ⟨hj, rfl⟩ := List.getElem?_eq_some_iff.1 hy
  exact List.pairwise_iff_getElem.1 h i j hi hj hij
theorem posN_high {N : List ByteArray} (h : Sorted N) {nm x : ByteArray} {j : Nat} (hj : posN N nm ≤ j) (hx : N[j]? = some x) : ltB x nm = false := by
  have hjl := (List.getElem?_eq_some_iff.1 hx).1
  have hp : posN N nm < N.length := by omega
  have h0 := posN_stop (N := N) (nm := nm) (List.getElem?_eq_getElem hp)
  rcases Nat.lt_or_ge (posN N nm) j with hlt | hge
  · have h1 := sorted_get h hlt (List.getElem?_eq_getElem hp) hx
    cases h2 : ltB x nm with
    | false => rfl
    | true => have := ltB_trans h1 h2; rw [this] at h0; cases h0
  · obtain rfl : j = posN N nm := by omega
    exact posN_stop hx
/-- A place in a row that is in order, with all less ahead and none less behind: that is where a name belongs. -/
theorem posN_unique {N : List ByteArray} (h : Sorted N) {nm : ByteArray} {p : Nat} (hp : p ≤ N.length) (hlo : ∀ j x, j < p → N[j]? = some x → ltB x nm = true) (hhi : ∀ j x, p ≤ j → N[j]? = some x → ltB x nm = false) : p = posN N nm := by
  have hq := posN_le N nm
  rcases Nat.lt_trichotomy p (posN N nm) with hlt | rfl | hgt
  · have e := List.getElem?_eq_getElem (show p < N.length by omega)
    have h1 := posN_low hlt e
    rw [hhi p _ (Nat.le_refl _) e] at h1
    cases h1
  · rfl
  · have e := List.getElem?_eq_getElem (show posN N nm < N.length by omega)
    have h1 := hlo _ _ hgt e
    rw [posN_stop e] at h1
    cases h1
/-- A name that is there stands there. -/
theorem posN_mem {N : List ByteArray} (h : Sorted N) {nm : ByteArray} : N[posN N nm]? = some nm ↔ nm ∈ N := by
  refine ⟨fun e => List.mem_of_getElem? e, fun hm => ?_⟩
  obtain ⟨k, hk, e⟩ := List.mem_iff_getElem.1 hm
  have hk' : N[k]? = some nm := by rw [List.getElem?_eq_getElem hk, e]
  rcases Nat.lt_trichotomy k (posN N nm) with hlt | rfl | hgt
  · have := posN_low hlt hk'
    rw [ltB_irr] at this
    cases this
  · exact hk'
  · have e2 := List.getElem?_eq_getElem (show posN N nm < N.length by omega)
    have h1 := sorted_get h hgt e2 hk'
    rw [posN_stop e2] at h1
    cases h1
theorem sorted_ins {N : List ByteArray} (h : Sorted N) {nm : ByteArray} (hn : nm ∉ N) : Sorted (insN N nm) := by
  unfold Sorted insN
  have hN : N = N.take (posN N nm) ++ N.drop (posN N nm) := (List.take_append_drop _ _).symm
  have h1 : (N.take (posN N nm) ++ N.drop (posN N nm)).Pairwise fun a b => ltB a b = true := by rw [← hN]; exact h
  rw [List.pairwise_append] at h1 ⊢
  obtain ⟨h2, h3, h4⟩ := h1
  have hlow : ∀ x ∈ N.take (posN N nm), ltB x nm = true := fun x hx => by
    obtain ⟨k, hk, e⟩ := List.mem_iff_getElem.1 hx
    have hk2 : k < posN N nm ∧ k < N.length := by rw [List.length_take] at hk; omega
    rw [List.getElem_take] at e
    exact posN_low (j := k) hk2.1 (by rw [List.getElem?_eq_getElem hk2.2, e])
  have hhigh : ∀ x ∈ N.drop (posN N nm), ltB nm x = true := fun x hx => by
    obtain ⟨k, hk, e⟩ := List.mem_iff_getElem.1 hx
    have hk2 : posN N nm + k < N.length := by rw [List.length_drop] at hk; omega
    rw [List.getElem_drop] at e
    have h5 := posN_high h (nm := nm) (j := posN N nm + k) (Nat.le_add_right _ _) (by rw [List.getElem?_eq_getElem hk2, e])
    cases h6 : ltB nm x with
    | true => rfl
    | false =>
      have := ltB_total h5 h6
      subst this
      exact absurd (List.mem_of_mem_drop hx) hn
  refine ⟨h2, List.pairwise_cons.2 ⟨hhigh, h3⟩, fun a ha b hb => ?_⟩
  rcases List.mem_cons.1 hb with rfl | hb
  · exact hlow a ha
  · exact h4 a ha b hb
theorem mem_insN {N : List ByteArray} {nm x : ByteArray} : x ∈ insN N nm ↔ x = nm ∨ x ∈ N := by
  unfold insN
  have hN : N = N.take (posN N nm) ++ N.drop (posN N nm) := (List.take_append_drop _ _).symm
  conv => rhs; rw [hN]
  simp only [List.mem_append, List.mem_cons]
  constructor
  · rintro (h | h | h) <;> simp [h]
  · rintro (h | h | h) <;> simp [h]
theorem insN_len (N : List ByteArray) (nm : ByteArray) : (insN N nm).length = N.length + 1 := by
  unfold insN
  have := posN_le N nm
  simp
  omega

/-- The index, entry by entry. -/
def insE (E : List (ByteArray × Nat)) (e : ByteArray × Nat) : List (ByteArray × Nat) := E.take (posN (E.map Prod.fst) e.1) ++ e :: E.drop (posN (E.map Prod.fst) e.1)
def addE (E : List (ByteArray × Nat)) (ps : List (ByteArray × Nat)) : List (ByteArray × Nat) := ps.foldl insE E
def idxL (l : List Object) : List (ByteArray × Nat) := addE [] (pairsTo l l.length)
theorem insE_names (E : List (ByteArray × Nat)) (e : ByteArray × Nat) : (insE E e).map Prod.fst = insN (E.map Prod.fst) e.1 := by
  unfold insE insN
  rw [List.map_append, List.map_cons, List.map_take, List.map_drop]
theorem insE_len (E : List (ByteArray × Nat)) (e : ByteArray × Nat) : (insE E e).length = E.length + 1 := by
  have := insN_len (E.map Prod.fst) e.1
  rw [← insE_names] at this
  simpa using this
theorem mem_insE {E : List (ByteArray × Nat)} {e x : ByteArray × Nat} : x ∈ insE E e ↔ x = e ∨ x ∈ E := by
  unfold insE
  have hN : E = E.take (posN (E.map Prod.fst) e.1) ++ E.drop (posN (E.map Prod.fst) e.1) := (List.take_append_drop _ _).symm
  conv => rhs; rw [hN]
  simp only [List.mem_append, List.mem_cons]
  constructor
  · rintro (h | h | h) <;> simp [h]
  · rintro (h | h | h) <;> simp [h]
theorem mem_addE {x : ByteArray × Nat} : ∀ {ps E : List (ByteArray × Nat)}, x ∈ addE E ps ↔ x ∈ ps ∨ x ∈ E
  | [], E => by simp [addE]
  | p :: ps, E => by
    have := mem_addE (x := x) (ps := ps) (E := insE E p)
    unfold addE at this ⊢
    rw [List.foldl_cons, this, mem_insE, List.mem_cons]
    constructor
    · rintro (h | h | h) <;> simp [h]
    · rintro ((h | h) | h) <;> simp [h]
theorem addE_len : ∀ (ps E : List (ByteArray × Nat)), (addE E ps).length = E.length + ps.length
  | [], E => rfl
  | p :: ps, E => by
    have := addE_len ps (insE E p)
    unfold addE at this ⊢
    rw [List.foldl_cons, this, insE_len, List.length_cons]
    omega
theorem addE_snoc (E ps : List (ByteArray × Nat)) (p : ByteArray × Nat) : addE E (ps ++ [p]) = insE (addE E ps) p := by
  unfold addE
  rw [List.foldl_append]
  rfl
theorem addE_sorted : ∀ (ps E : List (ByteArray × Nat)), Sorted (E.map Prod.fst) → (ps.map Prod.fst).Nodup → (∀ x ∈ ps.map Prod.fst, x ∉ E.map Prod.fst) → Sorted ((addE E ps).map Prod.fst)
  | [], E, h, _, _ => h
  | p :: ps, E, h, hn, hd => by
    rw [List.map_cons, List.nodup_cons] at hn
    have h1 : Sorted ((insE E p).map Prod.fst) := by rw [insE_names]; exact sorted_ins h (hd _ (by simp))
    have := addE_sorted ps (insE E p) h1 hn.2 (fun x hx => by
      rw [insE_names, mem_insN]
      rintro (rfl | h)
      · exact hn.1 hx
      · exact hd x (by rw [List.map_cons]; exact List.mem_cons_of_mem _ hx) h)
    unfold addE at this ⊢
    exact this
/-- The owner of a name in the index is the one that stands there. -/
theorem idx_owner {l : List Object} (h : BunOk l) {e : ByteArray × Nat} (he : e ∈ idxL l) : ownerL l e.1 = (e.2 : Int) ∧ e.2 < l.length := by
  unfold idxL at he
  rw [mem_addE] at he
  rcases he with he | he
  rotate_left
  · cases he
  obtain ⟨h1, o, s, ho, hs, hn⟩ := mem_pairsTo _ he
  refine ⟨owner_some ho (hasS_true.2 ⟨s, hs, hn⟩) (fun j y hj hy => ?_), h1⟩
  have h2 := (h.each _ o ho).new s hs
  rw [hn] at h2
  cases hh : hasS y.sections e.1 with
  | false => rfl
  | true =>
    have : hasS (allS (l.take e.2)) e.1 = true := hasS_allS.2 ⟨y, List.mem_of_getElem? (show (l.take e.2)[j]? = some y by rw [List.getElem?_take, if_pos hj]; exact hy), hh⟩
    rw [this] at h2
    cases h2

def entB (e : ByteArray × Nat) : List UInt8 := textB e.1 ++ numB e.2
def objB (o : Object) : List UInt8 := textB (strL (savedB o))
def bunB (l : List Object) : List UInt8 := [76, 73, 66] ++ (numB l.length ++ (numB (idxL l).length ++ ((idxL l).flatMap entB ++ l.flatMap objB)))
def packB (l : List Object) : List UInt8 := sumB (bunB l)
def packO (l : List Object) : List UInt8 := if (bunF l).1 ≠ 0 then [] else if 90000 < (packB l).length then [] else packB l
def packF (l : List Object) : Int × Int := if (bunF l).1 ≠ 0 then bunF l else if 90000 < (packB l).length then (10, 0) else (0, 0)
end Go.Proofs.YtcakodemngchpaaGreatDoor

/- slices.Insert of one entry into the index: a row of the call's own. -/
namespace Go.Proofs.YtcakodemngchpaaGreatDoor
open Go.RowKit
set_option linter.unusedSimpArgs false
set_option linter.unusedVariables false

section
variable {P : Program}
/-- copy, where elements have any size. -/
theorem run_copy_rows (w : World) (dT sT ty elem : TypeId) (size g o dLen dCap : Nat) (a : Addr) (sLen sCap : Nat) (cur : Array Value) (t : TypeId) (cs : List Value)
    (hu : P.underlying dT = some (.slice elem)) (hs : (P.info? elem).map (·.size) = some size) (hg : w.heap[g]? = some (.cells cur t (0, 0))) (hn : cs.length = Nat.min sLen dLen * size)
    (hsrc : ∀ j v, cs[j]? = some v → w.cell? (a.add j) = some v) (hfit : o + cs.length ≤ cur.size) (h1 : ∀ v ∈ cs, v.oneCell' = true) :
    (Builtin.copy_ #[dT, sT] ty #[.slice (some ⟨g, o, none⟩) dLen dCap, .slice (some a) sLen sCap]).run P w =
      .ok (goInt (Nat.min sLen dLen)) (w.setRow g (cur.toList.take o ++ cs ++ cur.toList.drop (o + cs.length)).toArray) := by
  have hl := run_loadCells_list (P := P) w a cs hsrc
  have hst := run_storeCells_at P g o t cs 0 cur w hg (by simpa using hfit) h1
  cases hq : P.info? elem with
  | none => simp [hq] at hs
  | some i =>
    have hi : i.size = size := by simpa [hq] using hs
    rw [hn] at hl
    simp only [Nat.add_zero] at hst
    simp [Builtin.copy_, run_underlying hu, Builtin.lenOf, Builtin.firstCells, sizeOf, typeInfo, hq, hi, hl, hst]
theorem wp_copy_runB (w : World) {o : Oper} {a : Act} {K : Act → World → Prop} {Q : Exit → Act → World → Prop} (d s : Operand) (t t' : TypeId)
    (ho : o.op = .call { callee := .builtin .copy, args := #[d, s], argTypes := #[t, t'] }) (v u : Value) (hd : a.eval d = v) (hs : a.eval s = u) {v' : Value} {w' : World}
    (hr : (Builtin.copy_ #[t, t'] o.type #[v, u]).run P w = .ok v' w') (h : K (a.put o.dst v') w') : o.wp P a w K Q := by
  unfold Oper.wp execOp
  simp only [ho, resolve, invoke, builtin, Sem.run_bind, Sem.run_pure, Result.andThen_ok, List.map_toArray, List.map_cons, List.map_nil, hd, hs, hr]
  exact h
theorem step_copy_runB {ops : Array Oper} {o : Oper} {a : Act} {w : World} {K : Act → World → Prop} {Q : Exit → Act → World → Prop} {E : Prop}
    (hg : o.guard = none) (d x : Operand) (dT sT : TypeId) (hop : o.op = Op.call { callee := Callee.builtin Builtin.copy, args := #[d, x], argTypes := #[dT, sT] })
    (v u : Value) (hd : a.eval d = v) (hx : a.eval x = u) {v' : Value} {w' : World} (hr : (Builtin.copy_ #[dT, sT] o.type #[v, u]).run P w = .ok v' w') (hK : K (a.put o.dst v') w') :
    if Region.wanted o (yielded ops a.tmps) = true then Oper.wp P o a w K Q else E := by
  have hw : Region.wanted o (yielded ops a.tmps) = true := by simp [Region.wanted, hg]
  rw [if_pos hw]
  exact wp_copy_runB w d x dT sT hop v u hd hx hr hK
end

def entCells (e : ByteArray × Nat) : List Value := [.string e.1, .int .i64 (e.2 : Int)]
theorem info_entry : (Tryz.prog.info? 92).map (fun i => (i.zero, i.size, i.bytes)) = some (some (.agg #[.string ByteArray.empty, .int .i64 0]), 2, 24) := by kernel_rfl
theorem ent_take {E : List (ByteArray × Nat)} : ∀ (k : Nat), (E.take k).flatMap entCells = (E.flatMap entCells).take (k * 2) := by
  induction E with
  | nil => intro k; simp
  | cons e E ih =>
    intro k
    cases k with
    | zero => simp
    | succ k =>
      rw [List.take_succ_cons, List.flatMap_cons, List.flatMap_cons, ih k, show (k + 1) * 2 = (entCells e).length + k * 2 from by simp [entCells]; omega, List.take_length_add_append]
theorem ent_drop {E : List (ByteArray × Nat)} : ∀ (k : Nat), (E.drop k).flatMap entCells = (E.flatMap entCells).drop (k * 2) := by
  induction E with
  | nil => intro k; simp
  | cons e E ih =>
    intro k
    cases k with
    | zero => simp
    | succ k =>
      rw [List.drop_succ_cons, List.flatMap_cons, ih k, show (k + 1) * 2 = (entCells e).length + k * 2 from by simp [entCells]; omega, List.drop_length_add_append]
theorem entCells_one {E : List (ByteArray × Nat)} {v : Value} (h : v ∈ E.flatMap entCells) : v.oneCell' = true := by
  obtain ⟨e, _, h⟩ := List.mem_flatMap.1 h
  simp only [entCells, List.mem_cons, List.not_mem_nil, or_false] at h
  rcases h with rfl | rfl <;> rfl

/-- What lies in a new row. -/
theorem put_new {R xs : List Value} {x0 x1 : Value} {n i : Nat} (hx : xs.length = n * 2) (hi : i < n) (hr : R.take (i * 2) = xs.take (i * 2)) (hR : (n + 1) * 2 ≤ R.length) (r1 r2 : List Value)
    (h1 : r1 = R.take (i * 2) ++ [x0, x1] ++ R.drop (i * 2 + 2)) (h2 : r2 = r1.take ((i + 1) * 2) ++ xs.drop (i * 2) ++ r1.drop ((i + 1) * 2 + (xs.drop (i * 2)).length)) :
    r1.length = R.length ∧ r2.length = R.length ∧ r2.take ((n + 1) * 2) = xs.take (i * 2) ++ [x0, x1] ++ xs.drop (i * 2) := by
  have l0 : (xs.take (i * 2)).length = i * 2 := by rw [List.length_take]; omega
  have l1 : r1.length = R.length := by
    rw [h1, hr]
    simp only [List.length_append, List.length_drop, List.length_cons, List.length_nil, l0]
    omega
  have ld : (xs.drop (i * 2)).length = (n - i) * 2 := by rw [List.length_drop]; omega
  have e1 : r1.take ((i + 1) * 2) = xs.take (i * 2) ++ [x0, x1] := by
    rw [h1, hr, List.take_append_of_le_length (by simp only [List.length_append, l0, List.length_cons, List.length_nil]; omega), List.take_of_length_le (by simp only [List.length_append, l0, List.length_cons, List.length_nil]; omega)]
  refine ⟨l1, ?_, ?_⟩
  · rw [h2, e1]
    simp only [List.length_append, List.length_drop, List.length_cons, List.length_nil, l0, l1]
    omega
  · rw [h2, e1, List.take_append_of_le_length (by simp only [List.length_append, l0, ld, List.length_cons, List.length_nil]; omega), List.take_of_length_le (by simp only [List.length_append, l0, ld, List.length_cons, List.length_nil]; omega)]
/-- What lies in a row that is moved up in place. -/
theorem put_shift {R xs : List Value} {x0 x1 : Value} {n i : Nat} (hx : xs.length = n * 2) (hi : i < n) (hr : R.take (n * 2) = xs) (hR : (n + 1) * 2 ≤ R.length) (r1 r2 : List Value)
    (h1 : r1 = R.take ((i + 1) * 2) ++ xs.drop (i * 2) ++ R.drop ((i + 1) * 2 + (xs.drop (i * 2)).length)) (h2 : r2 = r1.take (i * 2) ++ [x0, x1] ++ r1.drop (i * 2 + 2)) :
    r1.length = R.length ∧ r2.length = R.length ∧ r2.take ((n + 1) * 2) = xs.take (i * 2) ++ [x0, x1] ++ xs.drop (i * 2) := by
  have ld : (xs.drop (i * 2)).length = (n - i) * 2 := by rw [List.length_drop]; omega
  have l0 : (R.take ((i + 1) * 2)).length = (i + 1) * 2 := by rw [List.length_take]; omega
  have l1 : r1.length = R.length := by
    rw [h1]
    simp only [List.length_append, List.length_drop, l0, hx]
    omega
  have e1 : r1.take (i * 2) = xs.take (i * 2) := by
    rw [h1, List.append_assoc, List.take_append_of_le_length (by rw [l0]; omega), List.take_take, ← hr, List.take_take]
    congr 1
    omega
  have e2 : r1.drop (i * 2 + 2) = xs.drop (i * 2) ++ R.drop ((i + 1) * 2 + (xs.drop (i * 2)).length) := by
    rw [h1, List.append_assoc, List.drop_append_of_le_length (by rw [l0]; omega), List.drop_of_length_le (by rw [l0]; omega), List.nil_append]
  refine ⟨l1, ?_, ?_⟩
  · rw [h2]
    simp only [List.length_append, List.length_drop, List.length_take, List.length_cons, List.length_nil, l1]
    omega
  · have l2 : (xs.take (i * 2)).length = i * 2 := by rw [List.length_take]; omega
    rw [h2, e1, e2, ← List.append_assoc, List.take_append_of_le_length (by simp only [List.length_append, l2, ld, List.length_cons, List.length_nil]; omega), List.take_of_length_le (by simp only [List.length_append, l2, ld, List.length_cons, List.length_nil]; omega)]

set_option maxRecDepth 100000 in
set_option maxHeartbeats 4000000 in
theorem Insert_calls (E : List (ByteArray × Nat)) (e : ByteArray × Nat) (v : Value) (i base vb : Nat) (w : World) (h : w.ownsRow base 92 2 v E.length (E.flatMap entCells)) (hi : i ≤ E.length) (hlen : E.length ≤ 100000) (hbase : base ≤ w.heap.size)
    (hvb : w.heap[vb]? = some (.cells #[.string e.1, .int .i64 (e.2 : Int)] 92 (0, 0))) (hne : v.ownBlock ≠ some vb) (R : Ending → World → Prop)
    (hR : ∀ w' v', Grew (fun k => v.ownBlock = some k) w w' → w'.ownsRow base 92 2 v' (E.length + 1) ((E.take i ++ e :: E.drop i).flatMap entCells) → R (.returned v') w') :
    Calls Tryz.prog 62 #[v, .int .i64 (i : Int), .slice (some ⟨vb, 0, none⟩) 1 1] w R := by
  obtain ⟨iE, hiE, zE0, zE1, zE2⟩ := info_parts info_entry
  have hsize : (Tryz.prog.info? 92).map (·.size) = some 2 := by rw [hiE]; simp [zE1]
  obtain ⟨n, hn⟩ : ∃ n, n = E.length := ⟨_, rfl⟩
  obtain ⟨xs, hxs⟩ : ∃ xs, xs = E.flatMap entCells := ⟨_, rfl⟩
  have hxl : xs.length = n * 2 := by rw [hxs, hn]; exact flat_length entCells 2 (fun _ => rfl) E
  have hnew : (E.take i ++ e :: E.drop i).flatMap entCells = xs.take (i * 2) ++ [Value.string e.1, .int .i64 (e.2 : Int)] ++ xs.drop (i * 2) := by
    rw [List.flatMap_append, List.flatMap_cons, ent_take, ent_drop, hxs]
    simp [entCells]
  have hx1 : ∀ v ∈ xs, v.oneCell' = true := fun v hv => entCells_one (by rw [← hxs]; exact hv)
  rw [hnew] at hR
  rw [← hn, ← hxs] at h
  rw [← hn] at hR hi hlen
  obtain ⟨A, cap, rfl⟩ := own_slice h
  have HR := Lib.hid hR
  have H := Lib.hid h
  have HV := Lib.hid hvb
  have HX := Lib.hid hx1
  have HXl := Lib.hid hxl
  have hvl := blk_lt hvb
  clear hR hxs hnew hn
  have hcase : (A = none ∧ n = 0 ∧ cap = 0) ∨ ∃ g cur, A = some ⟨g, 0, none⟩ ∧ base ≤ g ∧ w.heap[g]? = some (.cells cur 92 (0, 0)) ∧ n ≤ cap ∧ cap ≤ maxLen ∧ cur.size = cap * 2 ∧ cur.toList.take (n * 2) = xs := by
    obtain ⟨_, h⟩ := h
    rcases h with ⟨e, h0⟩ | ⟨g, cp, cur, e, h1, h2, h3, h4, h5, h6⟩
    · injection e with e1 e2 e3
      exact .inl ⟨e1, h0, e3⟩
    · injection e with e1 e2 e3
      subst e3
      exact .inr ⟨g, cur, e1, h1, h2, h3, h4, h5, h6⟩
  have i0 : (0 : Int) ≤ (i : Int) := Int.natCast_nonneg _
  by_cases hin : i = n
  · -- at the end
    subst hin
    have hto : xs.take (i * 2) ++ [Value.string e.1, .int .i64 (e.2 : Int)] ++ xs.drop (i * 2) = xs ++ [Value.string e.1, .int .i64 (e.2 : Int)] := by
      rw [← hxl, List.take_length, List.drop_length, List.append_nil]
    have Hto := Lib.hid hto
    have i1 : (i : Int) ≤ (cap : Int) := by rcases hcase with ⟨_, h1, h2⟩ | ⟨g, cur, _, _, _, h1, _⟩ <;> omega
    have i2 : i ≤ cap := by omega
    rcases hcase with ⟨rfl, h1, rfl⟩ | ⟨g, cur, rfl, hbg, hg, hnc, hcm, hcs, htk⟩
    · subst h1
      clear hto h hxl
      go_enter Tryz.func62, Tryz.ntmps62
      go_wp2_with (at_builtin; refine wpList_append_lies _ rfl _ _ 86 rfl base 92 iE _ 2 24 Tryz.underlying86 hiE zE0 zE1 zE2 rfl (by decide) (.slice none 0 0) 0 xs rfl H.out ⟨vb, 0, none⟩ 1 1 [.string e.1, .int .i64 (e.2 : Int)] rfl rfl ?_ ?_ (by decide) ?_ ?_ hbase _ rfl ?_)
      · exact World.news_of_block HV.out
      · simp [Value.oneCell']
      · unfold maxLen; omega
      · omega
      · intro gb cp w3 hown3 hgrow3 hat3 hlt3
        have hr := HR.out w3 (.slice (some ⟨gb, 0, none⟩) (0 + 1) cp) (Grew.of_grown hgrow3 |>.more fun j _ e => e.symm ▸ rfl) (by rw [Hto.out]; exact hown3)
        have Hr := Lib.hid hr
        clear hr hown3 hgrow3 hat3
        go_wp2
        exact Hr.out
    · have hgl := blk_lt hg
      have cc : (cap : Int) ≤ 9223372036854775807 := by unfold maxLen at hcm; omega
      clear hto h hxl hg htk
      by_cases hci : cap = i
      · have hci' : (cap : Int) = (i : Int) := by omega
        go_enter Tryz.func62, Tryz.ntmps62
        go_wp2_with (at_builtin; refine wpList_append_lies _ rfl _ _ 86 rfl base 92 iE _ 2 24 Tryz.underlying86 hiE zE0 zE1 zE2 rfl (by decide) (.slice (some ⟨g, 0, none⟩) i cap) i xs rfl H.out ⟨vb, 0, none⟩ 1 1 [.string e.1, .int .i64 (e.2 : Int)] rfl rfl ?_ ?_ (by decide) ?_ ?_ hbase _ rfl ?_)
        · exact World.news_of_block HV.out
        · simp [Value.oneCell']
        · unfold maxLen; omega
        · omega
        · intro gb cp w3 hown3 hgrow3 hat3 hlt3
          have hr := HR.out w3 (.slice (some ⟨gb, 0, none⟩) (i + 1) cp) (Grew.of_grown hgrow3 |>.more fun j _ e => e.symm ▸ rfl) (by rw [Hto.out]; exact hown3)
          have Hr := Lib.hid hr
          clear hr hown3 hgrow3 hat3
          go_wp2
          exact Hr.out
      · have hci' : ¬ (cap : Int) = (i : Int) := by omega
        go_enter Tryz.func62, Tryz.ntmps62
        go_wp2_with (at_builtin; refine wpList_append_lies _ rfl _ _ 86 rfl base 92 iE _ 2 24 Tryz.underlying86 hiE zE0 zE1 zE2 rfl (by decide) (.slice (some ⟨g, 0, none⟩) i cap) i xs rfl H.out ⟨vb, 0, none⟩ 1 1 [.string e.1, .int .i64 (e.2 : Int)] rfl rfl ?_ ?_ (by decide) ?_ ?_ hbase _ rfl ?_)
        · exact World.news_of_block HV.out
        · simp [Value.oneCell']
        · unfold maxLen; omega
        · omega
        · intro gb cp w3 hown3 hgrow3 hat3 hlt3
          have hr := HR.out w3 (.slice (some ⟨gb, 0, none⟩) (i + 1) cp) (Grew.of_grown hgrow3 |>.more fun j _ e => e.symm ▸ rfl) (by rw [Hto.out]; exact hown3)
          have Hr := Lib.hid hr
          clear hr hown3 hgrow3 hat3
          go_wp2
          exact Hr.out
  · have hin' : i < n := by omega
    obtain ⟨g, cur, rfl, hbg, hg, hnc, hcm, hcs, htk⟩ := hcase.resolve_left (by rintro ⟨_, h0, _⟩; omega)
    have hgl := blk_lt hg
    have cc : (cap : Int) ≤ 9223372036854775807 := by unfold maxLen at hcm; omega
    have hxget : ∀ j u, xs[j]? = some u → w.cell? ⟨g, j, none⟩ = some u := fun j u hj => by
      rw [← htk, List.getElem?_take] at hj
      split at hj
      · simp only [World.cell?, hg]
        simpa using hj
      · cases hj
    have hvget := World.news_of_block hvb
    have hz2 : ¬ ((i : Int) = (n : Int)) := by omega
    have w1 : IntKind.i64.wrap ((n : Int) + 1) = (n : Int) + 1 := IntWalk.i64_in _ (by omega)
    have w2 : IntKind.i64.wrap ((i : Int) + 1) = (i : Int) + 1 := IntWalk.i64_in _ (by omega)
    have w3 : IntKind.i64.wrap ((n : Int) + 1 - (i : Int)) = (n : Int) + 1 - (i : Int) := IntWalk.i64_in _ (by omega)
    have htn : ((i : Int) + 1).toNat = i + 1 := by omega
    have htn2 : ((n : Int) + 1).toNat = n + 1 := by omega
    have b1 : (0 : Int) ≤ (i : Int) + 1 := by omega
    have b2 : (i : Int) ≤ (n : Int) := by omega
    have b3 : (i : Int) ≤ (cap : Int) := by omega
    have b4 : (i : Int) ≤ (n : Int) + 1 := by omega
    have b5 : (0 : Int) ≤ (n : Int) + 1 := by omega
    have hlx : (xs.drop (i * 2)).length = (n - i) * 2 := by rw [List.length_drop]; omega
    by_cases hroom : n + 1 ≤ cap
    · -- in place
      have hz3 : ¬ ((cap : Int) < (n : Int) + 1) := by omega
      have hci : ¬ (cap = i) := by omega
      have b6 : (n : Int) + 1 ≤ (cap : Int) := by omega
      have b7 : ¬ (cap = i + 1) := by omega
      have hvg : vb ≠ g := fun e' => hne (by rw [e']; rfl)
      have hov : ∀ lb cb, (callFunc 89 #[.slice (some ⟨vb, 0, none⟩) 1 1, .slice (some ⟨g, (i + 1) * 2, none⟩) lb cb]).run Tryz.prog w = .ok (.value (.bool false)) w := fun lb cb => by
        rw [run_callFunc_extern Tryz.func89 (by kernel_rfl) (by kernel_rfl) (by kernel_rfl) (e := Extern.SlicesOverlaps.overlaps #[86, 86] #[4]) (by kernel_rfl),
          Lib.run_overlaps_apart w 86 4 92 Tryz.underlying86 2 (fun _ => by kernel_rfl) ⟨vb, 0, none⟩ ⟨g, (i + 1) * 2, none⟩ 1 1 lb cb hvg 92 92 2 cur.size (by simp [World.shape?, hvb]) (by simp [World.shape?, hg]) (by omega) (by simp [World.frozen?, hvb]) (by simp [World.frozen?, hvb])]
        rfl
      obtain ⟨r1, hr1⟩ : ∃ r1, r1 = cur.toList.take ((i + 1) * 2) ++ xs.drop (i * 2) ++ cur.toList.drop ((i + 1) * 2 + (xs.drop (i * 2)).length) := ⟨_, rfl⟩
      obtain ⟨r2, hr2⟩ : ∃ r2, r2 = r1.take (i * 2) ++ [Value.string e.1, .int .i64 (e.2 : Int)] ++ r1.drop (i * 2 + 2) := ⟨_, rfl⟩
      have hcl : cur.toList.length = cap * 2 := by rw [Array.length_toList]; exact hcs
      obtain ⟨l1, l2, hfin⟩ := put_shift hxl hin' htk (by rw [hcl]; omega) r1 r2 hr1 hr2
      have hcp1 : ∀ W : World, W.heap[g]? = w.heap[g]? → ∀ ty dc sc, (Builtin.copy_ #[86, 86] ty #[.slice (some ⟨g, (i + 1) * 2, none⟩) (n - i) dc, .slice (some ⟨g, i * 2, none⟩) (n + 1 - i) sc]).run Tryz.prog W = .ok (goInt (Nat.min (n + 1 - i) (n - i))) (W.setRow g r1.toArray) := fun W hW ty dc sc => by
        have := run_copy_rows (P := Tryz.prog) W 86 86 ty 92 2 g ((i + 1) * 2) (n - i) dc ⟨g, i * 2, none⟩ (n + 1 - i) sc cur 92 (xs.drop (i * 2)) Tryz.underlying86 hsize (hW.trans hg) (by rw [hlx]; simp only [Nat.min_def]; split <;> omega) (fun j u hj => by
          rw [Addr.add_lit]
          rw [List.getElem?_drop] at hj
          exact (World.cell?_of_block (a := ⟨g, i * 2 + j, none⟩) hW).trans (hxget _ _ hj)) (by rw [hlx]; omega) (fun u hu => hx1 u (List.mem_of_mem_drop hu))
        rw [this, hr1]
      have hcp2 : ∀ W : World, W.heap[g]? = some (.cells r1.toArray 92 (0, 0)) → W.heap[vb]? = w.heap[vb]? → ∀ ty dc, (Builtin.copy_ #[86, 86] ty #[.slice (some ⟨g, i * 2, none⟩) (n + 1 - i) dc, .slice (some ⟨vb, 0, none⟩) 1 1]).run Tryz.prog W = .ok (goInt (Nat.min 1 (n + 1 - i))) (W.setRow g r2.toArray) := fun W hW hWv ty dc => by
        have := run_copy_rows (P := Tryz.prog) W 86 86 ty 92 2 g (i * 2) (n + 1 - i) dc ⟨vb, 0, none⟩ 1 1 r1.toArray 92 [Value.string e.1, .int .i64 (e.2 : Int)] Tryz.underlying86 hsize hW (by simp only [Nat.min_def, List.length_cons, List.length_nil]; split <;> omega) (World.news_of_block (hWv.trans hvb)) (by simp only [List.size_toArray, l1, hcl, List.length_cons, List.length_nil]; omega) (fun u hu => by
          simp only [List.mem_cons, List.not_mem_nil, or_false] at hu
          rcases hu with rfl | rfl <;> rfl)
        rw [this, hr2]
        rfl
      have hgr : ∀ W : World, W.os = w.os → W.tape = w.tape → W.output = w.output → W.heap.size = w.heap.size → (∀ k, k ≠ g → W.heap[k]? = w.heap[k]?) → W.heap[g]? = some (.cells r2.toArray 92 (0, 0)) → R (.returned (.slice (some ⟨g, 0, none⟩) (n + 1) cap)) W := fun W h1 h2 h3 h4 h5 h6 => by
        refine HR.out W _ ⟨h1, h2, h3, by omega, fun k hk hx => h5 k fun e' => hx (by rw [e']; rfl)⟩ ⟨?_, .inr ⟨g, cap, r2.toArray, rfl, hbg, h6, hroom, hcm, by simp only [List.size_toArray, l2, hcl], hfin⟩⟩
        simp only [List.length_append, List.length_cons, List.length_nil, List.length_take, List.length_drop]
        omega
      have HCp1 := Lib.hid hcp1
      have HCp2 := Lib.hid hcp2
      have Hgr := Lib.hid hgr
      have Hg := Lib.hid hg
      clear hcp1 hcp2 hgr hr1 hr2 hfin htk hxget hvget hlx hx1 h hg hxl
      go_enter Tryz.func62, Tryz.ntmps62
      go_wp2_with (simp only [hov])
      go_region_held3 (fun _ : World => True) (exact trivial) (refine step_copy_runB rfl _ _ 86 86 rfl (.slice (some ⟨g, (i + 1) * 2, none⟩) (n - i) (cap - (i + 1))) (.slice (some ⟨g, i * 2, none⟩) (n + 1 - i) (cap - i)) (by simp [Act.eval, Act.put]) (by simp [Act.eval, Act.put]) (HCp1.out w.drew rfl 3 (cap - (i + 1)) (cap - i)) ?_)
      all_goals
        have hE : (w.drew.setRow g r1.toArray).heap[g]? = some (.cells r1.toArray 92 (0, 0)) := setRow_heap w.drew g cur _ _ _ Hg.out
        have HE := Lib.hid hE
        have hk2 := Lib.hid (HCp2.out _ hE (setRow_other w.drew g vb r1.toArray hvg) 3 (cap - i))
        clear hE
        go_wp2_with (simp only [hk2.out])
        refine Hgr.out ((w.drew.setRow g r1.toArray).setRow g r2.toArray) ?_ ?_ ?_ ?_ (fun k hk => ?_) (setRow_heap _ g _ _ _ _ HE.out)
        · rfl
        · rfl
        · rfl
        · rw [size_setRow, size_setRow]
          rfl
        · rw [setRow_other _ g k _ hk, setRow_other _ g k _ hk]
          rfl
    · -- a new row
      have hz3 : (cap : Int) < (n : Int) + 1 := by omega
      have hci : ¬ (cap = i) := by omega
      have hkk : (n : Int) + 1 - (i : Int) = ((n + 1 - i : Nat) : Int) := by omega
      have hik : i + (n + 1 - i) = n + 1 := by omega
      have hold : (Builtin.firstCells iE.size i (.slice (some ⟨g, 0, none⟩) i cap)).run Tryz.prog w.drew = .ok (xs.take (i * 2)).toArray w.drew := by
        rw [zE1]
        exact run_firstCells_some (P := Tryz.prog) (w := w.drew) 2 i ⟨g, 0, none⟩ i cap (xs.take (i * 2)) (by rw [List.length_take]; omega) (fun j u hj => by
          rw [List.getElem?_take] at hj
          split at hj
          · rw [Addr.add_lit, Nat.zero_add]
            exact hxget j u hj
          · cases hj)
      obtain ⟨G, hG⟩ : ∃ G, G = grownCap w (n + 1) cap 92 := ⟨_, rfl⟩
      obtain ⟨ROW, hROW⟩ : ∃ ROW : Array Value, ROW = (xs.take (i * 2)).toArray ++ Builtin.zeroCells (Value.agg #[.string ByteArray.empty, .int .i64 0]).cells (n + 1 - i) ++ Builtin.zeroCells (Value.agg #[.string ByteArray.empty, .int .i64 0]).cells (G - (n + 1)) := ⟨_, rfl⟩
      have hrz : ∀ ty, (Builtin.append_ #[86, 3] ty #[.slice (some ⟨g, 0, none⟩) i cap, .int .i64 ((n + 1 - i : Nat) : Int)]).run Tryz.prog w =
          .ok (.slice (some ⟨w.heap.size, 0, none⟩) (n + 1) G) (w.drew.alloc (.cells ROW 92)) := fun ty => by
        have h := Lib.run_append_grow_zeros (P := Tryz.prog) w 86 3 ty 92 iE _ .i64 .i64 Tryz.underlying86 Tryz.underlying3 hiE zE0 (some ⟨g, 0, none⟩) i cap (xs.take (i * 2)) hold (n + 1 - i) (by omega) (by omega) (by omega) (by omega) (by rw [zE2]; omega) (by rw [zE2, hik]; exact growslice_fits (by omega) (by omega))
        rw [hik] at h
        rw [hROW, hG]
        exact h
      have hGn : n + 1 ≤ G := by rw [hG]; exact grownCap_ge w _ _ _
      have hGm : G ≤ maxLen := by rw [hG]; exact grownCap_le_maxLen w (n + 1) cap _ (by unfold maxLen; omega)
      have hRs : ROW.size = G * 2 := by
        rw [hROW]
        simp [Builtin.zeroCells, Value.cells]
        omega
      have hRt : ROW.toList.take (i * 2) = xs.take (i * 2) := by
        rw [hROW]
        simp only [Array.toList_append, List.append_assoc]
        rw [List.take_append_of_le_length (by rw [List.length_take]; omega), List.take_take, Nat.min_self]
      obtain ⟨r1, hr1⟩ : ∃ r1, r1 = ROW.toList.take (i * 2) ++ [Value.string e.1, .int .i64 (e.2 : Int)] ++ ROW.toList.drop (i * 2 + 2) := ⟨_, rfl⟩
      obtain ⟨r2, hr2⟩ : ∃ r2, r2 = r1.take ((i + 1) * 2) ++ xs.drop (i * 2) ++ r1.drop ((i + 1) * 2 + (xs.drop (i * 2)).length) := ⟨_, rfl⟩
      have hRl : ROW.toList.length = G * 2 := by rw [Array.length_toList]; exact hRs
      obtain ⟨l1, l2, hfin⟩ := put_new hxl hin' hRt (by rw [hRl]; omega) r1 r2 hr1 hr2
      obtain ⟨N, hN⟩ : ∃ N, N = w.heap.size := ⟨_, rfl⟩
      have hcp1 : ∀ W : World, W.heap[N]? = some (.cells ROW 92 (0, 0)) → W.heap[vb]? = w.heap[vb]? → ∀ ty dc, (Builtin.copy_ #[86, 86] ty #[.slice (some ⟨N, i * 2, none⟩) (n + 1 - i) dc, .slice (some ⟨vb, 0, none⟩) 1 1]).run Tryz.prog W = .ok (goInt (Nat.min 1 (n + 1 - i))) (W.setRow N r1.toArray) := fun W hW hWv ty dc => by
        have := run_copy_rows (P := Tryz.prog) W 86 86 ty 92 2 N (i * 2) (n + 1 - i) dc ⟨vb, 0, none⟩ 1 1 ROW 92 [Value.string e.1, .int .i64 (e.2 : Int)] Tryz.underlying86 hsize hW (by simp only [Nat.min_def, List.length_cons, List.length_nil]; split <;> omega) (World.news_of_block (hWv.trans hvb)) (by simp only [hRs, List.length_cons, List.length_nil]; omega) (fun u hu => by
          simp only [List.mem_cons, List.not_mem_nil, or_false] at hu
          rcases hu with rfl | rfl <;> rfl)
        rw [this, hr1]
        rfl
      have hcp2 : ∀ W : World, W.heap[N]? = some (.cells r1.toArray 92 (0, 0)) → W.heap[g]? = w.heap[g]? → ∀ ty dc sc, (Builtin.copy_ #[86, 86] ty #[.slice (some ⟨N, (i + 1) * 2, none⟩) (n - i) dc, .slice (some ⟨g, i * 2, none⟩) (n - i) sc]).run Tryz.prog W = .ok (goInt (Nat.min (n - i) (n - i))) (W.setRow N r2.toArray) := fun W hW hWg ty dc sc => by
        have := run_copy_rows (P := Tryz.prog) W 86 86 ty 92 2 N ((i + 1) * 2) (n - i) dc ⟨g, i * 2, none⟩ (n - i) sc r1.toArray 92 (xs.drop (i * 2)) Tryz.underlying86 hsize hW (by rw [hlx]; simp only [Nat.min_def]; split <;> omega) (fun j u hj => by
          rw [Addr.add_lit]
          rw [List.getElem?_drop] at hj
          exact (World.cell?_of_block (a := ⟨g, i * 2 + j, none⟩) hWg).trans (hxget _ _ hj)) (by rw [hlx]; simp only [List.size_toArray, l1, hRl]; omega) (fun u hu => hx1 u (List.mem_of_mem_drop hu))
        rw [this, hr2]
      have hgr : ∀ W : World, Below w.heap.size w W → W.heap[N]? = some (.cells r2.toArray 92 (0, 0)) → R (.returned (.slice (some ⟨N, 0, none⟩) (n + 1) G)) W := fun W hb h6 => by
        refine HR.out W _ (Grew.of_below hb fun k h1 h2 => by omega) ⟨?_, .inr ⟨N, G, r2.toArray, rfl, by omega, h6, hGn, hGm, by simp only [List.size_toArray, l2, hRl], hfin⟩⟩
        simp only [List.length_append, List.length_cons, List.length_nil, List.length_take, List.length_drop]
        omega
      rw [← hN] at hrz
      have hGN : g ≠ N := by omega
      have hVN : vb ≠ N := by omega
      have hgi : ¬ (G = i) := by omega
      have hgi' : ¬ (G = i + 1) := by omega
      have HCp1 := Lib.hid hcp1
      have HCp2 := Lib.hid hcp2
      have Hgr := Lib.hid hgr
      have Hg := Lib.hid hg
      have HN := Lib.hid hN
      have b8 : (i : Int) + 1 ≤ (n : Int) + 1 := by omega
      have b9 : (n : Int) + 1 ≤ (G : Int) := by omega
      have ga : (G : Int) ≤ 9223372036854775807 := by unfold maxLen at hGm; omega
      clear hcp1 hcp2 hgr hr1 hr2 hfin htk hxget hvget hlx hx1 h hg hxl hROW hG hold hRt hRl hRs l1 l2 hN
      go_enter Tryz.func62, Tryz.ntmps62
      have hA1 : ((w.alloc (.cells ROW 92)).drew).heap[N]? = some (.cells ROW 92 (0, 0)) := by
        rw [HN.out]
        exact heap_alloc_new w _
      have hA2 : ((w.alloc (.cells ROW 92)).drew).heap[vb]? = w.heap[vb]? := Below.heap_alloc _ _ _ hvl
      have hA3 : ((w.alloc (.cells ROW 92)).drew).heap[g]? = w.heap[g]? := Below.heap_alloc _ _ _ hgl
      have hB1 := setRow_heap ((w.alloc (.cells ROW 92)).drew) N ROW r1.toArray _ _ hA1
      have hB3 := (setRow_other ((w.alloc (.cells ROW 92)).drew) N g r1.toArray hGN).trans hA3
      have hk1 := Lib.hid (HCp1.out _ hA1 hA2 3 (G - i))
      have HA1 := Lib.hid hA1
      have HA2 := Lib.hid hA2
      have HB1 := Lib.hid hB1
      have HB3 := Lib.hid hB3
      clear hA1 hA2 hA3 hB1 hB3
      go_wp2_with (first
        | (at_builtin; refine Lib.wpList_append_run _ rfl _ _ _ _ rfl _ _ rfl rfl _ _ (hrz _) ?_)
        | (simp only [hk1.out]))
      go_region_held3 (fun _ : World => True) (exact trivial) (refine step_copy_runB rfl _ _ 86 86 rfl (.slice (some ⟨N, (i + 1) * 2, none⟩) (n - i) (G - (i + 1))) (.slice (some ⟨g, i * 2, none⟩) (n - i) (cap - i)) (by simp [Act.eval, Act.put]) (by simp [Act.eval, Act.put]) (HCp2.out (((w.alloc (.cells ROW 92)).drew.setRow N r1.toArray).drew) HB1.out HB3.out 3 (G - (i + 1)) (cap - i)) ?_)
      all_goals
        have hC := setRow_heap (((w.alloc (.cells ROW 92)).drew.setRow N r1.toArray).drew) N _ r2.toArray _ _ HB1.out
        have HC := Lib.hid hC
        clear hC
        go_wp2
        refine Hgr.out (((w.alloc (.cells ROW 92)).drew.setRow N r1.toArray).drew.setRow N r2.toArray) ?_ HC.out
        refine below_setRow (Below.drew (below_setRow (Below.drew ?_) (Nat.le_of_eq HN.out.symm) _)) (Nat.le_of_eq HN.out.symm) _
        exact (Below.refl _ _).alloc (Nat.le_refl _) _
end Go.Proofs.YtcakodemngchpaaGreatDoor

/- The index of a bundle: how names are compared, where one is found. -/
namespace Go.Proofs.YtcakodemngchpaaGreatDoor
open Go.RowKit
set_option linter.unusedSimpArgs false
set_option linter.unusedVariables false

def cmpB (a b : ByteArray) : Int := if ltB a b = true then -1 else if a = b then 0 else 1
theorem ltB_less (a b : ByteArray) : Go.Op.bytesLess a.toList b.toList = ltB a b := by
  unfold ltB ltL
  rw [ByteArray.toList_eq, ByteArray.toList_eq]
theorem cmpB_lt {a b : ByteArray} : cmpB a b < 0 ↔ ltB a b = true := by
  unfold cmpB
  by_cases h : ltB a b = true
  · rw [if_pos h]; simp [h]
  · rw [if_neg h]
    split <;> simp [h]
theorem cmpB_zero {a b : ByteArray} : cmpB a b = 0 ↔ a = b := by
  unfold cmpB
  by_cases h : ltB a b = true
  · rw [if_pos h]
    constructor
    · intro e; simp at e
    · intro e; subst e; rw [ltB_irr] at h; cases h
  · rw [if_neg h]
    split <;> simp_all

theorem isNaN_calls (a : ByteArray) (w : World) (R : Ending → World → Prop) (hR : R (.returned (.bool false)) w) : Calls Tryz.prog 88 #[.string a] w R := by
  have HR := Lib.hid hR
  clear hR
  have he : (a.toList == a.toList) = true := by simp
  go_enter Tryz.func88, Tryz.ntmps88
  go_wp2
  exact HR.out
theorem Compare_calls (a b : ByteArray) (w : World) (R : Ending → World → Prop) (hR : R (.returned (.int .i64 (cmpB a b))) w) : Calls Tryz.prog 61 #[.string a, .string b] w R := by
  unfold cmpB at hR
  have hl := ltB_less a b
  have he := name_eq a b
  by_cases h1 : ltB a b = true
  · rw [if_pos h1] at hR
    rw [h1] at hl
    have HR := Lib.hid hR
    clear hR he
    go_enter Tryz.func61, Tryz.ntmps61
    go_wp2_with fail
    refine isNaN_calls a _ _ ?_
    go_wp2_with fail
    refine isNaN_calls b _ _ ?_
    go_wp2
    exact HR.out
  · rw [if_neg h1] at hR
    rw [Bool.not_eq_true] at h1
    rw [h1] at hl
    by_cases h2 : a = b
    · rw [if_pos h2] at hR
      rw [decide_eq_true h2] at he
      have HR := Lib.hid hR
      clear hR h2
      go_enter Tryz.func61, Tryz.ntmps61
      go_wp2_with fail
      refine isNaN_calls a _ _ ?_
      go_wp2_with fail
      refine isNaN_calls b _ _ ?_
      go_wp2
      exact HR.out
    · rw [if_neg h2] at hR
      rw [decide_eq_false h2] at he
      have HR := Lib.hid hR
      clear hR h2
      go_enter Tryz.func61, Tryz.ntmps61
      go_wp2_with fail
      refine isNaN_calls a _ _ ?_
      go_wp2_with fail
      refine isNaN_calls b _ _ ?_
      go_wp2
      exact HR.out
theorem idxCmp_calls (a b : ByteArray) (i : Int) (w : World) (R : Ending → World → Prop) (hR : ∀ w', Below w.heap.size w w' → R (.returned (.int .i64 (cmpB a b))) w') : Calls Tryz.prog 60 #[.agg #[.string a, .int .i64 i], .string b] w R := by
  have HR := Lib.hid hR
  clear hR
  go_enter Tryz.func60, Tryz.ntmps60
  go_wp2_with fail
  refine Compare_calls a b _ _ ?_
  go_wp2
  exact HR.out _ bl0

theorem own_ent {w : World} {base : Nat} {A : Option Addr} {n cap : Nat} {E : List (ByteArray × Nat)} (h : w.ownsRow base 92 2 (.slice A n cap) n (E.flatMap entCells)) {j : Nat} {x : ByteArray × Nat} (hx : E[j]? = some x) :
    ∃ g, A = some ⟨g, 0, none⟩ ∧ base ≤ g ∧ g < w.heap.size ∧ n ≤ cap ∧ w.cell? ⟨g, j * 2, none⟩ = some (.string x.1) ∧ w.cell? ⟨g, j * 2 + 1, none⟩ = some (.int .i64 (x.2 : Int)) := by
  obtain ⟨h1, h2⟩ := h
  rw [flat_length entCells 2 (fun _ => rfl) E] at h1
  have hj := (List.getElem?_eq_some_iff.1 hx).1
  rcases h2 with ⟨h2, h0⟩ | ⟨g, cap', cur, h2, hb, hg, hnc, hcm, hcs, htk⟩
  · omega
  · injection h2 with h3 h4 h5
    subst h5
    refine ⟨g, h3, hb, (Array.getElem?_eq_some_iff.1 hg).1, hnc, ?_, ?_⟩
    · have e := Rp.flat_get entCells 2 (fun _ => rfl) E j 0 x hx (by omega)
      rw [← htk, List.getElem?_take] at e
      split at e
      · simpa [World.cell?, hg, entCells] using e
      · simp [entCells] at e
    · have e := Rp.flat_get entCells 2 (fun _ => rfl) E j 1 x hx (by omega)
      rw [← htk, List.getElem?_take] at e
      split at e
      · simpa [World.cell?, hg, entCells] using e
      · simp [entCells] at e

set_option maxRecDepth 100000 in
set_option maxHeartbeats 4000000 in
/-- slices.BinarySearchFunc over an index that is in order: where the name belongs, and whether it is there. -/
theorem Search_calls (E : List (ByteArray × Nat)) (nm : ByteArray) (v : Value) (base : Nat) (w : World) (h : w.ownsRow base 92 2 v E.length (E.flatMap entCells)) (hs : Sorted (E.map Prod.fst)) (hlen : E.length ≤ 100000) (R : Ending → World → Prop)
    (hR : ∀ w', Below w.heap.size w w' → R (.returned (.tuple #[.int .i64 (posN (E.map Prod.fst) nm : Nat), .bool (inB (E.map Prod.fst) nm)])) w') :
    Calls Tryz.prog 59 #[v, .string nm, .func (.func 60) #[] #[]] w R := by
  obtain ⟨A, cap, rfl⟩ := own_slice h
  have HR := Lib.hid hR
  have H := Lib.hid h
  have Hs := Lib.hid hs
  clear hR hs h
  go_enter Tryz.func59, Tryz.ntmps59
  go_wp2
  go_loopg [9, 10] E.length (fun kx s9 s10 wr => ∃ lo hi : Nat, s9 = .int .i64 lo ∧ s10 = .int .i64 hi ∧ lo ≤ hi ∧ hi ≤ E.length ∧ hi - lo ≤ kx ∧ (∀ t x, t < lo → (E.map Prod.fst)[t]? = some x → ltB x nm = true) ∧ (∀ t x, hi ≤ t → (E.map Prod.fst)[t]? = some x → ltB x nm = false) ∧ Below w.heap.size w wr)
  case atStart => exact ⟨0, E.length, rfl, rfl, Nat.zero_le _, Nat.le_refl _, by omega, fun t x h => absurd h (Nat.not_lt_zero _), fun t x h1 h2 => (by have := (List.getElem?_eq_some_iff.1 h2).1; rw [List.length_map] at this; omega), Below.refl _ _⟩
  case round =>
    obtain ⟨lo, hi, rfl, rfl, hlh, hin, hg, hlo, hhi, hbel⟩ := hrel
    have Hlo := Lib.hid hlo
    have Hhi := Lib.hid hhi
    have Hbel := Lib.hid hbel
    have hz := hbel.size
    by_cases hlt : lo < hi
    · obtain ⟨m, hm⟩ : ∃ m, m = (lo + hi) / 2 := ⟨_, rfl⟩
      have hmE : m < E.length := by omega
      obtain ⟨g, rfl, hbg, hgl, hnc, p0, p1⟩ := own_ent H.out (List.getElem?_eq_getElem hmE)
      have hx : (E.map Prod.fst)[m]? = some E[m].1 := by rw [List.getElem?_map, List.getElem?_eq_getElem hmE]; rfl
      have Hx := Lib.hid hx
      generalize E[m] = x at *
      have r0 := (hbel.cell (p := ⟨g, m * 2, none⟩) hgl).trans p0
      have r1 := (hbel.cell (p := ⟨g, m * 2 + 1, none⟩) hgl).trans p1
      have hmI : ((lo : Int) + (hi : Int)) / 2 = (m : Int) := by omega
      have m1 : (0 : Int) ≤ (m : Int) := Int.natCast_nonneg _
      have m2 : (m : Int) < (E.length : Int) := by omega
      have m3 : lo ≤ m ∧ m < hi := by omega
      have i1 : (lo : Int) < (hi : Int) := by omega
      clear hx hlo hhi hbel p0 p1 hm
      go_wp2_with fail
      refine idxCmp_calls x.1 nm _ _ _ (fun w1 hb1 => ?_)
      have hb2 := Lib.hid (Hbel.out.trans (hb1.mono hz))
      clear hb1
      by_cases hc : cmpB x.1 nm < 0
      · have hst : Hid (∀ t y, t < m + 1 → (E.map Prod.fst)[t]? = some y → ltB y nm = true) := Lib.hid fun t y ht hy => by
          rcases Nat.lt_or_ge t m with h1 | h1
          · exact ltB_trans (sorted_get Hs.out h1 hy Hx.out) (cmpB_lt.1 hc)
          · obtain rfl : t = m := by omega
            obtain rfl : x.1 = y := Option.some.inj (Hx.out.symm.trans hy)
            exact cmpB_lt.1 hc
        go_wp2
        go_roundg (hi - (m + 1))
        case measure => omega
        case rel => exact ⟨m + 1, hi, by go_num, rfl, by omega, hin, Nat.le_refl _, hst.out, Hhi.out, hb2.out⟩
      · have hst : Hid (∀ t y, m ≤ t → (E.map Prod.fst)[t]? = some y → ltB y nm = false) := Lib.hid fun t y ht hy => by
          have hxn : ltB x.1 nm = false := by
            cases e : ltB x.1 nm with
            | false => rfl
            | true => exact absurd (cmpB_lt.2 e) hc
          rcases Nat.lt_or_ge m t with h1 | h1
          · have h2 := sorted_get Hs.out h1 Hx.out hy
            cases e : ltB y nm with
            | false => rfl
            | true => rw [ltB_trans h2 e] at hxn; cases hxn
          · obtain rfl : t = m := by omega
            obtain rfl : x.1 = y := Option.some.inj (Hx.out.symm.trans hy)
            exact hxn
        go_wp2
        go_roundg (m - lo)
        case measure => omega
        case rel => exact ⟨lo, m, rfl, rfl, by omega, by omega, Nat.le_refl _, Hlo.out, hst.out, hb2.out⟩
    · obtain rfl : lo = hi := by omega
      have hp : lo = posN (E.map Prod.fst) nm := posN_unique Hs.out (by rw [List.length_map]; exact hin) hlo hhi
      have Hp := Lib.hid hp
      have i1 : ¬ (lo : Int) < (lo : Int) := by omega
      by_cases hlt2 : lo < E.length
      · obtain ⟨g, rfl, hbg, hgl, hnc, p0, p1⟩ := own_ent H.out (List.getElem?_eq_getElem hlt2)
        have hx : (E.map Prod.fst)[lo]? = some E[lo].1 := by rw [List.getElem?_map, List.getElem?_eq_getElem hlt2]; rfl
        have Hx := Lib.hid hx
        generalize E[lo] = x at *
        have r0 := (hbel.cell (p := ⟨g, lo * 2, none⟩) hgl).trans p0
        have r1 := (hbel.cell (p := ⟨g, lo * 2 + 1, none⟩) hgl).trans p1
        have m1 : (0 : Int) ≤ (lo : Int) := Int.natCast_nonneg _
        have m2 : (lo : Int) < (E.length : Int) := by omega
        have hin' : inB (E.map Prod.fst) nm = decide (cmpB x.1 nm = 0) := by
          rw [Bool.eq_iff_iff, inB_iff, ← posN_mem Hs.out, ← hp, hx, decide_eq_true_iff, cmpB_zero]
          simp
        have Hin := Lib.hid hin'
        clear hx hlo hhi hbel p0 p1 hp hin'
        go_wp2_with fail
        refine idxCmp_calls x.1 nm _ _ _ (fun w1 hb1 => ?_)
        have hfin := HR.out w1 (Hbel.out.trans (hb1.mono hz))
        rw [Hin.out, ← Hp.out] at hfin
        have Hfin := Lib.hid hfin
        clear hfin hb1
        go_wp2
        exact Hfin.out
      · have m2 : ¬ (lo : Int) < (E.length : Int) := by omega
        have hin' : inB (E.map Prod.fst) nm = false := by
          cases hi : inB (E.map Prod.fst) nm with
          | false => rfl
          | true =>
            have := (posN_mem Hs.out).2 (inB_iff.1 hi)
            rw [← hp] at this
            have := (List.getElem?_eq_some_iff.1 this).1
            rw [List.length_map] at this
            omega
        have hfin := HR.out wr hbel
        rw [hin', ← hp] at hfin
        have Hfin := Lib.hid hfin
        clear hfin hlo hhi hbel hp hin'
        go_wp2
        exact Hfin.out
end Go.Proofs.YtcakodemngchpaaGreatDoor

/- bundle.index: the names of all sections, in order, each with its object's place. -/
namespace Go.Proofs.YtcakodemngchpaaGreatDoor
open Go.RowKit
set_option linter.unusedSimpArgs false
set_option linter.unusedVariables false

theorem pairs_step {l : List Object} {k : Nat} {o : Object} (h : l[k]? = some o) : pairsTo l (k + 1) = pairsTo l k ++ pairsAt o k := by rw [pairsTo, h]
theorem pairsAt_step {o : Object} {k j : Nat} {s : Section} (h : o.sections[j]? = some s) : (pairsAt o k).take (j + 1) = (pairsAt o k).take j ++ [(s.name, k)] := by
  obtain ⟨hj, e⟩ := List.getElem?_eq_some_iff.1 h
  unfold pairsAt
  rw [List.take_succ_eq_append_getElem (by rw [List.length_map]; exact hj), List.getElem_map, e]
theorem pairsTo_pre (l : List Object) : ∀ (d k : Nat), ∃ t, pairsTo l (k + d) = pairsTo l k ++ t
  | 0, k => ⟨[], by simp⟩
  | d + 1, k => by
    obtain ⟨t, ht⟩ := pairsTo_pre l d k
    rw [← Nat.add_assoc, pairsTo, ht, List.append_assoc]
    exact ⟨_, rfl⟩
theorem pairs_all {l : List Object} {k j : Nat} {o : Object} {s : Section} (h : l[k]? = some o) (hs : o.sections[j]? = some s) : ∃ t, pairsTo l l.length = pairsTo l k ++ (pairsAt o k).take j ++ (s.name, k) :: t := by
  have hk := (List.getElem?_eq_some_iff.1 h).1
  obtain ⟨hj, e⟩ := List.getElem?_eq_some_iff.1 hs
  obtain ⟨t, ht⟩ := pairsTo_pre l (l.length - (k + 1)) (k + 1)
  rw [show k + 1 + (l.length - (k + 1)) = l.length from by omega, pairs_step h] at ht
  refine ⟨(pairsAt o k).drop (j + 1) ++ t, ?_⟩
  have hd : (pairsAt o k).drop j = (s.name, k) :: (pairsAt o k).drop (j + 1) := by
    unfold pairsAt
    rw [List.drop_eq_getElem_cons (by rw [List.length_map]; exact hj), List.getElem_map, e]
  rw [ht, List.append_assoc, List.append_assoc, ← List.cons_append, ← hd, ← List.append_assoc ((pairsAt o k).take j), List.take_append_drop]
theorem pairs_dup {l : List Object} {k j : Nat} {o : Object} {s : Section} (h : l[k]? = some o) (hs : o.sections[j]? = some s) (hm : s.name ∈ (pairsTo l k ++ (pairsAt o k).take j).map Prod.fst) : ¬ ((pairsTo l l.length).map Prod.fst).Nodup := by
  obtain ⟨t, ht⟩ := pairs_all h hs
  rw [ht, List.map_append, List.nodup_append]
  rintro ⟨_, _, h3⟩
  exact h3 _ hm s.name (by simp) rfl
theorem pairs_few {l : List Object} {k j : Nat} {o : Object} {s : Section} (h : l[k]? = some o) (hs : o.sections[j]? = some s) : (pairsTo l k ++ (pairsAt o k).take j).length < (pairsTo l l.length).length := by
  obtain ⟨t, ht⟩ := pairs_all h hs
  rw [ht]
  simp only [List.length_append, List.length_cons]
  omega
theorem addE_nil_mem {ps : List (ByteArray × Nat)} {nm : ByteArray} : nm ∈ (addE [] ps).map Prod.fst ↔ nm ∈ ps.map Prod.fst := by
  constructor
  · intro h
    obtain ⟨x, hx, e⟩ := List.mem_map.1 h
    rcases mem_addE.1 hx with hx | hx
    · exact List.mem_map.2 ⟨x, hx, e⟩
    · cases hx
  · intro h
    obtain ⟨x, hx, e⟩ := List.mem_map.1 h
    exact List.mem_map.2 ⟨x, mem_addE.2 (.inl hx), e⟩
theorem nodup_snoc {ps : List (ByteArray × Nat)} {e : ByteArray × Nat} (h : (ps.map Prod.fst).Nodup) (hn : e.1 ∉ ps.map Prod.fst) : ((ps ++ [e]).map Prod.fst).Nodup := by
  rw [List.map_append, List.nodup_append]
  refine ⟨h, by simp, fun a ha b hb => ?_⟩
  have : b = e.1 := by simpa using hb
  subst this
  exact fun e' => hn (e' ▸ ha)

set_option maxRecDepth 100000 in
set_option maxHeartbeats 4000000 in
theorem index_calls (l : List Object) (v : Value) (w : World) (h : rpObject.SL w w.heap.size l v) (hfew : (pairsTo l l.length).length ≤ 100000) (R : Ending → World → Prop)
    (hgood : ((pairsTo l l.length).map Prod.fst).Nodup → ∀ w' v', Below w.heap.size w w' → w'.ownsRow w.heap.size 92 2 v' (idxL l).length ((idxL l).flatMap entCells) → R (.returned (.tuple #[v', .int .i64 (-1)])) w')
    (hdup : ¬ ((pairsTo l l.length).map Prod.fst).Nodup → ∀ (k : Nat) w', Below w.heap.size w w' → R (.returned (.tuple #[.slice none 0 0, .int .i64 (k : Int)])) w') :
    Calls Tryz.prog 29 #[v] w R := by
  obtain ⟨A, c, rfl, hm, hcap, h⟩ := h.cases_
  have Hgood := Lib.hid hgood
  have Hdup := Lib.hid hdup
  have H := Lib.hid h
  have Hfew := Lib.hid hfew
  clear hgood hdup h hfew
  go_enter Tryz.func29, Tryz.ntmps29
  go_wp2_with fail
  go_loopg [4, 5, 6, 8, 9, 10, 13] l.length (fun gh s4 s5 s6 s8 s9 s10 s13 wr => ∃ k : Nat, k ≤ l.length ∧ gh = l.length - k ∧ s13 = .int .i64 (k : Int) ∧ ((pairsTo l k).map Prod.fst).Nodup ∧ wr.ownsRow w.heap.size 92 2 s4 (addE [] (pairsTo l k)).length ((addE [] (pairsTo l k)).flatMap entCells) ∧ Below w.heap.size w wr)
  case atStart => exact ⟨0, Nat.zero_le _, rfl, rfl, by simp [pairsTo], World.ownsRow_nil _ _ _ _, Below.refl _ _⟩
  case round =>
    obtain ⟨k, hk, rfl, rfl, hnd, hown, hbel⟩ := hrel
    have Hnd := Lib.hid hnd
    have Hown := Lib.hid hown
    have Hbel := Lib.hid hbel
    have hz := hbel.size
    have j1 : (0 : Int) ≤ (k : Int) := Int.natCast_nonneg _
    by_cases hlt : k < l.length
    · obtain ⟨b, off, o, v1, v2, rfl, hb, e, h1, h2, r0, r1⟩ := H.out.object_at hlt
      obtain ⟨A1, n1, rfl, _, _, _⟩ := h1.cases_
      obtain ⟨A2, n2, rfl, _, _, h2⟩ := h2.cases_
      have p0 := (hbel.cell (p := ⟨b, off + k * 2, none⟩) hb).trans r0
      have p1 := (hbel.cell (p := ⟨b, off + k * 2 + 1, none⟩) hb).trans r1
      have j2 : (k : Int) < (l.length : Int) := by omega
      have E := Lib.hid e
      have H2 := Lib.hid h2
      obtain ⟨W4, hW4⟩ : ∃ W4, W4 = wr.alloc (Obj.cells #[.slice A1 o.globals.length n1, .slice A2 o.sections.length n2] 40) := ⟨_, rfl⟩
      have hb4 : Below wr.heap.size wr W4 := by subst hW4; exact bl0
      have hV4 : W4.heap[wr.heap.size]? = some (.cells #[.slice A1 o.globals.length n1, .slice A2 o.sections.length n2] 40 (0, 0)) := by subst hW4; exact heap_alloc_new _ _
      have HW4 := Lib.hid hW4.symm
      have Hb4 := Lib.hid (hbel.trans (hb4.mono hz))
      have Hown4 := Lib.hid (own_below hown hb4)
      obtain ⟨u0, u1⟩ := cells_blk hV4
      have hlV4 := blk_lt hV4
      clear hnd hown hbel r0 r1 e h2 hW4 hb4 hV4
      go_upto_region 5 with fail
      rw [HW4.out]
      clear p0 p1
      go_wp2_with fail
      go_loopg [4, 8, 9, 10, 21] o.sections.length (fun gi s4 s8 s9 s10 s21 wi => ∃ (j : Nat) (ps : List (ByteArray × Nat)), j ≤ o.sections.length ∧ gi = o.sections.length - j ∧ s21 = .int .i64 (j : Int) ∧ ps = pairsTo l k ++ (pairsAt o k).take j ∧ (ps.map Prod.fst).Nodup ∧ wi.ownsRow w.heap.size 92 2 s4 (addE [] ps).length ((addE [] ps).flatMap entCells) ∧ Below w.heap.size w wi)
      case atStart => exact ⟨0, pairsTo l k, Nat.zero_le _, rfl, rfl, by simp, Hnd.out, Hown4.out, Hb4.out⟩
      case round =>
        rename World => wi
        obtain ⟨j, ps, hj, rfl, rfl, hps, hnd, hown, hbel⟩ := hrel
        have Hps := Lib.hid hps
        have Hnd2 := Lib.hid hnd
        have Hown2 := Lib.hid hown
        have Hbi := Lib.hid hbel
        have hzi := hbel.size
        have j3 : (0 : Int) ≤ (j : Int) := Int.natCast_nonneg _
        by_cases hjl : j < o.sections.length
        · obtain ⟨b5, o5, s, v5, v6, rfl, hb5, e5, h5, h6, q0, q1, q2⟩ := H2.out.section_at hjl
          obtain ⟨A5, n5, rfl, _, _, _⟩ := h5.cases_
          obtain ⟨A6, n6, rfl, _, _, _⟩ := h6.cases_
          have p0 := (hbel.cell (p := ⟨b5, o5 + j * 3, none⟩) hb5).trans q0
          have p1 := (hbel.cell (p := ⟨b5, o5 + j * 3 + 1, none⟩) hb5).trans q1
          have p2 := (hbel.cell (p := ⟨b5, o5 + j * 3 + 2, none⟩) hb5).trans q2
          have j4 : (j : Int) < (o.sections.length : Int) := by omega
          have E5 := Lib.hid e5
          obtain ⟨W7, hW7⟩ : ∃ W7, W7 = wi.alloc (Obj.cells #[.string s.name, .slice A5 s.code.length n5, .slice A6 s.mends.length n6] 58) := ⟨_, rfl⟩
          have hb7 : Below wi.heap.size wi W7 := by subst hW7; exact bl0
          have hV7 : W7.heap[wi.heap.size]? = some (.cells #[.string s.name, .slice A5 s.code.length n5, .slice A6 s.mends.length n6] 58 (0, 0)) := by subst hW7; exact heap_alloc_new _ _
          have HW7 := Lib.hid hW7.symm
          have HV7 := Lib.hid hV7
          have hbw7 := hbel.trans (hb7.mono hzi)
          have Hbw7 := Lib.hid hbw7
          have hown7 := own_below hown hb7
          have Hown7 := Lib.hid hown7
          obtain ⟨y0, y1, y2, _, _, _⟩ := three_cellsL hV7
          have hlV7 := blk_lt hV7
          have hfew7 : Hid (ps.length < (pairsTo l l.length).length) := Lib.hid (by rw [hps]; exact pairs_few E.out e5)
          have hsort : Hid (Sorted ((addE [] ps).map Prod.fst)) := Lib.hid (addE_sorted ps [] List.Pairwise.nil hnd (fun x _ h => by cases h))
          have hel : Hid ((addE [] ps).length = ps.length) := Lib.hid (by rw [addE_len]; simp)
          clear hps hnd hown hbel q0 q1 q2 e5 hW7 hb7 hV7 hbw7 hown7
          go_upto_region 8 with fail
          rw [HW7.out]
          clear p0 p1 p2
          go_wp2_with fail
          refine Search_calls (addE [] ps) s.name _ w.heap.size _ Hown7.out hsort.out (by have := hfew7.out; have := Hfew.out; have := hel.out; omega) _ (fun w8 hb8 => ?_)
          have hV8 := (hb8.block _ hlV7).trans HV7.out
          have hbw8 := Hbw7.out.trans (hb8.mono Hbw7.out.size)
          have Hbw8 := Lib.hid hbw8
          obtain ⟨z0, _, _, _, _, _⟩ := three_cellsL hV8
          have hlV8 := blk_lt hV8
          have hown8 := own_below Hown7.out hb8
          have Hown8 := Lib.hid hown8
          have HinB : Hid (inB ((addE [] ps).map Prod.fst) s.name = true ↔ s.name ∈ ps.map Prod.fst) := Lib.hid (by rw [inB_iff, addE_nil_mem])
          obtain ⟨q, hq⟩ : ∃ q, q = inB ((addE [] ps).map Prod.fst) s.name := ⟨_, rfl⟩
          have Hq := Lib.hid hq
          rw [← hq]
          clear hb8 hV8 hbw8 hq y0 y1 y2 hown8
          cases q
          · have hnew : s.name ∉ ps.map Prod.fst := fun hm => by
              have := HinB.out.2 hm
              rw [← Hq.out] at this
              cases this
            have Hnew := Lib.hid hnew
            obtain ⟨W9, hW9⟩ : ∃ W9, W9 = w8.alloc (Obj.cells #[.string s.name, .int .i64 (k : Int)] 92) := ⟨_, rfl⟩
            have hb9 : Below w8.heap.size w8 W9 := by subst hW9; exact bl0
            have hV9 : W9.heap[w8.heap.size]? = some (.cells #[.string s.name, .int .i64 (k : Int)] 92 (0, 0)) := by subst hW9; exact heap_alloc_new _ _
            have HW9 := Lib.hid hW9.symm
            have HV9 := Lib.hid hV9
            have hbw9 := Hbw8.out.trans (hb9.mono Hbw8.out.size)
            have Hbw9 := Lib.hid hbw9
            have Hown9 := Lib.hid (own_below Hown8.out hb9)
            have hne9 : u4.ownBlock ≠ some w8.heap.size := fun e' => by
              have := (Hown8.out.lt _ e').2
              omega
            have Hne9 := Lib.hid hne9
            have HX : Hid (∀ k, k < w.heap.size → ¬ u4.ownBlock = some k) := Lib.hid fun k hk e' => by
              have := (Hown8.out.lt _ e').1
              omega
            clear hnew hW9 hb9 hV9 hbw9 hne9
            go_wp2_with fail
            rw [show w8.alloc (Obj.cells #[.string s.name, .int .i64 (k : Int)] 92) = W9 from HW9.out]
            refine Insert_calls (addE [] ps) (s.name, k) _ (posN ((addE [] ps).map Prod.fst) s.name) w.heap.size w8.heap.size _ Hown9.out (by have := posN_le ((addE [] ps).map Prod.fst) s.name; rw [List.length_map] at this; exact this) (by have := hfew7.out; have := Hfew.out; have := hel.out; omega) Hbw9.out.size HV9.out Hne9.out _ (fun w10 v10 hg10 hown10 => ?_)
            have hbf := Lib.hid (Hbw9.out.trans (hg10.below HX.out Hbw9.out.size))
            have hown11 : w10.ownsRow w.heap.size 92 2 v10 (addE [] (ps ++ [(s.name, k)])).length ((addE [] (ps ++ [(s.name, k)])).flatMap entCells) := by
              rw [addE_snoc, insE_len]
              exact hown10
            have Hown11 := Lib.hid hown11
            have Hnd3 := Lib.hid (nodup_snoc (e := (s.name, k)) Hnd2.out Hnew.out)
            have Hps3 : Hid (ps ++ [(s.name, k)] = pairsTo l k ++ (pairsAt o k).take (j + 1)) := Lib.hid (by rw [Hps.out, pairsAt_step E5.out, List.append_assoc])
            clear hg10 hown10 hown11
            go_wp2
            go_roundg (o.sections.length - (j + 1))
            case measure => omega
            case rel => exact ⟨j + 1, ps ++ [(s.name, k)], hjl, rfl, by go_num, Hps3.out, Hnd3.out, Hown11.out, hbf.out⟩
          · have hdp : ¬ ((pairsTo l l.length).map Prod.fst).Nodup := pairs_dup E.out E5.out (by rw [← Hps.out]; exact HinB.out.1 Hq.out.symm)
            have Hfin := Lib.hid (Hdup.out hdp k w8 Hbw8.out)
            clear hdp
            go_wp2
            exact Hfin.out
        · obtain rfl : j = o.sections.length := by omega
          have hps' : ps = pairsTo l (k + 1) := by
            rw [hps, pairs_step E.out, List.take_of_length_le (by unfold pairsAt; rw [List.length_map]; exact Nat.le_refl _)]
          have Hps' := Lib.hid hps'
          have j4 : ¬ (o.sections.length : Int) < (o.sections.length : Int) := by omega
          clear hps hnd hown hbel hps'
          go_wp2
          go_roundg (l.length - (k + 1))
          case measure => omega
          case rel => exact ⟨k + 1, hlt, rfl, by go_num, by rw [← Hps'.out]; exact Hnd2.out, by rw [← Hps'.out]; exact Hown2.out, Hbi.out⟩
    · obtain rfl : k = l.length := by omega
      have j2 : ¬ (l.length : Int) < (l.length : Int) := by omega
      have hfin := Lib.hid (Hgood.out hnd wr _ hbel hown)
      clear hnd hown hbel
      go_wp2
      exact hfin.out
end Go.Proofs.YtcakodemngchpaaGreatDoor
