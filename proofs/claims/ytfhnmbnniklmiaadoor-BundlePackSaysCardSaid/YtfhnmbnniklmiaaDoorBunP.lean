/- Bundles, plainly: what is wrong with objects, the index, the bytes. -/
import Derived.Test.YtfhnmbnniklmiaaDoorLinkP
import Derived.Test.YtfhnmbnniklmiaaDoorAppA
namespace Go.Proofs.YtfhnmbnniklmiaaDoor
open Go.RowKit
set_option linter.unusedSimpArgs false
set_option linter.unusedVariables false

/-- What is wrong with the object at i. -/
def bunAt (l : List Object) (i : Nat) (o : Object) : Int × Int :=
  if (objFault o).1 ≠ 0 then ((objFault o).1, (i : Int)) else if (o.sections.any fun s => hasS (allS (l.take i)) s.name) = true then (7, (i : Int)) else (0, 0)
def bunFrom (l : List Object) : Nat → Nat → Int × Int
  | 0, _ => (0, 0)
  | f + 1, i => match l[i]? with
    | none => (0, 0)
    | some o => if (bunAt l i o).1 ≠ 0 then bunAt l i o else bunFrom l f (i + 1)
def bunF (l : List Object) : Int × Int := if 12 < l.length then (2, 0) else bunFrom l l.length 0
theorem bunFrom_step {l : List Object} {i : Nat} {o : Object} (h : l[i]? = some o) (hz : (bunAt l i o).1 = 0) : bunFrom l (l.length - i) i = bunFrom l (l.length - (i + 1)) (i + 1) := by
  have hi := (List.getElem?_eq_some_iff.1 h).1
  rw [show l.length - i = (l.length - (i + 1)) + 1 from by omega, bunFrom, h]
  simp only []
  rw [if_neg (by simp [hz])]
theorem bunFrom_stop {l : List Object} {i : Nat} {o : Object} (h : l[i]? = some o) (hz : (bunAt l i o).1 ≠ 0) : bunFrom l (l.length - i) i = bunAt l i o := by
  have hi := (List.getElem?_eq_some_iff.1 h).1
  rw [show l.length - i = (l.length - (i + 1)) + 1 from by omega, bunFrom, h]
  simp only []
  rw [if_pos hz]
theorem bunFrom_end (l : List Object) : bunFrom l (l.length - l.length) l.length = (0, 0) := by
  rw [Nat.sub_self]
  rfl
structure BunOkAt (l : List Object) (i : Nat) (o : Object) : Prop where
  ok : ObjOk o
  new : ∀ s ∈ o.sections, hasS (allS (l.take i)) s.name = false
theorem bunAt_ok {l : List Object} {i : Nat} {o : Object} (h : (bunAt l i o).1 = 0) : BunOkAt l i o ∧ bunAt l i o = (0, 0) := by
  unfold bunAt at h ⊢
  by_cases h1 : (objFault o).1 ≠ 0
  · rw [if_pos h1] at h
    exact absurd h h1
  rw [if_neg h1] at h ⊢
  by_cases h3 : (o.sections.any fun s => hasS (allS (l.take i)) s.name) = true
  · rw [if_pos h3] at h
    simp at h
  rw [if_neg h3]
  refine ⟨⟨(objOk_iff o).1 (objFault_fst o (by simpa using h1)), fun s hs => ?_⟩, rfl⟩
  have h4 := List.any_eq_false.1 (by simpa using h3) s hs
  simpa using h4
theorem bunAt_good {l : List Object} {i : Nat} {o : Object} (h : BunOkAt l i o) : bunAt l i o = (0, 0) := by
  unfold bunAt
  rw [if_neg (by rw [(objOk_iff o).2 h.ok]; simp), if_neg]
  simp only [List.any_eq_true, not_exists, not_and]
  intro s hs
  rw [h.new s hs]
  simp
theorem bunFrom_ok {l : List Object} : ∀ (f i : Nat), f + i = l.length → (bunFrom l f i).1 = 0 → bunFrom l f i = (0, 0) ∧ ∀ (k : Nat) o, i ≤ k → l[k]? = some o → BunOkAt l k o
  | 0, i, hf, _ => ⟨rfl, fun k o hk h => by have := (List.getElem?_eq_some_iff.1 h).1; omega⟩
  | f + 1, i, hf, h => by
    have hi : i < l.length := by omega
    rw [bunFrom, List.getElem?_eq_getElem hi] at h ⊢
    simp only [] at h ⊢
    by_cases h1 : (bunAt l i l[i]).1 ≠ 0
    · rw [if_pos h1] at h
      exact absurd h h1
    rw [if_neg h1] at h ⊢
    obtain ⟨h2, h3⟩ := bunFrom_ok f (i + 1) (by omega) h
    refine ⟨h2, fun k o hk ho => ?_⟩
    by_cases e : k = i
    · subst e
      rw [List.getElem?_eq_getElem hi] at ho
      injection ho with ho
      subst ho
      exact (bunAt_ok (by simpa using h1)).1
    · exact h3 k o (by omega) ho
theorem bunFrom_good {l : List Object} (h : ∀ (k : Nat) o, l[k]? = some o → BunOkAt l k o) : ∀ (f i : Nat), bunFrom l f i = (0, 0)
  | 0, _ => rfl
  | f + 1, i => by
    rw [bunFrom]
    cases e : l[i]? with
    | none => rfl
    | some o =>
      simp only []
      rw [bunAt_good (h i o e), if_neg (by simp), bunFrom_good h f (i + 1)]
structure BunOk (l : List Object) : Prop where
  few : l.length ≤ 12
  each : ∀ (k : Nat) o, l[k]? = some o → BunOkAt l k o
theorem bunF_ok {l : List Object} (h : (bunF l).1 = 0) : bunF l = (0, 0) ∧ BunOk l := by
  unfold bunF at h ⊢
  by_cases h2 : 12 < l.length
  · rw [if_pos h2] at h
    simp at h
  rw [if_neg h2] at h ⊢
  obtain ⟨h3, h4⟩ := bunFrom_ok l.length 0 (by omega) h
  exact ⟨h3, by omega, fun k o ho => h4 k o (Nat.zero_le _) ho⟩
theorem bunF_good {l : List Object} (h : BunOk l) : bunF l = (0, 0) := by
  unfold bunF
  rw [if_neg (by have := h.few; omega), bunFrom_good h.each]

/-- Names of sections, in their order, each with the place of its object. -/
def pairsAt (o : Object) (i : Nat) : List (ByteArray × Nat) := o.sections.map fun s => (s.name, i)
def pairsTo (l : List Object) : Nat → List (ByteArray × Nat)
  | 0 => []
  | k + 1 => pairsTo l k ++ (match l[k]? with | some o => pairsAt o k | none => [])
theorem pairsTo_names {l : List Object} : ∀ (k : Nat), (pairsTo l k).map Prod.fst = (allS (l.take k)).map (·.name)
  | 0 => by simp [pairsTo, allS]
  | k + 1 => by
    rw [pairsTo, List.map_append, pairsTo_names k]
    cases e : l[k]? with
    | none =>
      have : l.length ≤ k := List.getElem?_eq_none_iff.1 e
      rw [List.take_of_length_le this, List.take_of_length_le (by omega)]
      simp
    | some o =>
      rw [allS_step e, List.map_append]
      simp [pairsAt]
theorem mem_pairsTo {l : List Object} {e : ByteArray × Nat} : ∀ (k : Nat), e ∈ pairsTo l k → e.2 < k ∧ ∃ o s, l[e.2]? = some o ∧ s ∈ o.sections ∧ s.name = e.1
  | 0, h => by cases h
  | k + 1, h => by
    rw [pairsTo, List.mem_append] at h
    rcases h with h | h
    · obtain ⟨h1, h2⟩ := mem_pairsTo k h
      exact ⟨by omega, h2⟩
    · cases ho : l[k]? with
      | none => rw [ho] at h; cases h
      | some o =>
        rw [ho] at h
        simp only [pairsAt] at h
        obtain ⟨s, hs, rfl⟩ := List.mem_map.1 h
        exact ⟨Nat.lt_succ_self _, o, s, ho, hs, rfl⟩
theorem nodup_append_names {a b : List Section} : ((a ++ b).map (·.name)).Nodup ↔ (a.map (·.name)).Nodup ∧ (b.map (·.name)).Nodup ∧ ∀ s ∈ b, hasS a s.name = false := by
  rw [List.map_append, List.nodup_append]
  constructor
  · rintro ⟨h1, h2, h3⟩
    refine ⟨h1, h2, fun s hs => ?_⟩
    cases hh : hasS a s.name with
    | false => rfl
    | true =>
      obtain ⟨x, hx, e⟩ := hasS_true.1 hh
      exact absurd e (h3 _ (List.mem_map.2 ⟨x, hx, rfl⟩) _ (List.mem_map.2 ⟨s, hs, rfl⟩))
  · rintro ⟨h1, h2, h3⟩
    refine ⟨h1, h2, fun x hx y hy e => ?_⟩
    obtain ⟨s, hs, rfl⟩ := List.mem_map.1 hy
    obtain ⟨t, ht, rfl⟩ := List.mem_map.1 hx
    have := h3 s hs
    rw [hasS_true.2 ⟨t, ht, e⟩] at this
    cases this
/-- A fine object's names are there once each. -/
theorem secs_nodup {o : Object} (h : ObjOk o) : (o.sections.map (·.name)).Nodup := by
  have : ∀ k, k ≤ o.sections.length → ((o.sections.take k).map (·.name)).Nodup := by
    intro k
    induction k with
    | zero => intro _; simp
    | succ k ih =>
      intro hk
      have hk' : k < o.sections.length := hk
      rw [List.take_succ_eq_append_getElem hk', nodup_append_names]
      refine ⟨ih (by omega), by simp, fun s hs => ?_⟩
      have e : s = o.sections[k] := by simpa using hs
      subst e
      exact (h.secs k _ (List.getElem?_eq_getElem hk')).noS
  have h1 := this o.sections.length (Nat.le_refl _)
  rwa [List.take_length] at h1
theorem names_step {l : List Object} {i : Nat} {o : Object} (h : l[i]? = some o) (hok : ObjOk o) (hn : ((allS (l.take i)).map (·.name)).Nodup) :
    ((allS (l.take (i + 1))).map (·.name)).Nodup ↔ (o.sections.any fun s => hasS (allS (l.take i)) s.name) = false := by
  rw [allS_step h, nodup_append_names, List.any_eq_false]
  constructor
  · rintro ⟨_, _, h3⟩ s hs
    rw [h3 s hs]
    simp
  · intro h3
    exact ⟨hn, secs_nodup hok, fun s hs => by simpa using h3 s hs⟩
theorem BunOk.nodup {l : List Object} (h : BunOk l) : ∀ (k : Nat), ((allS (l.take k)).map (·.name)).Nodup
  | 0 => by simp [allS]
  | k + 1 => by
    cases e : l[k]? with
    | none =>
      have h1 : l.length ≤ k := List.getElem?_eq_none_iff.1 e
      have := h.nodup k
      rw [List.take_of_length_le h1] at this
      rwa [List.take_of_length_le (by omega)]
    | some o =>
      rw [names_step e (h.each k o e).ok (h.nodup k), List.any_eq_false]
      intro s hs
      rw [(h.each k o e).new s hs]
      simp

/-- How strings are ordered. -/
def ltL : List UInt8 → List UInt8 → Bool := Go.Op.bytesLess
theorem ltL_irr : ∀ (a : List UInt8), ltL a a = false
  | [] => rfl
  | x :: a => by
    have h := ltL_irr a
    unfold ltL at h ⊢
    rw [Go.Op.bytesLess, h]
    simp
theorem ltL_trans : ∀ (a b c : List UInt8), ltL a b = true → ltL b c = true → ltL a c = true
  | _, [], _, h, _ => by cases ‹List UInt8› <;> simp [ltL, Go.Op.bytesLess] at h
  | _, _ :: _, [], _, h => by simp [ltL, Go.Op.bytesLess] at h
  | [], _ :: _, _ :: _, _, _ => by simp [ltL, Go.Op.bytesLess]
  | x :: a, y :: b, z :: c, h, k => by
    have ih := ltL_trans a b c
    unfold ltL at h k ih ⊢
    rw [Go.Op.bytesLess] at h k ⊢
    simp only [Bool.or_eq_true, Bool.and_eq_true, decide_eq_true_eq, beq_iff_eq] at h k ⊢
    rcases h with h | ⟨rfl, h⟩ <;> rcases k with k | ⟨rfl, k⟩
    · exact .inl (UInt8.lt_trans h k)
    · exact .inl h
    · exact .inl k
    · exact .inr ⟨rfl, ih h k⟩
theorem ltL_total : ∀ (a b : List UInt8), ltL a b = false → ltL b a = false → a = b
  | [], [], _, _ => rfl
  | [], _ :: _, h, _ => by simp [ltL, Go.Op.bytesLess] at h
  | _ :: _, [], _, h => by simp [ltL, Go.Op.bytesLess] at h
  | x :: a, y :: b, h, k => by
    have ih := ltL_total a b
    unfold ltL at h k ih
    rw [Go.Op.bytesLess] at h k
    simp only [Bool.or_eq_false_iff, Bool.and_eq_false_imp, decide_eq_false_iff_not, beq_iff_eq] at h k
    have e : x = y := UInt8.le_antisymm (UInt8.not_lt.1 k.1) (UInt8.not_lt.1 h.1)
    subst e
    rw [ih (h.2 rfl) (k.2 rfl)]
def ltB (a b : ByteArray) : Bool := ltL a.data.toList b.data.toList
theorem ltB_irr (a : ByteArray) : ltB a a = false := ltL_irr _
theorem ltB_trans {a b c : ByteArray} (h : ltB a b = true) (k : ltB b c = true) : ltB a c = true := ltL_trans _ _ _ h k
theorem ltB_total {a b : ByteArray} (h : ltB a b = false) (k : ltB b a = false) : a = b := by
  have := ltL_total _ _ h k
  cases a; cases b
  simp only [Array.toList_inj] at this
  rw [this]
theorem ltB_not {a b : ByteArray} (h : ltB a b = true) : ltB b a = false := by
  cases k : ltB b a with
  | false => rfl
  | true => have := ltB_trans h k; rw [ltB_irr] at this; cases this

/-- Where a name belongs in a row of names. -/
def posN (N : List ByteArray) (nm : ByteArray) : Nat := (N.takeWhile fun x => ltB x nm).length
def insN (N : List ByteArray) (nm : ByteArray) : List ByteArray := N.take (posN N nm) ++ nm :: N.drop (posN N nm)
def Sorted (N : List ByteArray) : Prop := N.Pairwise fun a b => ltB a b = true
theorem posN_le (N : List ByteArray) (nm : ByteArray) : posN N nm ≤ N.length := (List.takeWhile_prefix _).length_le
theorem posN_low {N : List ByteArray} {nm x : ByteArray} {j : Nat} (h : j < posN N nm) (hx : N[j]? = some x) : ltB x nm = true := by
  unfold posN at h
  have h1 : (N.takeWhile fun x => ltB x nm)[j]? = some x := by
    rw [← hx]
    have := List.takeWhile_prefix (p := fun x => ltB x nm) (l := N)
    obtain ⟨t, ht⟩ := this
    conv => rhs; rw [← ht]
    rw [List.getElem?_append_left h]
  have h2 := List.all_takeWhile (p := fun x => ltB x nm) (l := N)
  exact List.all_eq_true.1 h2 x (List.mem_of_getElem? h1)
theorem posN_stop : ∀ {N : List ByteArray} {nm x : ByteArray}, N[posN N nm]? = some x → ltB x nm = false
  | [], _, _, h => by simp at h
  | y :: N, nm, x, h => by
    unfold posN at h
    rw [List.takeWhile_cons] at h
    by_cases hy : ltB y nm = true
    · rw [if_pos hy] at h
      exact posN_stop (N := N) (by unfold posN; simpa using h)
    · rw [if_neg hy] at h
      have : y = x := by simpa using h
      rw [← this]
      simpa using hy
theorem sorted_get {N : List ByteArray} (h : Sorted N) {i j : Nat} {x y : ByteArray} (hij : i < j) (hx : N[i]? = some x) (hy : N[j]? = some y) : ltB x y = true := by
  obtain ⟨hi, rfl⟩ := List.getElem?_eq_some_iff.1 hx
  obtain ⟨hj, rfl⟩ := List.getElem?_eq_some_iff.1 hy
  exact List.pairwise_iff_getElem.1 h i j hi hj hij
theorem posN_high {N : List ByteArray} (h : Sorted N) {nm x : ByteArray} {j : Nat} (hj : posN N nm ≤ j) (hx : N[j]? = some x) : ltB x nm = false := by
  have hjl := (List.getElem?_eq_some_iff.1 hx).1
  have hp : posN N nm < N.length := by omega
  have h0 := posN_stop (N := N) (nm := nm) (List.getElem?_eq_getElem hp)
  rcases Nat.lt_or_ge (posN N nm) j with hlt | hge
  · have h1 := sorted_get h hlt (List.getElem?_eq_getElem hp) hx
    cases h2 : ltB x nm with
    | false => rfl
    | true => have := ltB_trans h1 h2; rw [this] at h0; cases h0
  · obtain rfl : j = posN N nm := by omega
    exact posN_stop hx
/-- A place in a row that is in order, with all less ahead and none less behind: that is where a name belongs. -/
theorem posN_unique {N : List ByteArray} (h : Sorted N) {nm : ByteArray} {p : Nat} (hp : p ≤ N.length) (hlo : ∀ j x, j < p → N[j]? = some x → ltB x nm = true) (hhi : ∀ j x, p ≤ j → N[j]? = some x → ltB x nm = false) : p = posN N nm := by
  have hq := posN_le N nm
  rcases Nat.lt_trichotomy p (posN N nm) with hlt | rfl | hgt
  · have e := List.getElem?_eq_getElem (show p < N.length by omega)
    have h1 := posN_low hlt e
    rw [hhi p _ (Nat.le_refl _) e] at h1
    cases h1
  · rfl
  · have e := List.getElem?_eq_getElem (show posN N nm < N.length by omega)
    have h1 := hlo _ _ hgt e
    rw [posN_stop e] at h1
    cases h1
/-- A name that is there stands there. -/
theorem posN_mem {N : List ByteArray} (h : Sorted N) {nm : ByteArray} : N[posN N nm]? = some nm ↔ nm ∈ N := by
  refine ⟨fun e => List.mem_of_getElem? e, fun hm => ?_⟩
  obtain ⟨k, hk, e⟩ := List.mem_iff_getElem.1 hm
  have hk' : N[k]? = some nm := by rw [List.getElem?_eq_getElem hk, e]
  rcases Nat.lt_trichotomy k (posN N nm) with hlt | rfl | hgt
  · have := posN_low hlt hk'
    rw [ltB_irr] at this
    cases this
  · exact hk'
  · have e2 := List.getElem?_eq_getElem (show posN N nm < N.length by omega)
    have h1 := sorted_get h hgt e2 hk'
    rw [posN_stop e2] at h1
    cases h1
theorem sorted_ins {N : List ByteArray} (h : Sorted N) {nm : ByteArray} (hn : nm ∉ N) : Sorted (insN N nm) := by
  unfold Sorted insN
  have hN : N = N.take (posN N nm) ++ N.drop (posN N nm) := (List.take_append_drop _ _).symm
  have h1 : (N.take (posN N nm) ++ N.drop (posN N nm)).Pairwise fun a b => ltB a b = true := by rw [← hN]; exact h
  rw [List.pairwise_append] at h1 ⊢
  obtain ⟨h2, h3, h4⟩ := h1
  have hlow : ∀ x ∈ N.take (posN N nm), ltB x nm = true := fun x hx => by
    obtain ⟨k, hk, e⟩ := List.mem_iff_getElem.1 hx
    have hk2 : k < posN N nm ∧ k < N.length := by rw [List.length_take] at hk; omega
    rw [List.getElem_take] at e
    exact posN_low (j := k) hk2.1 (by rw [List.getElem?_eq_getElem hk2.2, e])
  have hhigh : ∀ x ∈ N.drop (posN N nm), ltB nm x = true := fun x hx => by
    obtain ⟨k, hk, e⟩ := List.mem_iff_getElem.1 hx
    have hk2 : posN N nm + k < N.length := by rw [List.length_drop] at hk; omega
    rw [List.getElem_drop] at e
    have h5 := posN_high h (nm := nm) (j := posN N nm + k) (Nat.le_add_right _ _) (by rw [List.getElem?_eq_getElem hk2, e])
    cases h6 : ltB nm x with
    | true => rfl
    | false =>
      have := ltB_total h5 h6
      subst this
      exact absurd (List.mem_of_mem_drop hx) hn
  refine ⟨h2, List.pairwise_cons.2 ⟨hhigh, h3⟩, fun a ha b hb => ?_⟩
  rcases List.mem_cons.1 hb with rfl | hb
  · exact hlow a ha
  · exact h4 a ha b hb
theorem mem_insN {N : List ByteArray} {nm x : ByteArray} : x ∈ insN N nm ↔ x = nm ∨ x ∈ N := by
  unfold insN
  have hN : N = N.take (posN N nm) ++ N.drop (posN N nm) := (List.take_append_drop _ _).symm
  conv => rhs; rw [hN]
  simp only [List.mem_append, List.mem_cons]
  constructor
  · rintro (h | h | h) <;> simp [h]
  · rintro (h | h | h) <;> simp [h]
theorem insN_len (N : List ByteArray) (nm : ByteArray) : (insN N nm).length = N.length + 1 := by
  unfold insN
  have := posN_le N nm
  simp
  omega

/-- The index, entry by entry. -/
def insE (E : List (ByteArray × Nat)) (e : ByteArray × Nat) : List (ByteArray × Nat) := E.take (posN (E.map Prod.fst) e.1) ++ e :: E.drop (posN (E.map Prod.fst) e.1)
def addE (E : List (ByteArray × Nat)) (ps : List (ByteArray × Nat)) : List (ByteArray × Nat) := ps.foldl insE E
def idxL (l : List Object) : List (ByteArray × Nat) := addE [] (pairsTo l l.length)
theorem insE_names (E : List (ByteArray × Nat)) (e : ByteArray × Nat) : (insE E e).map Prod.fst = insN (E.map Prod.fst) e.1 := by
  unfold insE insN
  rw [List.map_append, List.map_cons, List.map_take, List.map_drop]
theorem insE_len (E : List (ByteArray × Nat)) (e : ByteArray × Nat) : (insE E e).length = E.length + 1 := by
  have := insN_len (E.map Prod.fst) e.1
  rw [← insE_names] at this
  simpa using this
theorem mem_insE {E : List (ByteArray × Nat)} {e x : ByteArray × Nat} : x ∈ insE E e ↔ x = e ∨ x ∈ E := by
  unfold insE
  have hN : E = E.take (posN (E.map Prod.fst) e.1) ++ E.drop (posN (E.map Prod.fst) e.1) := (List.take_append_drop _ _).symm
  conv => rhs; rw [hN]
  simp only [List.mem_append, List.mem_cons]
  constructor
  · rintro (h | h | h) <;> simp [h]
  · rintro (h | h | h) <;> simp [h]
theorem mem_addE {x : ByteArray × Nat} : ∀ {ps E : List (ByteArray × Nat)}, x ∈ addE E ps ↔ x ∈ ps ∨ x ∈ E
  | [], E => by simp [addE]
  | p :: ps, E => by
    have := mem_addE (x := x) (ps := ps) (E := insE E p)
    unfold addE at this ⊢
    rw [List.foldl_cons, this, mem_insE, List.mem_cons]
    constructor
    · rintro (h | h | h) <;> simp [h]
    · rintro ((h | h) | h) <;> simp [h]
theorem addE_len : ∀ (ps E : List (ByteArray × Nat)), (addE E ps).length = E.length + ps.length
  | [], E => rfl
  | p :: ps, E => by
    have := addE_len ps (insE E p)
    unfold addE at this ⊢
    rw [List.foldl_cons, this, insE_len, List.length_cons]
    omega
theorem addE_snoc (E ps : List (ByteArray × Nat)) (p : ByteArray × Nat) : addE E (ps ++ [p]) = insE (addE E ps) p := by
  unfold addE
  rw [List.foldl_append]
  rfl
theorem addE_append (E ps qs : List (ByteArray × Nat)) : addE E (ps ++ qs) = addE (addE E ps) qs := by
  unfold addE
  rw [List.foldl_append]
theorem addE_sorted : ∀ (ps E : List (ByteArray × Nat)), Sorted (E.map Prod.fst) → (ps.map Prod.fst).Nodup → (∀ x ∈ ps.map Prod.fst, x ∉ E.map Prod.fst) → Sorted ((addE E ps).map Prod.fst)
  | [], E, h, _, _ => h
  | p :: ps, E, h, hn, hd => by
    rw [List.map_cons, List.nodup_cons] at hn
    have h1 : Sorted ((insE E p).map Prod.fst) := by rw [insE_names]; exact sorted_ins h (hd _ (by simp))
    have := addE_sorted ps (insE E p) h1 hn.2 (fun x hx => by
      rw [insE_names, mem_insN]
      rintro (rfl | h)
      · exact hn.1 hx
      · exact hd x (by rw [List.map_cons]; exact List.mem_cons_of_mem _ hx) h)
    unfold addE at this ⊢
    exact this
/-- The owner of a name in the index is the one that stands there. -/
theorem idx_owner {l : List Object} (h : BunOk l) {e : ByteArray × Nat} (he : e ∈ idxL l) : ownerL l e.1 = (e.2 : Int) ∧ e.2 < l.length := by
  unfold idxL at he
  rw [mem_addE] at he
  rcases he with he | he
  rotate_left
  · cases he
  obtain ⟨h1, o, s, ho, hs, hn⟩ := mem_pairsTo _ he
  refine ⟨owner_some ho (hasS_true.2 ⟨s, hs, hn⟩) (fun j y hj hy => ?_), h1⟩
  have h2 := (h.each _ o ho).new s hs
  rw [hn] at h2
  cases hh : hasS y.sections e.1 with
  | false => rfl
  | true =>
    have : hasS (allS (l.take e.2)) e.1 = true := hasS_allS.2 ⟨y, List.mem_of_getElem? (show (l.take e.2)[j]? = some y by rw [List.getElem?_take, if_pos hj]; exact hy), hh⟩
    rw [this] at h2
    cases h2

def entB (e : ByteArray × Nat) : List UInt8 := textB e.1 ++ numB e.2
def objB (o : Object) : List UInt8 := textB (strL (savedB o))
def bunB (l : List Object) : List UInt8 := [76, 73, 66] ++ (numB l.length ++ (numB (idxL l).length ++ ((idxL l).flatMap entB ++ l.flatMap objB)))
def packB (l : List Object) : List UInt8 := sumB (bunB l)
def packO (l : List Object) : List UInt8 := if (bunF l).1 ≠ 0 then [] else if 90000 < (packB l).length then [] else packB l
def packF (l : List Object) : Int × Int := if (bunF l).1 ≠ 0 then bunF l else if 90000 < (packB l).length then (10, 0) else (0, 0)
end Go.Proofs.YtfhnmbnniklmiaaDoor
