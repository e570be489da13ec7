/- What is reached, plainly: lists of sections that tell alike wherever it counts come to the same; what is met, and by whom. What names need of a bundle, plainly: the least closed set of objects. Linking the objects that the laws make of raw numbers, plainly: in whatever order, and just those that are needed. Images of the objects that the laws make of raw numbers, plainly: their code, who calls whom, what is undone. An object more, plainly: one that nobody calls changes nothing; one that has what is undone makes an image, and it may be. -/
import Derived.Test.YtcakodemngchpaaGreatDoorLinkC
import Derived.Test.YtcakodemngchpaaGreatDoorLinkP2
import Derived.Test.YtcakodemngchpaaGreatDoorKitPm
import Derived.Test.YtcakodemngchpaaGreatDoorLawI
/- What is reached, plainly: lists of sections that tell alike wherever it counts come to the same; what is met, and by whom. -/
namespace Go.Proofs.YtcakodemngchpaaGreatDoor
open Go.RowKit
set_option linter.unusedSimpArgs false
set_option linter.unusedVariables false

theorem hasS_find (S : List Section) (nm : ByteArray) : hasS S nm = (secFind S nm).isSome := by
  cases h : hasS S nm with
  | true =>
    obtain ⟨s, e, _⟩ := secFind_has h
    rw [e]
    rfl
  | false =>
    rw [secFind_none h]
    rfl
theorem meetL_same {S T : List Section} {st : List ByteArray × List ByteArray} {nm : ByteArray} (h : hasS S nm = hasS T nm) : meetL S st nm = meetL T st nm := by
  unfold meetL
  rw [h]
theorem meetL_mem {S : List Section} {st : List ByteArray × List ByteArray} {nm x : ByteArray} (h : x ∈ (meetL S st nm).1) : x ∈ st.1 ∨ (x = nm ∧ hasS S nm = true) := by
  unfold meetL at h
  by_cases h1 : hasS S nm = true
  · rw [if_pos h1] at h
    split at h
    · exact .inl h
    · rcases List.mem_append.1 h with h | h
      · exact .inl h
      · exact .inr ⟨by simpa using h, h1⟩
  · rw [if_neg h1] at h
    split at h <;> exact .inl h
theorem meets_alike {S T : List Section} {Q : ByteArray → Prop} : ∀ (ms : List Mend) (st : List ByteArray × List ByteArray), (∀ m ∈ ms, hasS S m.name = hasS T m.name ∧ (hasS S m.name = true → Q m.name)) → (∀ x ∈ st.1, Q x) → meetsL S st ms = meetsL T st ms ∧ ∀ x ∈ (meetsL S st ms).1, Q x
  | [], st, _, h => ⟨rfl, h⟩
  | m :: ms, st, hm, h => by
    have h1 := hm m (List.mem_cons_self ..)
    have h2 := meets_alike ms (meetL S st m.name) (fun x hx => hm x (List.mem_cons_of_mem _ hx)) (fun x hx => by
      rcases meetL_mem hx with hx | ⟨e, hx2⟩
      · exact h x hx
      · rw [e]
        exact h1.2 hx2)
    refine ⟨?_, h2.2⟩
    have h3 : meetsL S st (m :: ms) = meetsL S (meetL S st m.name) ms := rfl
    have h4 : meetsL T st (m :: ms) = meetsL T (meetL T st m.name) ms := rfl
    rw [h3, h4, h2.1, meetL_same h1.1]

/-- Sections that tell alike of each name that is reached. -/
structure Alike (S T : List Section) (Q : ByteArray → Prop) : Prop where
  main : Q mainB
  find : ∀ nm, Q nm → secFind S nm = secFind T nm ∧ hasS S nm = true
  mends : ∀ nm, Q nm → ∀ m ∈ mendsOf S nm, hasS S m.name = hasS T m.name ∧ (hasS S m.name = true → Q m.name)
theorem reach_alike {S T : List Section} {Q : ByteArray → Prop} (A : Alike S T Q) : ∀ (f i : Nat) (st : List ByteArray × List ByteArray), (∀ x ∈ st.1, Q x) → reachL S f i st = reachL T f i st ∧ ∀ x ∈ (reachL S f i st).1, Q x
  | 0, i, st, h => ⟨rfl, h⟩
  | f + 1, i, st, h => by
    rw [reachL, reachL]
    cases hi : st.1[i]? with
    | none => exact ⟨rfl, h⟩
    | some nm =>
      simp only []
      have hq : Q nm := h nm (List.mem_of_getElem? hi)
      have hm : mendsOf T nm = mendsOf S nm := by
        unfold mendsOf
        rw [(A.find nm hq).1]
      rw [hm]
      obtain ⟨h1, h2⟩ := meets_alike (mendsOf S nm) st (A.mends nm hq) h
      rw [← h1]
      exact reach_alike A f (i + 1) _ h2
theorem reachL_fuel {S : List Section} : ∀ (f g i : Nat) (st : List ByteArray × List ByteArray), RInv S st → S.length ≤ f + i → S.length ≤ g + i → reachL S f i st = reachL S g i st
  | 0, g, i, st, h, hf, hg => by
    have := h.len
    rw [reachL_end (f := 0) (by omega), reachL_end (f := g) (by omega)]
  | f + 1, g, i, st, h, hf, hg => by
    cases hi : st.1[i]? with
    | none =>
      have := List.getElem?_eq_none_iff.1 hi
      rw [reachL_end (f := f + 1) this, reachL_end (f := g) this]
    | some nm =>
      have h1 := (List.getElem?_eq_some_iff.1 hi).1
      have h2 := h.len
      obtain ⟨g, rfl⟩ : ∃ g', g = g' + 1 := ⟨g - 1, by omega⟩
      rw [reachL, reachL, hi]
      simp only []
      exact reachL_fuel f g (i + 1) _ (h.meets _).1 (by omega) (by omega)
theorem reached_alike {S T : List Section} {Q : ByteArray → Prop} (A : Alike S T Q) : reached S = reached T ∧ (∀ x ∈ (reached S).1, Q x) ∧ hasS S mainB = true ∧ hasS T mainB = true := by
  have h1 := A.find mainB A.main
  have h2 : hasS T mainB = true := by rw [hasS_find, ← h1.1, ← hasS_find]; exact h1.2
  have h3 := reach_alike A (max S.length T.length) 0 ([mainB], []) (fun x hx => by
    have : x = mainB := by simpa using hx
    subst this
    exact A.main)
  have e1 : reached S = reachL S (max S.length T.length) 0 ([mainB], []) := reachL_fuel _ _ _ _ (RInv.begin h1.2) (by omega) (by omega)
  have e2 : reached T = reachL T (max S.length T.length) 0 ([mainB], []) := reachL_fuel _ _ _ _ (RInv.begin h2) (by omega) (by omega)
  rw [e1, e2]
  exact ⟨h3.1, h3.2, h1.2, h2⟩
theorem routsTo_alike {S T : List Section} {order : List ByteArray} (h : ∀ x ∈ order, secFind S x = secFind T x) : ∀ (f i : Nat) (rs : List Routine) (g : Image), f + i ≤ order.length → routsTo S order f i rs g = routsTo T order f i rs g
  | 0, i, rs, g, _ => rfl
  | f + 1, i, rs, g, hf => by
    rw [routsTo, routsTo]
    have e : order.getD i ByteArray.empty = order[i] := by rw [List.getD_eq_getElem?_getD, List.getElem?_eq_getElem (by omega)]; rfl
    have e2 : secAt S (order.getD i ByteArray.empty) = secAt T (order.getD i ByteArray.empty) := by
      unfold secAt
      rw [h _ (by rw [e]; exact List.getElem_mem _)]
    rw [e2]
    cases routB order (secAt T (order.getD i ByteArray.empty)) with
    | none => rfl
    | some c => exact routsTo_alike h f (i + 1) _ g (by omega)
theorem metF_good {l : List Object} (h : linkF l = (0, 0)) (hm : hasS (allS l) mainB = true) : metF l = (0, 0) ∧ metO l = reached (allS l) := by
  have h1 : metF l = (0, 0) := by
    unfold metF
    rw [h, if_neg (by simp), if_neg (by rw [hm]; simp)]
  refine ⟨h1, ?_⟩
  unfold metO
  rw [h1, if_neg (by simp)]
theorem linkDo_alike {l m : List Object} {Q : ByteArray → Prop} (hl : linkF l = (0, 0)) (hm : linkF m = (0, 0)) (A : Alike (allS l) (allS m) Q) (hg : (l.getD 0 ⟨[], []⟩).globals = (m.getD 0 ⟨[], []⟩).globals) : linkDo l = linkDo m := by
  obtain ⟨h1, h2, h3, h4⟩ := reached_alike A
  obtain ⟨a1, a2⟩ := metF_good hl h3
  obtain ⟨b1, b2⟩ := metF_good hm h4
  unfold linkDo
  rw [a1, b1, if_neg (by simp), if_neg (by simp), a2, b2, ← h1, hg]
  exact routsTo_alike (fun x hx => (A.find x (h2 x hx)).1) _ _ _ _ (by omega)

theorem linkAt_good {l : List Object} {i : Nat} {o : Object} (h : LinkOkAt l i o) : linkAt l i o = (0, 0) := by
  unfold linkAt
  rw [(objOk_iff o).2 h.ok, if_neg (by simp), h.glob, if_neg (by unfold sameG; simp), if_neg]
  intro hx
  obtain ⟨s, hs, e⟩ := List.any_eq_true.1 hx
  rw [h.new s hs] at e
  cases e
theorem linkFrom_good {l : List Object} (h : ∀ (k : Nat) o, l[k]? = some o → LinkOkAt l k o) : ∀ (f i : Nat), linkFrom l f i = (0, 0)
  | 0, _ => rfl
  | f + 1, i => by
    rw [linkFrom]
    cases hi : l[i]? with
    | none => rfl
    | some o =>
      simp only []
      rw [linkAt_good (h i o hi), if_neg (by simp)]
      exact linkFrom_good h f (i + 1)
theorem linkF_good {l : List Object} (h0 : 0 < l.length) (h1 : l.length ≤ 12) (h : ∀ (k : Nat) o, l[k]? = some o → LinkOkAt l k o) : linkF l = (0, 0) := by
  unfold linkF
  rw [if_neg (by omega), if_neg (by omega)]
  exact linkFrom_good h _ _

/-- No two sections have one name. -/
def Distinct (S : List Section) : Prop := ∀ s ∈ S, ∀ t ∈ S, s.name = t.name → s = t
theorem secFind_mem {S : List Section} (hd : Distinct S) {s : Section} (hs : s ∈ S) : secFind S s.name = some s := by
  obtain ⟨t, e, ht, hn⟩ := secFind_has (hasS_true.2 ⟨s, hs, rfl⟩)
  rw [e, hd t ht s hs hn]
end Go.Proofs.YtcakodemngchpaaGreatDoor

/- What names need of a bundle, plainly: the least closed set of objects. -/
namespace Go.Proofs.YtcakodemngchpaaGreatDoor
open Go.RowKit
set_option linter.unusedSimpArgs false
set_option linter.unusedVariables false

/-- Marks of objects: what one has, another has. -/
def SubM (S T : List Bool) : Prop := ∀ i : Nat, S[i]? = some true → T[i]? = some true
theorem SubM.refl (S : List Bool) : SubM S S := fun _ h => h
theorem SubM.trans {S T U : List Bool} (h : SubM S T) (k : SubM T U) : SubM S U := fun i hi => k i (h i hi)
/-- How many are not marked. -/
def leftM (S : List Bool) : Nat := (S.filter (!·)).length
theorem leftM_le : ∀ {S T : List Bool}, S.length = T.length → SubM S T → leftM T ≤ leftM S
  | [], [], _, _ => Nat.le_refl _
  | a :: S, b :: T, hl, h => by
    have ih := leftM_le (S := S) (T := T) (by simpa using hl) (fun i hi => by have := h (i + 1); simpa using this hi)
    have h0 := h 0
    simp only [List.getElem?_cons_zero, Option.some.injEq] at h0
    unfold leftM at ih ⊢
    cases a <;> cases b <;> simp at h0 ⊢ <;> omega
theorem leftM_lt : ∀ {S T : List Bool}, S.length = T.length → SubM S T → ∀ k : Nat, T[k]? = some true → S[k]? ≠ some true → leftM T < leftM S
  | [], [], _, _, k, h, _ => by simp at h
  | a :: S, b :: T, hl, h, 0, hk, hn => by
    have ih := leftM_le (S := S) (T := T) (by simpa using hl) (fun i hi => by have := h (i + 1); simpa using this hi)
    simp only [List.getElem?_cons_zero, Option.some.injEq, ne_eq] at hk hn
    subst hk
    unfold leftM at ih ⊢
    cases a <;> simp at hn ⊢
    omega
  | a :: S, b :: T, hl, h, k + 1, hk, hn => by
    have ih := leftM_lt (S := S) (T := T) (by simpa using hl) (fun i hi => by have := h (i + 1); simpa using this hi) k (by simpa using hk) (by simpa using hn)
    have h0 := h 0
    simp only [List.getElem?_cons_zero, Option.some.injEq] at h0
    unfold leftM at ih ⊢
    cases a <;> cases b <;> simp at h0 ⊢ <;> omega
theorem sub_set {S : List Bool} {k : Nat} (h : k < S.length) : SubM S (S.set k true) := fun i hi => by
  by_cases e : k = i
  · subst e
    rw [List.getElem?_set_self h]
  · rw [List.getElem?_set_ne e]
    exact hi
theorem set_at {S : List Bool} {k : Nat} (h : k < S.length) : (S.set k true)[k]? = some true := List.getElem?_set_self h
theorem set_least {S T : List Bool} {k : Nat} (h : SubM S T) (hk : T[k]? = some true) : SubM (S.set k true) T := fun i hi => by
  by_cases e : k = i
  · subst e
    exact hk
  · rw [List.getElem?_set_ne e] at hi
    exact h i hi

/-- What the mends of an object lead to is marked. -/
def LedM (l : List Object) (S : List Bool) (ms : List Mend) : Prop := ∀ m ∈ ms, ∀ j : Nat, ownerL l m.name = (j : Int) → S[j]? = some true
def mendsO (o : Object) : List Mend := o.sections.flatMap (·.mends)
def ClosedM (l : List Object) (S : List Bool) : Prop := ∀ (i : Nat) o, S[i]? = some true → l[i]? = some o → LedM l S (mendsO o)
theorem LedM.sub {l : List Object} {S T : List Bool} {ms : List Mend} (h : LedM l S ms) (k : SubM S T) : LedM l T ms := fun m hm j hj => k j (h m hm j hj)
theorem LedM.app {l : List Object} {S : List Bool} {a b : List Mend} (h : LedM l S a) (k : LedM l S b) : LedM l S (a ++ b) := fun m hm j hj => by
  rcases List.mem_append.1 hm with h1 | h1
  · exact h m h1 j hj
  · exact k m h1 j hj
/-- What a call for object i leaves of the marks S. -/
structure NeedM (l : List Object) (S : List Bool) (i : Int) (S' : List Bool) : Prop where
  len : S'.length = S.length
  sub : SubM S S'
  here : ∀ k : Nat, i = (k : Int) → S'[k]? = some true
  news : ∀ (x : Nat) o, S'[x]? = some true → S[x]? ≠ some true → l[x]? = some o → LedM l S' (mendsO o)
  least : ∀ T, ClosedM l T → SubM S T → (∀ k : Nat, i = (k : Int) → T[k]? = some true) → SubM S' T
/-- The least closed marks that have all of ks. -/
structure GotM (l : List Object) (ks : List Nat) (S : List Bool) : Prop where
  len : S.length = l.length
  has : ∀ k ∈ ks, S[k]? = some true
  closed : ClosedM l S
  least : ∀ T, ClosedM l T → (∀ k ∈ ks, T[k]? = some true) → SubM S T
theorem GotM.start (l : List Object) : GotM l [] (List.replicate l.length false) where
  len := by simp
  has := fun k h => by cases h
  closed := fun i o h => by
    rw [List.getElem?_replicate] at h
    split at h <;> simp at h
  least := fun T _ _ i h => by
    rw [List.getElem?_replicate] at h
    split at h <;> simp at h
theorem GotM.step {l : List Object} {ks : List Nat} {S S' : List Bool} {k : Nat} (h : GotM l ks S) (hn : NeedM l S (k : Int) S') : GotM l (ks ++ [k]) S' where
  len := hn.len.trans h.len
  has := fun j hj => by
    rcases List.mem_append.1 hj with h1 | h1
    · exact hn.sub j (h.has j h1)
    · obtain rfl : j = k := by simpa using h1
      exact hn.here j rfl
  closed := fun i o hi ho => by
    by_cases e : S[i]? = some true
    · exact (h.closed i o e ho).sub hn.sub
    · exact hn.news i o hi e ho
  least := fun T hT hk => hn.least T hT (h.least T hT fun j hj => hk j (List.mem_append_left _ hj)) fun j hj => by
    obtain rfl : k = j := by omega
    exact hk k (by simp)
theorem NeedM.none {l : List Object} {S : List Bool} {i : Int} (h : i < 0 ∨ ∃ k : Nat, i = (k : Int) ∧ S[k]? = some true) : NeedM l S i S where
  len := rfl
  sub := SubM.refl _
  here := fun k hk => by
    rcases h with h | ⟨k', h1, h2⟩
    · omega
    · obtain rfl : k = k' := by omega
      exact h2
  news := fun x o h1 h2 => absurd h1 h2
  least := fun T _ h _ => h
/-- How far a call has come that has marked object k: the mends ms have been followed. -/
structure MidN (l : List Object) (S1 : List Bool) (ms : List Mend) (S' : List Bool) : Prop where
  len : S'.length = S1.length
  sub : SubM S1 S'
  led : LedM l S' ms
  news : ∀ (x : Nat) o, S'[x]? = some true → S1[x]? ≠ some true → l[x]? = some o → LedM l S' (mendsO o)
  least : ∀ T, ClosedM l T → SubM S1 T → LedM l T ms → SubM S' T
theorem MidN.begin (l : List Object) (S1 : List Bool) : MidN l S1 [] S1 := ⟨rfl, SubM.refl _, (fun m h => by cases h), (fun x o h1 h2 => absurd h1 h2), fun T _ h _ => h⟩
theorem MidN.step {l : List Object} {S1 S' S'' : List Bool} {ms : List Mend} {m : Mend} (h : MidN l S1 ms S') (hn : NeedM l S' (ownerL l m.name) S'') : MidN l S1 (ms ++ [m]) S'' where
  len := hn.len.trans h.len
  sub := h.sub.trans hn.sub
  led := (h.led.sub hn.sub).app fun m' hm j hj => by
    obtain rfl : m' = m := by simpa using hm
    exact hn.here j hj
  news := fun x o h1 h2 ho => by
    by_cases e : S'[x]? = some true
    · exact (h.news x o e h2 ho).sub hn.sub
    · exact hn.news x o h1 e ho
  least := fun T hT h1 h2 => hn.least T hT (h.least T hT h1 fun m' hm' => h2 m' (List.mem_append_left _ hm')) fun k hk => h2 m (by simp) k hk
theorem MidN.need {l : List Object} {S S' : List Bool} {k : Nat} {o : Object} (hk : k < S.length) (hn : S[k]? ≠ some true) (ho : l[k]? = some o) (h : MidN l (S.set k true) (mendsO o) S') : NeedM l S (k : Int) S' where
  len := by rw [h.len, List.length_set]
  sub := (sub_set hk).trans h.sub
  here := fun j hj => by
    obtain rfl : k = j := by omega
    exact h.sub k (set_at hk)
  news := fun x o' h1 h2 h3 => by
    by_cases e : k = x
    · subst e
      obtain rfl : o = o' := Option.some.inj (ho.symm.trans h3)
      exact h.led
    · exact h.news x o' h1 (by rw [List.getElem?_set_ne e]; exact h2) h3
  least := fun T hT h1 h2 => h.least T hT (set_least h1 (h2 k rfl)) (hT k o (h2 k rfl) ho)
/-- The places that are marked, in order. -/
def idxsTo (S : List Bool) : Nat → List Int
  | 0 => []
  | k + 1 => idxsTo S k ++ (if S[k]? = some true then [(k : Int)] else [])
def idxsM (S : List Bool) : List Int := idxsTo S S.length
theorem idxsTo_len (S : List Bool) : ∀ k, (idxsTo S k).length ≤ k
  | 0 => Nat.le_refl _
  | k + 1 => by
    have := idxsTo_len S k
    rw [idxsTo, List.length_append]
    split <;> simp <;> omega
theorem idxsTo_yes {S : List Bool} {k : Nat} (h : S[k]? = some true) : idxsTo S (k + 1) = idxsTo S k ++ [(k : Int)] := by rw [idxsTo, if_pos h]
theorem idxsTo_no {S : List Bool} {k : Nat} (h : S[k]? ≠ some true) : idxsTo S (k + 1) = idxsTo S k := by rw [idxsTo, if_neg h, List.append_nil]

theorem owner_there {l : List Object} {nm : ByteArray} {j : Nat} (h : ownerL l nm = (j : Int)) : j < l.length := by
  unfold ownerL at h
  cases e : l.findIdx? fun o => hasS o.sections nm with
  | none => rw [e] at h; simp at h
  | some k =>
    rw [e] at h
    rw [List.findIdx?_eq_some_iff_getElem] at e
    obtain ⟨hk, _⟩ := e
    simp only [] at h
    omega
end Go.Proofs.YtcakodemngchpaaGreatDoor

/- Linking the objects that the laws make of raw numbers, plainly: in whatever order, and just those that are needed. -/
namespace Go.Proofs.YtcakodemngchpaaGreatDoor
open Go.RowKit
set_option linter.unusedSimpArgs false
set_option linter.unusedVariables false

theorem idx_same {o : Object} (h : ObjOk o) {i j : Nat} {s t : Section} (hs : o.sections[i]? = some s) (ht : o.sections[j]? = some t) (e : s.name = t.name) : i = j := by
  have key : ∀ (i j : Nat) (s t : Section), o.sections[i]? = some s → o.sections[j]? = some t → s.name = t.name → ¬ i < j := fun i j s t hs ht e hij => by
    have h1 := (h.secs j t ht).noS
    obtain ⟨hi, ei⟩ := List.getElem?_eq_some_iff.1 hs
    have hj := (List.getElem?_eq_some_iff.1 ht).1
    have : hasS (o.sections.take j) t.name = true := hasS_true.2 ⟨s, List.mem_iff_getElem.2 ⟨i, by rw [List.length_take]; omega, by rw [List.getElem_take]; exact ei⟩, e⟩
    rw [h1] at this
    cases this
  have h1 := key i j s t hs ht e
  have h2 := key j i t s ht hs e.symm
  omega
theorem distinct_ok {o : Object} (h : ObjOk o) : Distinct o.sections := fun s hs t ht e => by
  obtain ⟨i, hi, ei⟩ := List.mem_iff_getElem.1 hs
  obtain ⟨j, hj, ej⟩ := List.mem_iff_getElem.1 ht
  have hij := idx_same h (by rw [List.getElem?_eq_getElem hi, ei]) (by rw [List.getElem?_eq_getElem hj, ej]) e
  subst hij
  exact ei.symm.trans ej
/-- Objects of one section, of some places. -/
def pickL (o : Object) (ks : List Nat) : List Object := ks.map fun k => segO o k (k + 1)
theorem pickL_at {o : Object} {ks : List Nat} {i : Nat} {x : Object} (h : (pickL o ks)[i]? = some x) : ∃ k, ks[i]? = some k ∧ x = segO o k (k + 1) := by
  unfold pickL at h
  rw [List.getElem?_map] at h
  cases hk : ks[i]? with
  | none =>
    rw [hk] at h
    cases h
  | some k =>
    rw [hk] at h
    exact ⟨k, rfl, (Option.some.inj h).symm⟩
theorem seg_sec {o : Object} {k : Nat} {s : Section} : s ∈ (segO o k (k + 1)).sections ↔ o.sections[k]? = some s := by
  constructor
  · intro h
    obtain ⟨j, hj, e⟩ := List.mem_iff_getElem.1 h
    obtain ⟨h1, h2⟩ := seg_get (show (segO o k (k + 1)).sections[j]? = some s by rw [List.getElem?_eq_getElem hj, e])
    obtain rfl : j = 0 := by omega
    exact h1
  · intro h
    rw [seg_one h]
    simp
theorem pickL_secs {o : Object} {ks : List Nat} {s : Section} : s ∈ allS (pickL o ks) ↔ ∃ k ∈ ks, o.sections[k]? = some s := by
  unfold allS pickL
  rw [List.mem_flatMap]
  constructor
  · rintro ⟨x, hx, hs⟩
    obtain ⟨k, hk, rfl⟩ := List.mem_map.1 hx
    exact ⟨k, hk, seg_sec.1 hs⟩
  · rintro ⟨k, hk, hs⟩
    exact ⟨_, List.mem_map.2 ⟨k, hk, rfl⟩, seg_sec.2 hs⟩
theorem pickL_take (o : Object) (ks : List Nat) (i : Nat) : (pickL o ks).take i = pickL o (ks.take i) := by
  unfold pickL
  rw [List.map_take]
theorem pickL_link {o : Object} (h : ObjOk o) {ks : List Nat} (h0 : 0 < ks.length) (h1 : ks.length ≤ 12) (hd : ks.Nodup) : linkF (pickL o ks) = (0, 0) := by
  have hl : (pickL o ks).length = ks.length := by unfold pickL; simp
  refine linkF_good (by omega) (by omega) fun i x hx => ?_
  obtain ⟨k, hk, rfl⟩ := pickL_at hx
  refine ⟨seg_ok h _ _, ?_, fun s hs => ?_⟩
  · have hz : (pickL o ks)[0]? = some ((pickL o ks)[0]'(by omega)) := List.getElem?_eq_getElem (by omega)
    obtain ⟨k0, _, e0⟩ := pickL_at hz
    rw [List.getD_eq_getElem?_getD, hz, Option.getD_some, e0]
    rfl
  · have hs' := seg_sec.1 hs
    rw [pickL_take]
    refine hasS_false.2 fun t ht e => ?_
    obtain ⟨j, hj, htj⟩ := pickL_secs.1 ht
    have hjk := idx_same h htj hs' e
    subst hjk
    obtain ⟨p, hp, ep⟩ := List.mem_iff_getElem.1 hj
    rw [List.length_take] at hp
    rw [List.getElem_take] at ep
    obtain ⟨hi, ei⟩ := List.getElem?_eq_some_iff.1 hk
    have := List.pairwise_iff_getElem.1 (List.nodup_iff_pairwise_ne.1 hd) p i (by omega) hi (by omega)
    exact this (ep.trans ei.symm)
theorem kit_pickL (raw : List (List Int)) : kitL raw = pickL (objOf raw 6 true) (List.range (objOf raw 6 true).sections.length) := rfl
theorem kit_main {raw : List (List Int)} {s : Section} (h : (objOf raw 6 true).sections[0]? = some s) : s.name = mainB := by
  obtain ⟨_, rfl⟩ := objOf_at h
  rfl
/-- Those that are needed of main are enough. -/
theorem need_same {raw : List (List Int)} (hr : ∀ l ∈ raw, ∀ x ∈ l, I64 x) (h0 : 0 < (kitL raw).length) {S : List Bool} (hg : GotM (kitL raw) [0] S) {ks : List Nat} (h1 : ks.length ≤ 12) (hd : ks.Nodup) (hks : ∀ k, k ∈ ks ↔ S[k]? = some true) : linkDo (kitL raw) = linkDo (pickL (objOf raw 6 true) ks) := by
  have h : ObjOk (objOf raw 6 true) := objOf_ok (by decide) hr
  have hn : (kitL raw).length = (objOf raw 6 true).sections.length := bunL_len _ _
  have h6 := kit_secs raw
  generalize ho : objOf raw 6 true = o at *
  have hk0 : 0 < o.sections.length := by omega
  have hlk : kitL raw = pickL o (List.range o.sections.length) := by rw [kit_pickL, ho]
  have hmain : ∀ s, o.sections[0]? = some s → s.name = mainB := fun s hs => by rw [← ho] at hs; exact kit_main hs
  have hS0 : S[0]? = some true := hg.has 0 (by simp)
  have hkp : 0 < ks.length := List.length_pos_of_mem ((hks 0).2 hS0)
  have hlen : S.length = o.sections.length := by rw [hg.len, hn]
  have hmemA : ∀ s, s ∈ allS (kitL raw) ↔ s ∈ o.sections := fun s => by
    rw [hlk, pickL_secs]
    constructor
    · rintro ⟨k, _, hs⟩
      exact List.mem_of_getElem? hs
    · intro hs
      obtain ⟨i, hi, e⟩ := List.mem_iff_getElem.1 hs
      exact ⟨i, by simpa using hi, by rw [List.getElem?_eq_getElem hi, e]⟩
  have hdA : Distinct (allS (kitL raw)) := fun s hs t ht => distinct_ok h s ((hmemA s).1 hs) t ((hmemA t).1 ht)
  have hdB : Distinct (allS (pickL o ks)) := fun s hs t ht => by
    obtain ⟨_, _, h1⟩ := pickL_secs.1 hs
    obtain ⟨_, _, h2⟩ := pickL_secs.1 ht
    exact distinct_ok h s (List.mem_of_getElem? h1) t (List.mem_of_getElem? h2)
  have hfind : ∀ k s, o.sections[k]? = some s → S[k]? = some true → secFind (allS (kitL raw)) s.name = some s ∧ secFind (allS (pickL o ks)) s.name = some s := fun k s hs hk =>
    ⟨secFind_mem hdA ((hmemA s).2 (List.mem_of_getElem? hs)), secFind_mem hdB (pickL_secs.2 ⟨k, (hks k).2 hk, hs⟩)⟩
  refine linkDo_alike (Q := fun nm => ∃ (k : Nat) (s : Section), o.sections[k]? = some s ∧ s.name = nm ∧ S[k]? = some true) ?_ (pickL_link h hkp h1 hd) ⟨?_, ?_, ?_⟩ ?_
  · rw [hlk]
    exact pickL_link h (by simpa using hk0) (by simp; omega) List.nodup_range
  · exact ⟨0, o.sections[0], List.getElem?_eq_getElem hk0, hmain _ (List.getElem?_eq_getElem hk0), hS0⟩
  · rintro nm ⟨k, s, hs, rfl, hk⟩
    obtain ⟨e1, e2⟩ := hfind k s hs hk
    rw [e1, e2]
    exact ⟨rfl, by rw [hasS_find, e1]; rfl⟩
  · rintro nm ⟨k, s, hs, rfl, hk⟩ m hm
    obtain ⟨e1, e2⟩ := hfind k s hs hk
    have hm' : m ∈ s.mends := by
      unfold mendsOf at hm
      rw [e1] at hm
      exact hm
    have hkl : (kitL raw)[k]? = some (segO o k (k + 1)) := by
      have := bunL_at (o := o) (n := o.sections.length) (List.getElem?_eq_some_iff.1 hs).1
      rw [show kitL raw = bunL o o.sections.length by unfold kitL; rw [ho]]
      exact this
    have hmo : m ∈ mendsO (segO o k (k + 1)) := by
      unfold mendsO
      rw [seg_one hs]
      simpa using hm'
    have key : hasS (allS (kitL raw)) m.name = true → ∃ (j : Nat) (t : Section), o.sections[j]? = some t ∧ t.name = m.name ∧ S[j]? = some true := fun he => by
      obtain ⟨t, ht, en⟩ := hasS_true.1 he
      obtain ⟨j, hj, ej⟩ := List.mem_iff_getElem.1 ((hmemA t).1 ht)
      have htj : o.sections[j]? = some t := by rw [List.getElem?_eq_getElem hj, ej]
      refine ⟨j, t, htj, en, ?_⟩
      have hown : ownerL (kitL raw) m.name = (j : Int) := by
        rw [← en, show kitL raw = bunL o o.sections.length by unfold kitL; rw [ho]]
        exact bunL_owner h htj
      exact hg.closed k _ hk hkl m hmo j hown
    refine ⟨?_, key⟩
    cases he : hasS (allS (kitL raw)) m.name with
    | true =>
      obtain ⟨j, t, ht, en, hj⟩ := key he
      exact (hasS_true.2 ⟨t, pickL_secs.2 ⟨j, (hks j).2 hj, ht⟩, en⟩).symm
    | false =>
      refine (hasS_false.2 fun x hx en => ?_).symm
      obtain ⟨j, _, hxj⟩ := pickL_secs.1 hx
      exact hasS_false.1 he x ((hmemA x).2 (List.mem_of_getElem? hxj)) en
  · obtain ⟨k, t, rfl⟩ : ∃ k t, ks = k :: t := by
      cases ks with
      | nil => simp at hkp
      | cons k t => exact ⟨k, t, rfl⟩
    rw [hlk]
    obtain ⟨n, hn'⟩ : ∃ n, o.sections.length = n + 1 := ⟨o.sections.length - 1, by omega⟩
    rw [hn', List.range_succ_eq_map]
    rfl
end Go.Proofs.YtcakodemngchpaaGreatDoor

/- Images of the objects that the laws make of raw numbers, plainly: their code, who calls whom, what is undone. -/
namespace Go.Proofs.YtcakodemngchpaaGreatDoor
open Go.RowKit
set_option linter.unusedSimpArgs false
set_option linter.unusedVariables false

end Go.Proofs.YtcakodemngchpaaGreatDoor

/- An object more, plainly: one that nobody calls changes nothing; one that has what is undone makes an image, and it may be. -/
namespace Go.Proofs.YtcakodemngchpaaGreatDoor
open Go.RowKit
set_option linter.unusedSimpArgs false
set_option linter.unusedVariables false

end Go.Proofs.YtcakodemngchpaaGreatDoor
