/- What is reached, plainly: lists of sections that tell alike wherever it counts come to the same; what is met, and by whom. What names need of a bundle, plainly: the least closed set of objects. Linking the objects that the laws make of raw numbers, plainly: in whatever order, and just those that are needed. Images of the objects that the laws make of raw numbers, plainly: their code, who calls whom, what is undone. An object more, plainly: one that nobody calls changes nothing; one that has what is undone makes an image, and it may be. -/
import Derived.Test.YtemakpjickbmnaaDoorLinkC
import Derived.Test.YtemakpjickbmnaaDoorLinkP
import Derived.Test.YtemakpjickbmnaaDoorKitPm
import Derived.Test.YtemakpjickbmnaaDoorLawI
/- What is reached, plainly: lists of sections that tell alike wherever it counts come to the same; what is met, and by whom. -/
namespace Go.Proofs.YtemakpjickbmnaaDoor
open Go.RowKit
set_option linter.unusedSimpArgs false
set_option linter.unusedVariables false

theorem hasS_find (S : List Section) (nm : ByteArray) : hasS S nm = (secFind S nm).isSome := by
  cases h : hasS S nm with
  | true =>
    obtain ⟨s, e, _⟩ := secFind_has h
    rw [e]
    rfl
  | false =>
    rw [secFind_none h]
    rfl
theorem meetL_same {S T : List Section} {st : List ByteArray × List ByteArray} {nm : ByteArray} (h : hasS S nm = hasS T nm) : meetL S st nm = meetL T st nm := by
  unfold meetL
  rw [h]
theorem meetL_mem {S : List Section} {st : List ByteArray × List ByteArray} {nm x : ByteArray} (h : x ∈ (meetL S st nm).1) : x ∈ st.1 ∨ (x = nm ∧ hasS S nm = true) := by
  unfold meetL at h
  by_cases h1 : hasS S nm = true
  · rw [if_pos h1] at h
    split at h
    · exact .inl h
    · rcases List.mem_append.1 h with h | h
      · exact .inl h
      · exact .inr ⟨by simpa using h, h1⟩
  · rw [if_neg h1] at h
    split at h <;> exact .inl h
theorem meets_alike {S T : List Section} {Q : ByteArray → Prop} : ∀ (ms : List Mend) (st : List ByteArray × List ByteArray), (∀ m ∈ ms, hasS S m.name = hasS T m.name ∧ (hasS S m.name = true → Q m.name)) → (∀ x ∈ st.1, Q x) → meetsL S st ms = meetsL T st ms ∧ ∀ x ∈ (meetsL S st ms).1, Q x
  | [], st, _, h => ⟨rfl, h⟩
  | m :: ms, st, hm, h => by
    have h1 := hm m (List.mem_cons_self ..)
    have h2 := meets_alike ms (meetL S st m.name) (fun x hx => hm x (List.mem_cons_of_mem _ hx)) (fun x hx => by
      rcases meetL_mem hx with hx | ⟨e, hx2⟩
      · exact h x hx
      · rw [e]
        exact h1.2 hx2)
    refine ⟨?_, h2.2⟩
    have h3 : meetsL S st (m :: ms) = meetsL S (meetL S st m.name) ms := rfl
    have h4 : meetsL T st (m :: ms) = meetsL T (meetL T st m.name) ms := rfl
    rw [h3, h4, h2.1, meetL_same h1.1]

/-- Sections that tell alike of each name that is reached. -/
structure Alike (S T : List Section) (Q : ByteArray → Prop) : Prop where
  main : Q mainB
  find : ∀ nm, Q nm → secFind S nm = secFind T nm ∧ hasS S nm = true
  mends : ∀ nm, Q nm → ∀ m ∈ mendsOf S nm, hasS S m.name = hasS T m.name ∧ (hasS S m.name = true → Q m.name)
theorem reach_alike {S T : List Section} {Q : ByteArray → Prop} (A : Alike S T Q) : ∀ (f i : Nat) (st : List ByteArray × List ByteArray), (∀ x ∈ st.1, Q x) → reachL S f i st = reachL T f i st ∧ ∀ x ∈ (reachL S f i st).1, Q x
  | 0, i, st, h => ⟨rfl, h⟩
  | f + 1, i, st, h => by
    rw [reachL, reachL]
    cases hi : st.1[i]? with
    | none => exact ⟨rfl, h⟩
    | some nm =>
      simp only []
      have hq : Q nm := h nm (List.mem_of_getElem? hi)
      have hm : mendsOf T nm = mendsOf S nm := by
        unfold mendsOf
        rw [(A.find nm hq).1]
      rw [hm]
      obtain ⟨h1, h2⟩ := meets_alike (mendsOf S nm) st (A.mends nm hq) h
      rw [← h1]
      exact reach_alike A f (i + 1) _ h2
theorem reachL_fuel {S : List Section} : ∀ (f g i : Nat) (st : List ByteArray × List ByteArray), RInv S st → S.length ≤ f + i → S.length ≤ g + i → reachL S f i st = reachL S g i st
  | 0, g, i, st, h, hf, hg => by
    have := h.len
    rw [reachL_end (f := 0) (by omega), reachL_end (f := g) (by omega)]
  | f + 1, g, i, st, h, hf, hg => by
    cases hi : st.1[i]? with
    | none =>
      have := List.getElem?_eq_none_iff.1 hi
      rw [reachL_end (f := f + 1) this, reachL_end (f := g) this]
    | some nm =>
      have h1 := (List.getElem?_eq_some_iff.1 hi).1
      have h2 := h.len
      obtain ⟨g, rfl⟩ : ∃ g', g = g' + 1 := ⟨g - 1, by omega⟩
      rw [reachL, reachL, hi]
      simp only []
      exact reachL_fuel f g (i + 1) _ (h.meets _).1 (by omega) (by omega)
theorem reached_alike {S T : List Section} {Q : ByteArray → Prop} (A : Alike S T Q) : reached S = reached T ∧ (∀ x ∈ (reached S).1, Q x) ∧ hasS S mainB = true ∧ hasS T mainB = true := by
  have h1 := A.find mainB A.main
  have h2 : hasS T mainB = true := by rw [hasS_find, ← h1.1, ← hasS_find]; exact h1.2
  have h3 := reach_alike A (max S.length T.length) 0 ([mainB], []) (fun x hx => by
    have : x = mainB := by simpa using hx
    subst this
    exact A.main)
  have e1 : reached S = reachL S (max S.length T.length) 0 ([mainB], []) := reachL_fuel _ _ _ _ (RInv.begin h1.2) (by omega) (by omega)
  have e2 : reached T = reachL T (max S.length T.length) 0 ([mainB], []) := reachL_fuel _ _ _ _ (RInv.begin h2) (by omega) (by omega)
  rw [e1, e2]
  exact ⟨h3.1, h3.2, h1.2, h2⟩
theorem routsTo_alike {S T : List Section} {order : List ByteArray} (h : ∀ x ∈ order, secFind S x = secFind T x) : ∀ (f i : Nat) (rs : List Routine) (g : Image), f + i ≤ order.length → routsTo S order f i rs g = routsTo T order f i rs g
  | 0, i, rs, g, _ => rfl
  | f + 1, i, rs, g, hf => by
    rw [routsTo, routsTo]
    have e : order.getD i ByteArray.empty = order[i] := by rw [List.getD_eq_getElem?_getD, List.getElem?_eq_getElem (by omega)]; rfl
    have e2 : secAt S (order.getD i ByteArray.empty) = secAt T (order.getD i ByteArray.empty) := by
      unfold secAt
      rw [h _ (by rw [e]; exact List.getElem_mem _)]
    rw [e2]
    cases routB order (secAt T (order.getD i ByteArray.empty)) with
    | none => rfl
    | some c => exact routsTo_alike h f (i + 1) _ g (by omega)
theorem metF_good {l : List Object} (h : linkF l = (0, 0)) (hm : hasS (allS l) mainB = true) : metF l = (0, 0) ∧ metO l = reached (allS l) := by
  have h1 : metF l = (0, 0) := by
    unfold metF
    rw [h, if_neg (by simp), if_neg (by rw [hm]; simp)]
  refine ⟨h1, ?_⟩
  unfold metO
  rw [h1, if_neg (by simp)]
theorem linkDo_alike {l m : List Object} {Q : ByteArray → Prop} (hl : linkF l = (0, 0)) (hm : linkF m = (0, 0)) (A : Alike (allS l) (allS m) Q) (hg : (l.getD 0 ⟨[], []⟩).globals = (m.getD 0 ⟨[], []⟩).globals) : linkDo l = linkDo m := by
  obtain ⟨h1, h2, h3, h4⟩ := reached_alike A
  obtain ⟨a1, a2⟩ := metF_good hl h3
  obtain ⟨b1, b2⟩ := metF_good hm h4
  unfold linkDo
  rw [a1, b1, if_neg (by simp), if_neg (by simp), a2, b2, ← h1, hg]
  exact routsTo_alike (fun x hx => (A.find x (h2 x hx)).1) _ _ _ _ (by omega)

theorem linkAt_good {l : List Object} {i : Nat} {o : Object} (h : LinkOkAt l i o) : linkAt l i o = (0, 0) := by
  unfold linkAt
  rw [(objOk_iff o).2 h.ok, if_neg (by simp), h.glob, if_neg (by unfold sameG; simp), if_neg]
  intro hx
  obtain ⟨s, hs, e⟩ := List.any_eq_true.1 hx
  rw [h.new s hs] at e
  cases e
theorem linkFrom_good {l : List Object} (h : ∀ (k : Nat) o, l[k]? = some o → LinkOkAt l k o) : ∀ (f i : Nat), linkFrom l f i = (0, 0)
  | 0, _ => rfl
  | f + 1, i => by
    rw [linkFrom]
    cases hi : l[i]? with
    | none => rfl
    | some o =>
      simp only []
      rw [linkAt_good (h i o hi), if_neg (by simp)]
      exact linkFrom_good h f (i + 1)
theorem linkF_good {l : List Object} (h0 : 0 < l.length) (h1 : l.length ≤ 12) (h : ∀ (k : Nat) o, l[k]? = some o → LinkOkAt l k o) : linkF l = (0, 0) := by
  unfold linkF
  rw [if_neg (by omega), if_neg (by omega)]
  exact linkFrom_good h _ _

/-- No two sections have one name. -/
def Distinct (S : List Section) : Prop := ∀ s ∈ S, ∀ t ∈ S, s.name = t.name → s = t
theorem secFind_mem {S : List Section} (hd : Distinct S) {s : Section} (hs : s ∈ S) : secFind S s.name = some s := by
  obtain ⟨t, e, ht, hn⟩ := secFind_has (hasS_true.2 ⟨s, hs, rfl⟩)
  rw [e, hd t ht s hs hn]
theorem hasS_mem {S T : List Section} (h : ∀ s, s ∈ S ↔ s ∈ T) (nm : ByteArray) : hasS S nm = hasS T nm := by
  rw [Bool.eq_iff_iff, hasS_true, hasS_true]
  exact ⟨fun ⟨x, hx, e⟩ => ⟨x, (h x).1 hx, e⟩, fun ⟨x, hx, e⟩ => ⟨x, (h x).2 hx, e⟩⟩
theorem secFind_ext {S T : List Section} (hd : Distinct S) (h : ∀ s, s ∈ S ↔ s ∈ T) (nm : ByteArray) : secFind S nm = secFind T nm := by
  have hT : Distinct T := fun s hs t ht => hd s ((h s).2 hs) t ((h t).2 ht)
  cases hh : hasS S nm with
  | false =>
    rw [secFind_none hh, secFind_none ((hasS_mem h nm).symm.trans hh)]
  | true =>
    obtain ⟨s, hs, e⟩ := hasS_true.1 hh
    subst e
    rw [secFind_mem hd hs, secFind_mem hT ((h s).1 hs)]
theorem alike_ext {S T : List Section} (hd : Distinct S) (h : ∀ s, s ∈ S ↔ s ∈ T) (hm : hasS S mainB = true) : Alike S T fun nm => hasS S nm = true where
  main := hm
  find := fun nm hq => ⟨secFind_ext hd h nm, hq⟩
  mends := fun nm _ m _ => ⟨hasS_mem h m.name, fun e => e⟩

/-- What has been met when the names ahead of place i are done. -/
def Named (S : List Section) (ord : List ByteArray) (nm : ByteArray) : Prop := ∃ (k : Nat) (x : ByteArray), ord[k]? = some x ∧ ∃ m ∈ mendsOf S x, m.name = nm
theorem Named.grow {S : List Section} {a b : List ByteArray} {nm : ByteArray} (h : Named S a nm) (hp : a <+: b) : Named S b nm := by
  obtain ⟨k, x, hx, hm⟩ := h
  obtain ⟨t, rfl⟩ := hp
  exact ⟨k, x, by rw [List.getElem?_append_left (List.getElem?_eq_some_iff.1 hx).1]; exact hx, hm⟩
structure MetI (S : List Section) (i : Nat) (st : List ByteArray × List ByteArray) : Prop where
  le : i ≤ st.1.length
  done : ∀ (j : Nat) x, j < i → st.1[j]? = some x → ∀ m ∈ mendsOf S x, (hasS S m.name = true → m.name ∈ st.1) ∧ (hasS S m.name = false → m.name ∈ st.2)
  und : ∀ y ∈ st.2, hasS S y = false ∧ Named S st.1 y
  first : st.1[0]? = some mainB
  ord : ∀ (j : Nat) y, 1 ≤ j → st.1[j]? = some y → Named S st.1 y
  once : st.2.Nodup
structure Grows (st st' : List ByteArray × List ByteArray) : Prop where
  one : st.1 <+: st'.1
  two : ∀ x ∈ st.2, x ∈ st'.2
theorem Grows.refl (st : List ByteArray × List ByteArray) : Grows st st := ⟨List.prefix_refl _, fun _ h => h⟩
theorem Grows.trans {a b c : List ByteArray × List ByteArray} (h : Grows a b) (k : Grows b c) : Grows a c := ⟨h.one.trans k.one, fun x hx => k.two x (h.two x hx)⟩
theorem Grows.at_ {a b : List ByteArray × List ByteArray} (h : Grows a b) {j : Nat} (hj : j < a.1.length) : b.1[j]? = a.1[j]? := by
  obtain ⟨t, e⟩ := h.one
  rw [← e, List.getElem?_append_left hj]
theorem meetL_grows (S : List Section) (st : List ByteArray × List ByteArray) (nm : ByteArray) : Grows st (meetL S st nm) := by
  unfold meetL
  split <;> split
  · exact Grows.refl _
  · exact ⟨List.prefix_append _ _, fun _ h => h⟩
  · exact Grows.refl _
  · exact ⟨List.prefix_refl _, fun x hx => List.mem_append_left _ hx⟩
theorem meetsL_grows (S : List Section) : ∀ (ms : List Mend) (st : List ByteArray × List ByteArray), Grows st (meetsL S st ms)
  | [], st => Grows.refl _
  | m :: ms, st => (meetL_grows S st m.name).trans (meetsL_grows S ms _)
theorem meetL_has (S : List Section) (st : List ByteArray × List ByteArray) (nm : ByteArray) : (hasS S nm = true → nm ∈ (meetL S st nm).1) ∧ (hasS S nm = false → nm ∈ (meetL S st nm).2) := by
  unfold meetL
  constructor
  · intro h
    rw [if_pos h]
    split
    · rename_i h1
      exact inB_iff.1 h1
    · simp
  · intro h
    rw [if_neg (by rw [h]; simp)]
    split
    · rename_i h1
      exact inB_iff.1 h1
    · simp
theorem meetsL_has (S : List Section) : ∀ (ms : List Mend) (st : List ByteArray × List ByteArray), ∀ m ∈ ms, (hasS S m.name = true → m.name ∈ (meetsL S st ms).1) ∧ (hasS S m.name = false → m.name ∈ (meetsL S st ms).2)
  | [], st, m, hm => by cases hm
  | a :: ms, st, m, hm => by
    have hg := meetsL_grows S ms (meetL S st a.name)
    show (_ → m.name ∈ (meetsL S (meetL S st a.name) ms).1) ∧ (_ → m.name ∈ (meetsL S (meetL S st a.name) ms).2)
    rcases List.mem_cons.1 hm with rfl | hm
    · have h := meetL_has S st m.name
      exact ⟨fun e => hg.one.subset (h.1 e), fun e => hg.two _ (h.2 e)⟩
    · exact meetsL_has S ms _ m hm
theorem meetL_at {S : List Section} {st : List ByteArray × List ByteArray} {nm y : ByteArray} {j : Nat} (h : (meetL S st nm).1[j]? = some y) : st.1[j]? = some y ∨ y = nm := by
  by_cases hj : j < st.1.length
  · rw [(meetL_grows S st nm).at_ hj] at h
    exact .inl h
  · unfold meetL at h
    split at h <;> split at h
    · exact .inl h
    · have hl := (List.getElem?_eq_some_iff.1 h).1
      simp only [List.length_append, List.length_singleton] at hl
      obtain rfl : j = st.1.length := by omega
      rw [List.getElem?_concat_length] at h
      injection h with h
      exact .inr h.symm
    · exact .inl h
    · exact .inl h
theorem meetL_two {S : List Section} {st : List ByteArray × List ByteArray} {nm y : ByteArray} (h : y ∈ (meetL S st nm).2) : y ∈ st.2 ∨ (y = nm ∧ hasS S nm = false) := by
  unfold meetL at h
  by_cases h1 : hasS S nm = true
  · rw [if_pos h1] at h
    split at h <;> exact .inl h
  · rw [if_neg h1] at h
    split at h
    · exact .inl h
    · rcases List.mem_append.1 h with h | h
      · exact .inl h
      · exact .inr ⟨by simpa using h, by simpa using h1⟩
theorem meetL_once {S : List Section} {st : List ByteArray × List ByteArray} {nm : ByteArray} (h : st.2.Nodup) : (meetL S st nm).2.Nodup := by
  unfold meetL
  split <;> split
  · exact h
  · exact h
  · exact h
  · rename_i h2
    refine List.nodup_append.2 ⟨h, by simp, fun a ha b hb => ?_⟩
    have : b = nm := by simpa using hb
    subst this
    exact fun e => h2 (inB_iff.2 (e ▸ ha))
theorem MetI.meet {S : List Section} {i : Nat} {st : List ByteArray × List ByteArray} (h : MetI S i st) {nm : ByteArray} (hn : Named S st.1 nm) : MetI S i (meetL S st nm) where
  le := Nat.le_trans h.le (meetL_grows S st nm).one.length_le
  done := fun j x hj hx m hm => by
    have hg := meetL_grows S st nm
    rw [hg.at_ (Nat.lt_of_lt_of_le hj h.le)] at hx
    have := h.done j x hj hx m hm
    exact ⟨fun e => hg.one.subset (this.1 e), fun e => hg.two _ (this.2 e)⟩
  und := fun y hy => by
    have hg := meetL_grows S st nm
    rcases meetL_two hy with hy | ⟨rfl, hy⟩
    · exact ⟨(h.und y hy).1, (h.und y hy).2.grow hg.one⟩
    · exact ⟨hy, hn.grow hg.one⟩
  first := by rw [(meetL_grows S st nm).at_ (List.getElem?_eq_some_iff.1 h.first).1]; exact h.first
  ord := fun j y hj hy => by
    have hg := meetL_grows S st nm
    rcases meetL_at hy with hy | rfl
    · exact (h.ord j y hj hy).grow hg.one
    · exact hn.grow hg.one
  once := meetL_once h.once
theorem MetI.meets {S : List Section} {i : Nat} : ∀ (ms : List Mend) {st : List ByteArray × List ByteArray}, MetI S i st → (∀ m ∈ ms, Named S st.1 m.name) → MetI S i (meetsL S st ms)
  | [], st, h, _ => h
  | m :: ms, st, h, hm => MetI.meets ms (h.meet (hm m (List.mem_cons_self ..))) fun x hx => (hm x (List.mem_cons_of_mem _ hx)).grow (meetL_grows S st m.name).one
theorem MetI.next {S : List Section} {i : Nat} {st : List ByteArray × List ByteArray} (h : MetI S i st) {nm : ByteArray} (hi : st.1[i]? = some nm) : MetI S (i + 1) (meetsL S st (mendsOf S nm)) := by
  have h1 := h.meets (mendsOf S nm) (fun m hm => ⟨i, nm, hi, m, hm, rfl⟩)
  have hg := meetsL_grows S (mendsOf S nm) st
  have hl := (List.getElem?_eq_some_iff.1 hi).1
  refine ⟨Nat.le_trans hl hg.one.length_le, fun j x hj hx m hm => ?_, h1.und, h1.first, h1.ord, h1.once⟩
  by_cases e : j = i
  · subst e
    rw [hg.at_ hl, hi] at hx
    injection hx with hx
    subst hx
    exact meetsL_has S _ st m hm
  · exact h1.done j x (by omega) hx m hm
theorem reachL_met {S : List Section} : ∀ (f i : Nat) (st : List ByteArray × List ByteArray), S.length ≤ f + i → RInv S st → MetI S i st → ∃ st', reachL S f i st = st' ∧ RInv S st' ∧ MetI S st'.1.length st'
  | 0, i, st, hf, h, hm => by
    have := h.len
    have h2 := hm.le
    obtain rfl : i = st.1.length := by omega
    exact ⟨st, rfl, h, hm⟩
  | f + 1, i, st, hf, h, hm => by
    rw [reachL]
    cases hi : st.1[i]? with
    | none =>
      have := List.getElem?_eq_none_iff.1 hi
      have h2 := hm.le
      obtain rfl : i = st.1.length := by omega
      exact ⟨st, rfl, h, hm⟩
    | some nm => exact reachL_met f (i + 1) _ (by omega) (h.meets _).1 (hm.next hi)
theorem reached_met {S : List Section} (h : hasS S mainB = true) : RInv S (reached S) ∧ MetI S (reached S).1.length (reached S) := by
  obtain ⟨st', e, h1, h2⟩ := reachL_met (S := S) S.length 0 ([mainB], []) (by omega) (RInv.begin h) ⟨Nat.zero_le _, fun j x hj => by omega, fun y hy => (by cases hy), rfl, fun j y hj hy => by
    have := (List.getElem?_eq_some_iff.1 hy).1
    simp at this
    omega, by simp⟩
  have : reached S = st' := e
  rw [this]
  exact ⟨h1, h2⟩
/-- Each name that some reached one's mend tells is reached, or undone. -/
theorem MetI.all {S : List Section} {st : List ByteArray × List ByteArray} (h : MetI S st.1.length st) {x : ByteArray} (hx : x ∈ st.1) {m : Mend} (hm : m ∈ mendsOf S x) : (hasS S m.name = true → m.name ∈ st.1) ∧ (hasS S m.name = false → m.name ∈ st.2) := by
  obtain ⟨j, hj, e⟩ := List.mem_iff_getElem.1 hx
  exact h.done j x hj (by rw [List.getElem?_eq_getElem hj, e]) m hm

/-- Mends that all have places mend. -/
theorem mendTo_some {order : List ByteArray} : ∀ (ms : List Mend) (l : List Mac), (∀ m ∈ ms, 0 ≤ placeB order m.name) → ∃ c, mendTo order ms l = some c
  | [], l, _ => ⟨l, rfl⟩
  | m :: ms, l, h => by
    rw [mendTo, if_neg (by have := h m (List.mem_cons_self ..); omega)]
    exact mendTo_some ms _ fun x hx => h x (List.mem_cons_of_mem _ hx)
theorem mendTo_none {order : List ByteArray} : ∀ (ms : List Mend) (l : List Mac), (∃ m ∈ ms, placeB order m.name < 0) → mendTo order ms l = none
  | [], l, ⟨m, hm, _⟩ => by cases hm
  | a :: ms, l, ⟨m, hm, h⟩ => by
    rw [mendTo]
    split
    · rfl
    · rename_i h1
      rcases List.mem_cons.1 hm with rfl | hm
      · exact absurd h h1
      · exact mendTo_none ms _ ⟨m, hm, h⟩
theorem placeB_mem {order : List ByteArray} {nm : ByteArray} : 0 ≤ placeB order nm ↔ nm ∈ order := by
  unfold placeB
  cases h : order.findIdx? fun x => decide (x = nm) with
  | none =>
    rw [List.findIdx?_eq_none_iff] at h
    refine ⟨fun h1 => by simp at h1, fun h1 => ?_⟩
    have := h nm h1
    simp at this
  | some k =>
    rw [List.findIdx?_eq_some_iff_getElem] at h
    obtain ⟨hk, h1, _⟩ := h
    refine ⟨fun _ => ?_, fun _ => by simp⟩
    have e : order[k] = nm := by simpa using h1
    exact e ▸ List.getElem_mem hk
theorem placeB_at {order : List ByteArray} (hd : order.Nodup) {nm : ByteArray} {k : Nat} (h : order[k]? = some nm) : placeB order nm = (k : Int) := by
  unfold placeB
  obtain ⟨hk, e⟩ := List.getElem?_eq_some_iff.1 h
  have : (order.findIdx? fun x => decide (x = nm)) = some k := by
    rw [List.findIdx?_eq_some_iff_getElem]
    refine ⟨hk, by rw [e]; simp, fun j hj => ?_⟩
    have := (List.nodup_iff_pairwise_ne.1 hd)
    have := List.pairwise_iff_getElem.1 this j k (by omega) hk hj
    rw [e] at this
    simpa using this
  rw [this]
theorem routsTo_fine {S : List Section} {order : List ByteArray} (g : Image) (h : ∀ x ∈ order, ∃ s c, secFind S x = some s ∧ routB order s = some c) : ∀ (f i : Nat) (rs : List Routine), f + i = order.length → rs.length = i → order.length ≤ 40 →
    (∀ (k : Nat) (r : Routine), rs[k]? = some r → ∃ s, order[k]? = some r.name ∧ secFind S r.name = some s ∧ routB order s = some r.code) →
    ∃ rs', routsTo S order f i rs g = (⟨g.globals, rs'⟩, (0, 0)) ∧ rs'.length = order.length ∧ ∀ (k : Nat) (r : Routine), rs'[k]? = some r → ∃ s, order[k]? = some r.name ∧ secFind S r.name = some s ∧ routB order s = some r.code
  | 0, i, rs, hf, hr, hm, hk => by
    rw [routsTo, if_neg (by omega)]
    exact ⟨rs, rfl, by omega, hk⟩
  | f + 1, i, rs, hf, hr, hm, hk => by
    have hi : i < order.length := by omega
    have e : order.getD i ByteArray.empty = order[i] := by rw [List.getD_eq_getElem?_getD, List.getElem?_eq_getElem hi]; rfl
    obtain ⟨s, c, h1, h2⟩ := h order[i] (List.getElem_mem hi)
    rw [routsTo, e]
    have e2 : secAt S order[i] = s := by unfold secAt; rw [h1]; rfl
    rw [e2, h2]
    simp only []
    refine routsTo_fine g h f (i + 1) _ (by omega) (by simp [hr]) hm fun k r hr' => ?_
    by_cases hl : k < rs.length
    · rw [List.getElem?_append_left hl] at hr'
      exact hk k r hr'
    · have hkl := (List.getElem?_eq_some_iff.1 hr').1
      simp only [List.length_append, List.length_singleton] at hkl
      obtain rfl : k = rs.length := by omega
      rw [List.getElem?_concat_length] at hr'
      injection hr' with hr'
      subst hr'
      rw [hr]
      exact ⟨s, List.getElem?_eq_getElem hi, h1, h2⟩
theorem routsTo_bad {S : List Section} {order : List ByteArray} (g : Image) {k : Nat} {x : ByteArray} {s : Section} (hx : order[k]? = some x) (hs : secFind S x = some s) (hb : routB order s = none) : ∀ (f i : Nat) (rs : List Routine), f + i = order.length → i ≤ k → ∃ j : Nat, routsTo S order f i rs g = (⟨[], []⟩, (6, (j : Int)))
  | 0, i, rs, hf, hik => by
    have := (List.getElem?_eq_some_iff.1 hx).1
    omega
  | f + 1, i, rs, hf, hik => by
    rw [routsTo]
    cases hc : routB order (secAt S (order.getD i ByteArray.empty)) with
    | none => exact ⟨i, rfl⟩
    | some c =>
      simp only []
      refine routsTo_bad g hx hs hb f (i + 1) _ (by omega) ?_
      rcases Nat.lt_or_ge i k with h | h
      · exact h
      · obtain rfl : i = k := by omega
        have e : order.getD i ByteArray.empty = x := by rw [List.getD_eq_getElem?_getD, hx]; rfl
        rw [e] at hc
        unfold secAt at hc
        rw [hs, Option.getD_some, hb] at hc
        cases hc
end Go.Proofs.YtemakpjickbmnaaDoor

/- What names need of a bundle, plainly: the least closed set of objects. -/
namespace Go.Proofs.YtemakpjickbmnaaDoor
open Go.RowKit
set_option linter.unusedSimpArgs false
set_option linter.unusedVariables false

/-- Marks of objects: what one has, another has. -/
def SubM (S T : List Bool) : Prop := ∀ i : Nat, S[i]? = some true → T[i]? = some true
theorem SubM.refl (S : List Bool) : SubM S S := fun _ h => h
theorem SubM.trans {S T U : List Bool} (h : SubM S T) (k : SubM T U) : SubM S U := fun i hi => k i (h i hi)
theorem SubM.eq : ∀ {S T : List Bool}, S.length = T.length → SubM S T → SubM T S → S = T
  | [], [], _, _, _ => rfl
  | a :: S, b :: T, hl, h, k => by
    have h0 := h 0
    have k0 := k 0
    simp only [List.getElem?_cons_zero, Option.some.injEq] at h0 k0
    have e : a = b := by
      cases a with
      | true => exact (h0 rfl).symm
      | false =>
        cases b with
        | true => exact absurd (k0 rfl) (by simp)
        | false => rfl
    subst e
    rw [SubM.eq (S := S) (T := T) (by simpa using hl) (fun i hi => by have := h (i + 1); simpa using this hi) (fun i hi => by have := k (i + 1); simpa using this hi)]
/-- How many are not marked. -/
def leftM (S : List Bool) : Nat := (S.filter (!·)).length
theorem leftM_le : ∀ {S T : List Bool}, S.length = T.length → SubM S T → leftM T ≤ leftM S
  | [], [], _, _ => Nat.le_refl _
  | a :: S, b :: T, hl, h => by
    have ih := leftM_le (S := S) (T := T) (by simpa using hl) (fun i hi => by have := h (i + 1); simpa using this hi)
    have h0 := h 0
    simp only [List.getElem?_cons_zero, Option.some.injEq] at h0
    unfold leftM at ih ⊢
    cases a <;> cases b <;> simp at h0 ⊢ <;> omega
theorem leftM_lt : ∀ {S T : List Bool}, S.length = T.length → SubM S T → ∀ k : Nat, T[k]? = some true → S[k]? ≠ some true → leftM T < leftM S
  | [], [], _, _, k, h, _ => by simp at h
  | a :: S, b :: T, hl, h, 0, hk, hn => by
    have ih := leftM_le (S := S) (T := T) (by simpa using hl) (fun i hi => by have := h (i + 1); simpa using this hi)
    simp only [List.getElem?_cons_zero, Option.some.injEq, ne_eq] at hk hn
    subst hk
    unfold leftM at ih ⊢
    cases a <;> simp at hn ⊢
    omega
  | a :: S, b :: T, hl, h, k + 1, hk, hn => by
    have ih := leftM_lt (S := S) (T := T) (by simpa using hl) (fun i hi => by have := h (i + 1); simpa using this hi) k (by simpa using hk) (by simpa using hn)
    have h0 := h 0
    simp only [List.getElem?_cons_zero, Option.some.injEq] at h0
    unfold leftM at ih ⊢
    cases a <;> cases b <;> simp at h0 ⊢ <;> omega
theorem leftM_len (S : List Bool) : leftM S ≤ S.length := List.length_filter_le _ _
theorem leftM_zero : ∀ {S : List Bool}, leftM S = 0 → ∀ i : Nat, i < S.length → S[i]? = some true
  | [], _, i, h => by simp at h
  | a :: S, h, i, hi => by
    unfold leftM at h
    cases a with
    | false => simp at h
    | true =>
      cases i with
      | zero => rfl
      | succ i => simpa using leftM_zero (S := S) (by unfold leftM; simpa using h) i (by simpa using hi)
theorem sub_set {S : List Bool} {k : Nat} (h : k < S.length) : SubM S (S.set k true) := fun i hi => by
  by_cases e : k = i
  · subst e
    rw [List.getElem?_set_self h]
  · rw [List.getElem?_set_ne e]
    exact hi
theorem set_at {S : List Bool} {k : Nat} (h : k < S.length) : (S.set k true)[k]? = some true := List.getElem?_set_self h
theorem set_least {S T : List Bool} {k : Nat} (h : SubM S T) (hk : T[k]? = some true) : SubM (S.set k true) T := fun i hi => by
  by_cases e : k = i
  · subst e
    exact hk
  · rw [List.getElem?_set_ne e] at hi
    exact h i hi

/-- What the mends of an object lead to is marked. -/
def LedM (l : List Object) (S : List Bool) (ms : List Mend) : Prop := ∀ m ∈ ms, ∀ j : Nat, ownerL l m.name = (j : Int) → S[j]? = some true
def mendsO (o : Object) : List Mend := o.sections.flatMap (·.mends)
def ClosedM (l : List Object) (S : List Bool) : Prop := ∀ (i : Nat) o, S[i]? = some true → l[i]? = some o → LedM l S (mendsO o)
theorem LedM.sub {l : List Object} {S T : List Bool} {ms : List Mend} (h : LedM l S ms) (k : SubM S T) : LedM l T ms := fun m hm j hj => k j (h m hm j hj)
theorem LedM.app {l : List Object} {S : List Bool} {a b : List Mend} (h : LedM l S a) (k : LedM l S b) : LedM l S (a ++ b) := fun m hm j hj => by
  rcases List.mem_append.1 hm with h1 | h1
  · exact h m h1 j hj
  · exact k m h1 j hj
/-- What a call for object i leaves of the marks S. -/
structure NeedM (l : List Object) (S : List Bool) (i : Int) (S' : List Bool) : Prop where
  len : S'.length = S.length
  sub : SubM S S'
  here : ∀ k : Nat, i = (k : Int) → S'[k]? = some true
  news : ∀ (x : Nat) o, S'[x]? = some true → S[x]? ≠ some true → l[x]? = some o → LedM l S' (mendsO o)
  least : ∀ T, ClosedM l T → SubM S T → (∀ k : Nat, i = (k : Int) → T[k]? = some true) → SubM S' T
/-- The least closed marks that have all of ks. -/
structure GotM (l : List Object) (ks : List Nat) (S : List Bool) : Prop where
  len : S.length = l.length
  has : ∀ k ∈ ks, S[k]? = some true
  closed : ClosedM l S
  least : ∀ T, ClosedM l T → (∀ k ∈ ks, T[k]? = some true) → SubM S T
theorem GotM.unique {l : List Object} {ks : List Nat} {S T : List Bool} (h : GotM l ks S) (k : GotM l ks T) : S = T := SubM.eq (h.len.trans k.len.symm) (h.least T k.closed k.has) (k.least S h.closed h.has)
theorem GotM.start (l : List Object) : GotM l [] (List.replicate l.length false) where
  len := by simp
  has := fun k h => by cases h
  closed := fun i o h => by
    rw [List.getElem?_replicate] at h
    split at h <;> simp at h
  least := fun T _ _ i h => by
    rw [List.getElem?_replicate] at h
    split at h <;> simp at h
theorem GotM.step {l : List Object} {ks : List Nat} {S S' : List Bool} {k : Nat} (h : GotM l ks S) (hn : NeedM l S (k : Int) S') : GotM l (ks ++ [k]) S' where
  len := hn.len.trans h.len
  has := fun j hj => by
    rcases List.mem_append.1 hj with h1 | h1
    · exact hn.sub j (h.has j h1)
    · obtain rfl : j = k := by simpa using h1
      exact hn.here j rfl
  closed := fun i o hi ho => by
    by_cases e : S[i]? = some true
    · exact (h.closed i o e ho).sub hn.sub
    · exact hn.news i o hi e ho
  least := fun T hT hk => hn.least T hT (h.least T hT fun j hj => hk j (List.mem_append_left _ hj)) fun j hj => by
    obtain rfl : k = j := by omega
    exact hk k (by simp)
theorem NeedM.none {l : List Object} {S : List Bool} {i : Int} (h : i < 0 ∨ ∃ k : Nat, i = (k : Int) ∧ S[k]? = some true) : NeedM l S i S where
  len := rfl
  sub := SubM.refl _
  here := fun k hk => by
    rcases h with h | ⟨k', h1, h2⟩
    · omega
    · obtain rfl : k = k' := by omega
      exact h2
  news := fun x o h1 h2 => absurd h1 h2
  least := fun T _ h _ => h
/-- How far a call has come that has marked object k: the mends ms have been followed. -/
structure MidN (l : List Object) (S1 : List Bool) (ms : List Mend) (S' : List Bool) : Prop where
  len : S'.length = S1.length
  sub : SubM S1 S'
  led : LedM l S' ms
  news : ∀ (x : Nat) o, S'[x]? = some true → S1[x]? ≠ some true → l[x]? = some o → LedM l S' (mendsO o)
  least : ∀ T, ClosedM l T → SubM S1 T → LedM l T ms → SubM S' T
theorem MidN.begin (l : List Object) (S1 : List Bool) : MidN l S1 [] S1 := ⟨rfl, SubM.refl _, (fun m h => by cases h), (fun x o h1 h2 => absurd h1 h2), fun T _ h _ => h⟩
theorem MidN.step {l : List Object} {S1 S' S'' : List Bool} {ms : List Mend} {m : Mend} (h : MidN l S1 ms S') (hn : NeedM l S' (ownerL l m.name) S'') : MidN l S1 (ms ++ [m]) S'' where
  len := hn.len.trans h.len
  sub := h.sub.trans hn.sub
  led := (h.led.sub hn.sub).app fun m' hm j hj => by
    obtain rfl : m' = m := by simpa using hm
    exact hn.here j hj
  news := fun x o h1 h2 ho => by
    by_cases e : S'[x]? = some true
    · exact (h.news x o e h2 ho).sub hn.sub
    · exact hn.news x o h1 e ho
  least := fun T hT h1 h2 => hn.least T hT (h.least T hT h1 fun m' hm' => h2 m' (List.mem_append_left _ hm')) fun k hk => h2 m (by simp) k hk
theorem MidN.need {l : List Object} {S S' : List Bool} {k : Nat} {o : Object} (hk : k < S.length) (hn : S[k]? ≠ some true) (ho : l[k]? = some o) (h : MidN l (S.set k true) (mendsO o) S') : NeedM l S (k : Int) S' where
  len := by rw [h.len, List.length_set]
  sub := (sub_set hk).trans h.sub
  here := fun j hj => by
    obtain rfl : k = j := by omega
    exact h.sub k (set_at hk)
  news := fun x o' h1 h2 h3 => by
    by_cases e : k = x
    · subst e
      obtain rfl : o = o' := Option.some.inj (ho.symm.trans h3)
      exact h.led
    · exact h.news x o' h1 (by rw [List.getElem?_set_ne e]; exact h2) h3
  least := fun T hT h1 h2 => h.least T hT (set_least h1 (h2 k rfl)) (hT k o (h2 k rfl) ho)
/-- The places that are marked, in order. -/
def idxsTo (S : List Bool) : Nat → List Int
  | 0 => []
  | k + 1 => idxsTo S k ++ (if S[k]? = some true then [(k : Int)] else [])
def idxsM (S : List Bool) : List Int := idxsTo S S.length
theorem idxsTo_len (S : List Bool) : ∀ k, (idxsTo S k).length ≤ k
  | 0 => Nat.le_refl _
  | k + 1 => by
    have := idxsTo_len S k
    rw [idxsTo, List.length_append]
    split <;> simp <;> omega
theorem idxsTo_yes {S : List Bool} {k : Nat} (h : S[k]? = some true) : idxsTo S (k + 1) = idxsTo S k ++ [(k : Int)] := by rw [idxsTo, if_pos h]
theorem idxsTo_no {S : List Bool} {k : Nat} (h : S[k]? ≠ some true) : idxsTo S (k + 1) = idxsTo S k := by rw [idxsTo, if_neg h, List.append_nil]

/-- The document's marks behind some rounds: S0 are marked, what is marked is needed; closed, or as many are marked as rounds have been. -/
structure RoundM (l : List Object) (ks : List Nat) (r : Nat) (S : List Bool) : Prop where
  len : S.length = l.length
  has : ∀ k ∈ ks, S[k]? = some true
  least : ∀ T, ClosedM l T → (∀ k ∈ ks, T[k]? = some true) → SubM S T
  far : ClosedM l S ∨ leftM S + r ≤ l.length
theorem owner_there {l : List Object} {nm : ByteArray} {j : Nat} (h : ownerL l nm = (j : Int)) : j < l.length := by
  unfold ownerL at h
  cases e : l.findIdx? fun o => hasS o.sections nm with
  | none => rw [e] at h; simp at h
  | some k =>
    rw [e] at h
    rw [List.findIdx?_eq_some_iff_getElem] at e
    obtain ⟨hk, _⟩ := e
    simp only [] at h
    omega
/-- Within a round: what was marked at its start, and stands ahead of i, leads to marks. -/
structure MidQ (l : List Object) (ks : List Nat) (S : List Bool) (i : Nat) (S' : List Bool) : Prop where
  len : S'.length = S.length
  sub : SubM S S'
  least : ∀ T, ClosedM l T → (∀ k ∈ ks, T[k]? = some true) → SubM S' T
  led : ∀ (x : Nat) o, x < i → S[x]? = some true → l[x]? = some o → LedM l S' (mendsO o)
theorem RoundM.begin {l : List Object} {ks : List Nat} {r : Nat} {S : List Bool} (h : RoundM l ks r S) : MidQ l ks S 0 S := ⟨rfl, SubM.refl _, h.least, fun x o hx => absurd hx (Nat.not_lt_zero _)⟩
theorem MidQ.next {l : List Object} {ks : List Nat} {r : Nat} {S S' : List Bool} (h : RoundM l ks r S) (k : MidQ l ks S l.length S') : RoundM l ks (r + 1) S' where
  len := k.len.trans h.len
  has := fun j hj => k.sub j (h.has j hj)
  least := k.least
  far := by
    have hlx : ∀ (x : Nat) o, l[x]? = some o → x < l.length := fun x o hx => (List.getElem?_eq_some_iff.1 hx).1
    rcases h.far with hc | hf
    · left
      have e : S' = S := SubM.eq k.len (k.least S hc h.has) k.sub
      rw [e]
      exact hc
    · by_cases e : SubM S' S
      · left
        have e' : S' = S := SubM.eq k.len e k.sub
        intro i o hi ho
        exact k.led i o (hlx i o ho) (by rw [← e']; exact hi) ho
      · right
        have hx : ∃ i : Nat, S'[i]? = some true ∧ S[i]? ≠ some true := Classical.byContradiction fun hne => e fun i hi => Classical.byContradiction fun hn => hne ⟨i, hi, hn⟩
        obtain ⟨i, h1, h2⟩ := hx
        have := leftM_lt (S := S) (T := S') k.len.symm k.sub i h1 h2
        omega
theorem RoundM.done {l : List Object} {ks : List Nat} {S : List Bool} (h : RoundM l ks l.length S) : GotM l ks S where
  len := h.len
  has := h.has
  least := h.least
  closed := by
    rcases h.far with hc | hf
    · exact hc
    · intro i o _ _ m _ j hj
      exact leftM_zero (by omega) j (by rw [h.len]; exact owner_there hj)
end Go.Proofs.YtemakpjickbmnaaDoor

/- Linking the objects that the laws make of raw numbers, plainly: in whatever order, and just those that are needed. -/
namespace Go.Proofs.YtemakpjickbmnaaDoor
open Go.RowKit
set_option linter.unusedSimpArgs false
set_option linter.unusedVariables false

theorem idx_same {o : Object} (h : ObjOk o) {i j : Nat} {s t : Section} (hs : o.sections[i]? = some s) (ht : o.sections[j]? = some t) (e : s.name = t.name) : i = j := by
  have key : ∀ (i j : Nat) (s t : Section), o.sections[i]? = some s → o.sections[j]? = some t → s.name = t.name → ¬ i < j := fun i j s t hs ht e hij => by
    have h1 := (h.secs j t ht).noS
    obtain ⟨hi, ei⟩ := List.getElem?_eq_some_iff.1 hs
    have hj := (List.getElem?_eq_some_iff.1 ht).1
    have : hasS (o.sections.take j) t.name = true := hasS_true.2 ⟨s, List.mem_iff_getElem.2 ⟨i, by rw [List.length_take]; omega, by rw [List.getElem_take]; exact ei⟩, e⟩
    rw [h1] at this
    cases this
  have h1 := key i j s t hs ht e
  have h2 := key j i t s ht hs e.symm
  omega
theorem distinct_ok {o : Object} (h : ObjOk o) : Distinct o.sections := fun s hs t ht e => by
  obtain ⟨i, hi, ei⟩ := List.mem_iff_getElem.1 hs
  obtain ⟨j, hj, ej⟩ := List.mem_iff_getElem.1 ht
  have hij := idx_same h (by rw [List.getElem?_eq_getElem hi, ei]) (by rw [List.getElem?_eq_getElem hj, ej]) e
  subst hij
  exact ei.symm.trans ej
/-- Objects of one section, of some places. -/
def pickL (o : Object) (ks : List Nat) : List Object := ks.map fun k => segO o k (k + 1)
theorem pickL_at {o : Object} {ks : List Nat} {i : Nat} {x : Object} (h : (pickL o ks)[i]? = some x) : ∃ k, ks[i]? = some k ∧ x = segO o k (k + 1) := by
  unfold pickL at h
  rw [List.getElem?_map] at h
  cases hk : ks[i]? with
  | none =>
    rw [hk] at h
    cases h
  | some k =>
    rw [hk] at h
    exact ⟨k, rfl, (Option.some.inj h).symm⟩
theorem seg_sec {o : Object} {k : Nat} {s : Section} : s ∈ (segO o k (k + 1)).sections ↔ o.sections[k]? = some s := by
  constructor
  · intro h
    obtain ⟨j, hj, e⟩ := List.mem_iff_getElem.1 h
    obtain ⟨h1, h2⟩ := seg_get (show (segO o k (k + 1)).sections[j]? = some s by rw [List.getElem?_eq_getElem hj, e])
    obtain rfl : j = 0 := by omega
    exact h1
  · intro h
    rw [seg_one h]
    simp
theorem pickL_secs {o : Object} {ks : List Nat} {s : Section} : s ∈ allS (pickL o ks) ↔ ∃ k ∈ ks, o.sections[k]? = some s := by
  unfold allS pickL
  rw [List.mem_flatMap]
  constructor
  · rintro ⟨x, hx, hs⟩
    obtain ⟨k, hk, rfl⟩ := List.mem_map.1 hx
    exact ⟨k, hk, seg_sec.1 hs⟩
  · rintro ⟨k, hk, hs⟩
    exact ⟨_, List.mem_map.2 ⟨k, hk, rfl⟩, seg_sec.2 hs⟩
theorem pickL_take (o : Object) (ks : List Nat) (i : Nat) : (pickL o ks).take i = pickL o (ks.take i) := by
  unfold pickL
  rw [List.map_take]
theorem pickL_link {o : Object} (h : ObjOk o) {ks : List Nat} (h0 : 0 < ks.length) (h1 : ks.length ≤ 12) (hd : ks.Nodup) : linkF (pickL o ks) = (0, 0) := by
  have hl : (pickL o ks).length = ks.length := by unfold pickL; simp
  refine linkF_good (by omega) (by omega) fun i x hx => ?_
  obtain ⟨k, hk, rfl⟩ := pickL_at hx
  refine ⟨seg_ok h _ _, ?_, fun s hs => ?_⟩
  · have hz : (pickL o ks)[0]? = some ((pickL o ks)[0]'(by omega)) := List.getElem?_eq_getElem (by omega)
    obtain ⟨k0, _, e0⟩ := pickL_at hz
    rw [List.getD_eq_getElem?_getD, hz, Option.getD_some, e0]
    rfl
  · have hs' := seg_sec.1 hs
    rw [pickL_take]
    refine hasS_false.2 fun t ht e => ?_
    obtain ⟨j, hj, htj⟩ := pickL_secs.1 ht
    have hjk := idx_same h htj hs' e
    subst hjk
    obtain ⟨p, hp, ep⟩ := List.mem_iff_getElem.1 hj
    rw [List.length_take] at hp
    rw [List.getElem_take] at ep
    obtain ⟨hi, ei⟩ := List.getElem?_eq_some_iff.1 hk
    have := List.pairwise_iff_getElem.1 (List.nodup_iff_pairwise_ne.1 hd) p i (by omega) hi (by omega)
    exact this (ep.trans ei.symm)
theorem one_link {o : Object} (h : ObjOk o) : linkF [o] = (0, 0) := linkF_good (by simp) (by simp) fun i x hx => by
  have hi := (List.getElem?_eq_some_iff.1 hx).1
  obtain rfl : i = 0 := by simpa using hi
  have e : x = o := by simpa using hx.symm
  subst e
  exact ⟨h, rfl, fun s hs => rfl⟩
theorem allS_one (o : Object) : allS [o] = o.sections := by unfold allS; simp
theorem kit_pickL (raw : List (List Int)) : kitL raw = pickL (objOf raw 6 true) (List.range (objOf raw 6 true).sections.length) := rfl
theorem kit_main {raw : List (List Int)} {s : Section} (h : (objOf raw 6 true).sections[0]? = some s) : s.name = mainB := by
  obtain ⟨_, rfl⟩ := objOf_at h
  rfl
theorem kit_hasMain {raw : List (List Int)} (h : 0 < (objOf raw 6 true).sections.length) : hasS (objOf raw 6 true).sections mainB = true := by
  have hs : (objOf raw 6 true).sections[0]? = some ((objOf raw 6 true).sections[0]'h) := List.getElem?_eq_getElem h
  exact hasS_true.2 ⟨_, List.getElem_mem h, kit_main hs⟩
/-- All of an object's sections, apart and in some order: what all in one give. -/
theorem apart_same {o : Object} (h : ObjOk o) (hm : hasS o.sections mainB = true) {ks : List Nat} (h1 : ks.length ≤ 12) (hd : ks.Nodup) (hall : ∀ k, k ∈ ks ↔ k < o.sections.length) : linkDo [o] = linkDo (pickL o ks) := by
  have h0 : 0 < ks.length := by
    obtain ⟨s, hs, _⟩ := hasS_true.1 hm
    obtain ⟨i, hi, _⟩ := List.mem_iff_getElem.1 hs
    exact List.length_pos_of_mem ((hall i).2 hi)
  have hmem : ∀ s, s ∈ o.sections ↔ s ∈ allS (pickL o ks) := fun s => by
    rw [pickL_secs]
    constructor
    · intro hs
      obtain ⟨i, hi, e⟩ := List.mem_iff_getElem.1 hs
      exact ⟨i, (hall i).2 hi, by rw [List.getElem?_eq_getElem hi, e]⟩
    · rintro ⟨k, _, hs⟩
      exact List.mem_of_getElem? hs
  refine linkDo_alike (one_link h) (pickL_link h h0 h1 hd) (Q := fun nm => hasS o.sections nm = true) ?_ ?_
  · rw [allS_one]
    exact alike_ext (distinct_ok h) hmem hm
  · obtain ⟨k, t, rfl⟩ : ∃ k t, ks = k :: t := by
      cases ks with
      | nil => simp at h0
      | cons k t => exact ⟨k, t, rfl⟩
    rfl
/-- Those that are needed of main are enough. -/
theorem need_same {raw : List (List Int)} (hr : ∀ l ∈ raw, ∀ x ∈ l, I64 x) (h0 : 0 < (kitL raw).length) {S : List Bool} (hg : GotM (kitL raw) [0] S) {ks : List Nat} (h1 : ks.length ≤ 12) (hd : ks.Nodup) (hks : ∀ k, k ∈ ks ↔ S[k]? = some true) : linkDo (kitL raw) = linkDo (pickL (objOf raw 6 true) ks) := by
  have h : ObjOk (objOf raw 6 true) := objOf_ok (by decide) hr
  have hn : (kitL raw).length = (objOf raw 6 true).sections.length := bunL_len _ _
  have h6 := kit_secs raw
  generalize ho : objOf raw 6 true = o at *
  have hk0 : 0 < o.sections.length := by omega
  have hlk : kitL raw = pickL o (List.range o.sections.length) := by rw [kit_pickL, ho]
  have hmain : ∀ s, o.sections[0]? = some s → s.name = mainB := fun s hs => by rw [← ho] at hs; exact kit_main hs
  have hS0 : S[0]? = some true := hg.has 0 (by simp)
  have hkp : 0 < ks.length := List.length_pos_of_mem ((hks 0).2 hS0)
  have hlen : S.length = o.sections.length := by rw [hg.len, hn]
  have hmemA : ∀ s, s ∈ allS (kitL raw) ↔ s ∈ o.sections := fun s => by
    rw [hlk, pickL_secs]
    constructor
    · rintro ⟨k, _, hs⟩
      exact List.mem_of_getElem? hs
    · intro hs
      obtain ⟨i, hi, e⟩ := List.mem_iff_getElem.1 hs
      exact ⟨i, by simpa using hi, by rw [List.getElem?_eq_getElem hi, e]⟩
  have hdA : Distinct (allS (kitL raw)) := fun s hs t ht => distinct_ok h s ((hmemA s).1 hs) t ((hmemA t).1 ht)
  have hdB : Distinct (allS (pickL o ks)) := fun s hs t ht => by
    obtain ⟨_, _, h1⟩ := pickL_secs.1 hs
    obtain ⟨_, _, h2⟩ := pickL_secs.1 ht
    exact distinct_ok h s (List.mem_of_getElem? h1) t (List.mem_of_getElem? h2)
  have hfind : ∀ k s, o.sections[k]? = some s → S[k]? = some true → secFind (allS (kitL raw)) s.name = some s ∧ secFind (allS (pickL o ks)) s.name = some s := fun k s hs hk =>
    ⟨secFind_mem hdA ((hmemA s).2 (List.mem_of_getElem? hs)), secFind_mem hdB (pickL_secs.2 ⟨k, (hks k).2 hk, hs⟩)⟩
  refine linkDo_alike (Q := fun nm => ∃ (k : Nat) (s : Section), o.sections[k]? = some s ∧ s.name = nm ∧ S[k]? = some true) ?_ (pickL_link h hkp h1 hd) ⟨?_, ?_, ?_⟩ ?_
  · rw [hlk]
    exact pickL_link h (by simpa using hk0) (by simp; omega) List.nodup_range
  · exact ⟨0, o.sections[0], List.getElem?_eq_getElem hk0, hmain _ (List.getElem?_eq_getElem hk0), hS0⟩
  · rintro nm ⟨k, s, hs, rfl, hk⟩
    obtain ⟨e1, e2⟩ := hfind k s hs hk
    rw [e1, e2]
    exact ⟨rfl, by rw [hasS_find, e1]; rfl⟩
  · rintro nm ⟨k, s, hs, rfl, hk⟩ m hm
    obtain ⟨e1, e2⟩ := hfind k s hs hk
    have hm' : m ∈ s.mends := by
      unfold mendsOf at hm
      rw [e1] at hm
      exact hm
    have hkl : (kitL raw)[k]? = some (segO o k (k + 1)) := by
      have := bunL_at (o := o) (n := o.sections.length) (List.getElem?_eq_some_iff.1 hs).1
      rw [show kitL raw = bunL o o.sections.length by unfold kitL; rw [ho]]
      exact this
    have hmo : m ∈ mendsO (segO o k (k + 1)) := by
      unfold mendsO
      rw [seg_one hs]
      simpa using hm'
    have key : hasS (allS (kitL raw)) m.name = true → ∃ (j : Nat) (t : Section), o.sections[j]? = some t ∧ t.name = m.name ∧ S[j]? = some true := fun he => by
      obtain ⟨t, ht, en⟩ := hasS_true.1 he
      obtain ⟨j, hj, ej⟩ := List.mem_iff_getElem.1 ((hmemA t).1 ht)
      have htj : o.sections[j]? = some t := by rw [List.getElem?_eq_getElem hj, ej]
      refine ⟨j, t, htj, en, ?_⟩
      have hown : ownerL (kitL raw) m.name = (j : Int) := by
        rw [← en, show kitL raw = bunL o o.sections.length by unfold kitL; rw [ho]]
        exact bunL_owner h htj
      exact hg.closed k _ hk hkl m hmo j hown
    refine ⟨?_, key⟩
    cases he : hasS (allS (kitL raw)) m.name with
    | true =>
      obtain ⟨j, t, ht, en, hj⟩ := key he
      exact (hasS_true.2 ⟨t, pickL_secs.2 ⟨j, (hks j).2 hj, ht⟩, en⟩).symm
    | false =>
      refine (hasS_false.2 fun x hx en => ?_).symm
      obtain ⟨j, _, hxj⟩ := pickL_secs.1 hx
      exact hasS_false.1 he x ((hmemA x).2 (List.mem_of_getElem? hxj)) en
  · obtain ⟨k, t, rfl⟩ : ∃ k t, ks = k :: t := by
      cases ks with
      | nil => simp at hkp
      | cons k t => exact ⟨k, t, rfl⟩
    rw [hlk]
    obtain ⟨n, hn'⟩ : ∃ n, o.sections.length = n + 1 := ⟨o.sections.length - 1, by omega⟩
    rw [hn', List.range_succ_eq_map]
    rfl
end Go.Proofs.YtemakpjickbmnaaDoor

/- Images of the objects that the laws make of raw numbers, plainly: their code, who calls whom, what is undone. -/
namespace Go.Proofs.YtemakpjickbmnaaDoor
open Go.RowKit
set_option linter.unusedSimpArgs false
set_option linter.unusedVariables false

abbrev macZ : Mac := ⟨0, 0, 0, 0, 0⟩
theorem getD_memM {l : List Mac} {k : Nat} (h : k < l.length) : l.getD k macZ ∈ l := by
  rw [List.getD_eq_getElem?_getD, List.getElem?_eq_getElem h]
  exact List.getElem_mem h
/-- A section whose code is small and may be, and whose mends are of its calls. -/
structure KitSec (s : Section) (L : List Mac) : Prop where
  read : readL s.code = some L
  tru : ∀ m ∈ L, TrueMac m
  fine : ∀ m ∈ L, macF m L.length = 0
  few : L.length ≤ 9
  ne : L ≠ []
  last : (L.getD (L.length - 1) macZ).op = 45
  calls : ∀ m ∈ L, m.op = 44 → m.n = 0
  mends : ∀ m ∈ s.mends, ∃ j : Nat, m.at_ = (j : Int) ∧ j < L.length ∧ (L.getD j macZ).op = 44
  up : s.mends.Pairwise fun x y => x.at_ < y.at_
/-- Code of which some calls are mended. -/
structure Cd (L l : List Mac) (N : Nat) : Prop where
  len : l.length = L.length
  tru : ∀ m ∈ l, TrueMac m
  fine : ∀ m ∈ l, macF m l.length = 0
  ops : ∀ k, (l.getD k macZ).op = (L.getD k macZ).op
  calls : ∀ m ∈ l, m.op = 44 → 0 ≤ m.n ∧ m.n < (N : Int)
theorem call_fine {m : Mac} {n len : Int} (ht : TrueMac m) (ho : m.op = 44) (hn : 0 ≤ n) : macF ⟨m.op, m.dst, m.a, m.b, n⟩ len = 0 := by
  have h1 := ht.dst (by rw [ho]; rfl)
  have h2 := ht.a (by rw [ho]; rfl)
  have h3 := ht.b (by rw [ho]; rfl)
  rw [ho, h1, h2, h3]
  have hs : shapeOf 44 = ⟨false, false, false, 4⟩ := by rfl
  unfold macF
  rw [if_neg (show ¬ known 44 = false by decide)]
  simp only [hs]
  have e : numberF 4 n len = 0 := by
    unfold numberF
    simp
    omega
  rw [e]
  simp [fieldF]
theorem getD_set {l : List Mac} {k j : Nat} {x : Mac} (hk : k < l.length) : (l.set k x).getD j macZ = if j = k then x else l.getD j macZ := by
  by_cases h : j = k
  · subst h
    rw [if_pos rfl, List.getD_eq_getElem?_getD, List.getElem?_set_self hk]
    rfl
  · rw [if_neg h, List.getD_eq_getElem?_getD, List.getElem?_set_ne (fun e => h e.symm), ← List.getD_eq_getElem?_getD]
theorem Cd.step {L l : List Mac} {N : Nat} (h : Cd L l N) (hN : N ≤ 1000) {k : Nat} (hk : k < l.length) (ho : (l.getD k macZ).op = 44) {n : Int} (h0 : 0 ≤ n) (h1 : n < (N : Int)) : Cd L (toCall l k n) N := by
  have hg : l.getD k macZ ∈ l := by
    rw [List.getD_eq_getElem?_getD, List.getElem?_eq_getElem hk]
    exact List.getElem_mem hk
  have ht := h.tru _ hg
  refine ⟨(toCall_len _ _ _).trans h.len, fun m hm => ?_, fun m hm => ?_, fun j => ?_, fun m hm he => ?_⟩
  · unfold toCall at hm
    rcases List.mem_or_eq_of_mem_set hm with hm | rfl
    · exact h.tru m hm
    · exact ⟨⟨ht.known, ht.regs, (show I64 n from ⟨by omega, by omega⟩)⟩, ht.dst, ht.a, ht.b, fun e => by rw [show (shapeOf (l.getD k macZ).op).n = 4 by rw [ho]; rfl] at e; cases e⟩
  · rw [toCall_len]
    unfold toCall at hm
    rcases List.mem_or_eq_of_mem_set hm with hm | rfl
    · exact h.fine m hm
    · exact call_fine ht ho h0
  · unfold toCall
    rw [getD_set hk]
    split
    · rename_i e
      rw [e]
      exact h.ops k
    · exact h.ops j
  · unfold toCall at hm
    rcases List.mem_or_eq_of_mem_set hm with hm | rfl
    · exact h.calls m hm he
    · exact ⟨h0, h1⟩
theorem mendTo_keep {order : List ByteArray} {k : Nat} : ∀ (ms : List Mend) (l c : List Mac), (∀ m ∈ ms, ∃ j : Nat, m.at_ = (j : Int) ∧ j ≠ k ∧ j < l.length) → mendTo order ms l = some c → c.getD k macZ = l.getD k macZ ∧ c.length = l.length
  | [], l, c, _, h => by
    injection h with h
    subst h
    exact ⟨rfl, rfl⟩
  | m :: ms, l, c, hm, h => by
    rw [mendTo] at h
    split at h
    · cases h
    obtain ⟨j, ej, hne, hj⟩ := hm m (List.mem_cons_self ..)
    have e : m.at_.toNat = j := by omega
    rw [e] at h
    obtain ⟨h1, h2⟩ := mendTo_keep ms _ c (fun x hx => by
      obtain ⟨i, h1, h2, h3⟩ := hm x (List.mem_cons_of_mem _ hx)
      exact ⟨i, h1, h2, by rw [toCall_len]; exact h3⟩) h
    rw [h1, h2, toCall_len]
    refine ⟨?_, rfl⟩
    unfold toCall
    rw [getD_set hj, if_neg (fun e => hne e.symm)]
theorem mendTo_all {order : List ByteArray} {L : List Mac} (hN : order.length ≤ 1000) : ∀ (ms : List Mend) (l : List Mac), Cd L l order.length → (∀ m ∈ ms, m.name ∈ order ∧ ∃ j : Nat, m.at_ = (j : Int) ∧ j < L.length ∧ (L.getD j macZ).op = 44) → ms.Pairwise (fun x y => x.at_ < y.at_) →
    ∃ c, mendTo order ms l = some c ∧ Cd L c order.length ∧ ∀ m ∈ ms, ∃ x ∈ c, x.op = 44 ∧ x.n = placeB order m.name
  | [], l, h, _, _ => ⟨l, rfl, h, fun m hm => by cases hm⟩
  | m :: ms, l, h, hm, hp => by
    obtain ⟨h1, j, ej, hj, ho⟩ := hm m (List.mem_cons_self ..)
    have hpl := placeB_mem.2 h1
    have hlt : placeB order m.name < (order.length : Int) := by
      obtain ⟨k, hk, e⟩ := List.mem_iff_getElem.1 h1
      unfold placeB
      cases hf : order.findIdx? fun x => decide (x = m.name) with
      | none => simp; omega
      | some q =>
        have := (List.findIdx?_eq_some_iff_getElem.1 hf).1
        simp only []
        omega
    obtain ⟨hp1, hp2⟩ := List.pairwise_cons.1 hp
    have hjl : j < l.length := by rw [h.len]; exact hj
    have e : m.at_.toNat = j := by omega
    obtain ⟨c, h2, h3, h4⟩ := mendTo_all hN ms (toCall l j (placeB order m.name)) (h.step hN hjl (by rw [h.ops]; exact ho) hpl hlt) (fun x hx => hm x (List.mem_cons_of_mem _ hx)) hp2
    refine ⟨c, by rw [mendTo, if_neg (by omega), e]; exact h2, h3, fun x hx => ?_⟩
    rcases List.mem_cons.1 hx with rfl | hx
    · have hk := (mendTo_keep (k := j) ms _ c (fun y hy => by
        obtain ⟨_, i, ei, hi, _⟩ := hm y (List.mem_cons_of_mem _ hy)
        have := hp1 y hy
        exact ⟨i, ei, by omega, by rw [toCall_len, h.len]; exact hi⟩) h2)
      have hcj : j < c.length := by rw [h3.len]; exact hj
      refine ⟨c.getD j macZ, by rw [List.getD_eq_getElem?_getD, List.getElem?_eq_getElem hcj]; exact List.getElem_mem hcj, ?_, ?_⟩
      · rw [h3.ops]
        exact ho
      · rw [hk.1]
        unfold toCall
        rw [getD_set hjl, if_pos rfl]
    · exact h4 x hx
theorem Cd.read {L c : List Mac} {N : Nat} (h : Cd L c N) (h9 : L.length ≤ 9) (hne : L ≠ []) (hlast : (L.getD (L.length - 1) macZ).op = 45) : readL (codeB c) = some c := by
  have hl := codeB_len_ c
  have e := h.len
  refine readL_of h.tru (macsFault_fine (by omega) (fun e' => hne (List.eq_nil_of_length_eq_zero (by rw [← e, e']; rfl))) h.fine ?_) (by omega)
  rw [h.len]
  exact (h.ops _).trans hlast
theorem KitSec.rout {s : Section} {L : List Mac} (h : KitSec s L) {order : List ByteArray} (ho : 0 < order.length) (hN : order.length ≤ 1000) (hm : ∀ m ∈ s.mends, m.name ∈ order) :
    ∃ c, routB order s = some (codeB c) ∧ readL (codeB c) = some c ∧ c.length ≤ 9 ∧ (∀ x ∈ c, x.op = 44 → 0 ≤ x.n ∧ x.n < (order.length : Int)) ∧ ∀ m ∈ s.mends, ∃ x ∈ c, x.op = 44 ∧ x.n = placeB order m.name := by
  obtain ⟨c, h1, h2, h3⟩ := mendTo_all hN s.mends L ⟨rfl, h.tru, h.fine, fun _ => rfl, fun m hm' he => by
    rw [h.calls m hm' he]
    exact ⟨Int.le_refl _, by omega⟩⟩ (fun m hm' => ⟨hm m hm', h.mends m hm'⟩) h.up
  refine ⟨c, ?_, h2.read h.few h.ne h.last, by have := h2.len; have := h.few; omega, h2.calls, h3⟩
  unfold routB
  rw [h.read, Option.getD_some, h1]
  rfl
theorem kit_sec {raw : List (List Int)} (hr : ∀ l ∈ raw, ∀ x ∈ l, I64 x) (n : Nat) (main : Bool) (i : Nat) : KitSec (secOf raw n main i) ((codeOf (raw.getD i []) 8 4).map ownM) := by
  have hl : ∀ x ∈ raw.getD i [], I64 x := by
    rcases Nat.lt_or_ge i raw.length with hlt | hge
    · rw [List.getD_eq_getElem?_getD, List.getElem?_eq_getElem hlt]
      exact hr _ (List.getElem_mem hlt)
    · rw [List.getD_eq_getElem?_getD, List.getElem?_eq_none hge]
      intro x hx
      cases hx
  have ht : ∀ m ∈ codeOf (raw.getD i []) 8 4, TrueMac m := codeOf_true hl (by decide) (by decide)
  refine ⟨own_read hl, fun m hm => ?_, fun m hm => ?_, ?_, ?_, ?_, fun m hm he => ?_, fun m hm => ?_, mendsAt_up _ _ _⟩
  · obtain ⟨x, hx, rfl⟩ := List.mem_map.1 hm
    exact ownM_true (ht x hx)
  · obtain ⟨x, hx, rfl⟩ := List.mem_map.1 hm
    rw [List.length_map]
    exact ownM_fine (ht x hx) (codeOf_fine x hx)
  · rw [List.length_map, codeOf_len]
    unfold codeMany
    omega
  · unfold codeOf
    simp
  · unfold codeOf
    simp [List.getD_eq_getElem?_getD, ownM]
  · obtain ⟨x, hx, rfl⟩ := List.mem_map.1 hm
    rw [ownM_op] at he
    unfold ownM
    rw [if_pos he]
  · obtain ⟨j, h1, h2, h3⟩ := mendsAt_mem _ _ _ _ hm
    refine ⟨j, by rw [h2]; simp, by rw [List.length_map]; exact h1, ?_⟩
    rw [map_getD h1, ownM_op]
    exact h3
theorem kit_mend {raw : List (List Int)} {i : Nat} {m : Mend} (h : m ∈ (secOf raw 6 true i).mends) : m.name = nameAway ∨ hasS (objOf raw 6 true).sections m.name = true := by
  obtain ⟨j, h1, h2, h3⟩ := mendsAt_mem _ _ _ _ h
  have hc := codeOf_call (l := raw.getD i []) (n := 8) (r := 4) ((codeOf (raw.getD i []) 8 4).getD j ⟨0, 0, 0, 0, 0⟩) (getD_memM h1) h3
  rw [h2]
  simp only []
  generalize ((codeOf (raw.getD i []) 8 4).getD j ⟨0, 0, 0, 0, 0⟩).n = x at *
  have has : ∀ k, k < min raw.length 6 → hasS (objOf raw 6 true).sections (nameS true k) = true := fun k hk =>
    hasS_true.2 ⟨secOf raw 6 true k, List.mem_map.2 ⟨k, by simpa using hk, rfl⟩, rfl⟩
  unfold mendName
  by_cases h4 : (raw.length : Int) ≤ x ∨ ((6 : Nat) : Int) ≤ x
  · rw [if_pos h4]
    exact .inl rfl
  · rw [if_neg h4]
    refine .inr ?_
    by_cases h5 : x = 0 ∧ true = true
    · rw [if_pos h5]
      exact has 0 (by omega)
    · rw [if_neg h5]
      have := has x.toNat (by omega)
      unfold nameS at this
      rw [if_neg (show ¬ (true = true ∧ x.toNat = 0) from fun h => h5 ⟨by omega, rfl⟩)] at this
      exact this

/-- An image whose code is told. -/
structure KitImg (S : List Section) (ord : List ByteArray) (rs : List Routine) : Prop where
  len : rs.length = ord.length
  each : ∀ (k : Nat) (r : Routine), rs[k]? = some r → ord[k]? = some r.name ∧ ∃ c, readL r.code = some c ∧ (∀ x ∈ c, x.op = 44 → 0 ≤ x.n ∧ x.n < (ord.length : Int)) ∧ ∀ m ∈ mendsOf S r.name, ∃ x ∈ c, x.op = 44 ∧ x.n = placeB ord m.name
theorem mendsOf_mem {S : List Section} {nm : ByteArray} {m : Mend} (h : m ∈ mendsOf S nm) : ∃ s ∈ S, m ∈ s.mends := by
  unfold mendsOf at h
  cases hf : secFind S nm with
  | none =>
    rw [hf] at h
    cases h
  | some s =>
    rw [hf] at h
    exact ⟨s, List.mem_of_find?_eq_some hf, h⟩
theorem link_img {l : List Object} (hl : linkF l = (0, 0)) (hm : hasS (allS l) mainB = true) (hk : ∀ s ∈ allS l, ∃ L, KitSec s L) (h40 : (allS l).length ≤ 40) (hu : (reached (allS l)).2 = []) :
    ∃ rs, linkDo l = (⟨(l.getD 0 ⟨[], []⟩).globals, rs⟩, (0, 0)) ∧ KitImg (allS l) (reached (allS l)).1 rs := by
  obtain ⟨a1, a2⟩ := metF_good hl hm
  obtain ⟨hinv, hmet⟩ := reached_met hm
  have hlen := hinv.len
  have hord : 0 < (reached (allS l)).1.length := (List.getElem?_eq_some_iff.1 hmet.first).1
  have hin : ∀ x ∈ (reached (allS l)).1, ∀ m ∈ mendsOf (allS l) x, m.name ∈ (reached (allS l)).1 := fun x hx m hmm => by
    have := hmet.all hx hmm
    cases he : hasS (allS l) m.name with
    | true => exact this.1 he
    | false =>
      have := this.2 he
      rw [hu] at this
      cases this
  have hr : ∀ x ∈ (reached (allS l)).1, ∃ s c, secFind (allS l) x = some s ∧ routB (reached (allS l)).1 s = some (codeB c) ∧ readL (codeB c) = some c ∧ (∀ y ∈ c, y.op = 44 → 0 ≤ y.n ∧ y.n < ((reached (allS l)).1.length : Int)) ∧ ∀ m ∈ mendsOf (allS l) x, ∃ y ∈ c, y.op = 44 ∧ y.n = placeB (reached (allS l)).1 m.name := fun x hx => by
    obtain ⟨s, e, hs, hn⟩ := secFind_has (hinv.there x hx)
    obtain ⟨L, hL⟩ := hk s hs
    have em : mendsOf (allS l) x = s.mends := by unfold mendsOf; rw [e]
    obtain ⟨c, h1, h2, _, h3, h4⟩ := hL.rout hord (by omega) (fun m hmm => hin x hx m (by rw [em]; exact hmm))
    exact ⟨s, c, e, h1, h2, h3, by rw [em]; exact h4⟩
  obtain ⟨rs, h1, h2, h3⟩ := routsTo_fine (S := allS l) (order := (reached (allS l)).1) ⟨(l.getD 0 ⟨[], []⟩).globals, []⟩ (fun x hx => by
    obtain ⟨s, c, e, h1, _⟩ := hr x hx
    exact ⟨s, _, e, h1⟩) (reached (allS l)).1.length 0 [] (by omega) rfl (by omega) (fun k r h => by simp at h)
  refine ⟨rs, ?_, h2, fun k r hkr => ?_⟩
  · unfold linkDo
    rw [a1, if_neg (by simp), a2]
    exact h1
  · obtain ⟨s, e1, e2, e3⟩ := h3 k r hkr
    obtain ⟨s', c, f1, f2, f3, f4, f5⟩ := hr r.name (List.mem_of_getElem? e1)
    rw [e2] at f1
    injection f1 with f1
    subst f1
    rw [e3] at f2
    injection f2 with f2
    exact ⟨e1, c, by rw [f2]; exact f3, f4, f5⟩
theorem link_und {l : List Object} (hl : linkF l = (0, 0)) (hm : hasS (allS l) mainB = true) (hu : (reached (allS l)).2 ≠ []) : ∃ a : Int, linkDo l = (⟨[], []⟩, (6, a)) := by
  obtain ⟨a1, a2⟩ := metF_good hl hm
  obtain ⟨hinv, hmet⟩ := reached_met hm
  obtain ⟨y, hy⟩ := List.exists_mem_of_ne_nil _ hu
  obtain ⟨h1, k, x, hx, m, hmm, e⟩ := hmet.und y hy
  obtain ⟨s, es, _, _⟩ := secFind_has (hinv.there x (List.mem_of_getElem? hx))
  have em : mendsOf (allS l) x = s.mends := by unfold mendsOf; rw [es]
  have hno : ¬ y ∈ (reached (allS l)).1 := fun h => by
    have := hinv.there y h
    rw [h1] at this
    cases this
  have hb : routB (reached (allS l)).1 s = none := by
    unfold routB
    rw [mendTo_none s.mends _ ⟨m, by rw [← em]; exact hmm, by
      rw [e]
      have := mt (placeB_mem (order := (reached (allS l)).1) (nm := y)).1 hno
      omega⟩]
    rfl
  obtain ⟨j, hj⟩ := routsTo_bad ⟨(l.getD 0 ⟨[], []⟩).globals, []⟩ hx es hb (reached (allS l)).1.length 0 [] (by omega) (Nat.zero_le _)
  refine ⟨(j : Int), ?_⟩
  unfold linkDo
  rw [a1, if_neg (by simp), a2]
  exact hj
/-- Each routine but the first is called by one. -/
theorem KitImg.called {S : List Section} {st : List ByteArray × List ByteArray} {rs : List Routine} (h : KitImg S st.1 rs) (hi : RInv S st) (hm : MetI S st.1.length st) {i : Nat} (h1 : 1 ≤ i) (h2 : i < rs.length) : ∃ (k : Nat) (r : Routine) (c : List Mac), rs[k]? = some r ∧ readL r.code = some c ∧ ∃ x ∈ c, x.op = 44 ∧ x.n = (i : Int) := by
  have hil : i < st.1.length := by rw [← h.len]; exact h2
  have hy : st.1[i]? = some st.1[i] := List.getElem?_eq_getElem hil
  obtain ⟨k, x, hx, m, hmm, e⟩ := hm.ord i _ h1 hy
  have hk := (List.getElem?_eq_some_iff.1 hx).1
  have hkr : rs[k]? = some (rs[k]'(by rw [h.len]; exact hk)) := List.getElem?_eq_getElem _
  obtain ⟨e1, c, h3, _, h4⟩ := h.each k _ hkr
  rw [hx] at e1
  injection e1 with e1
  rw [e1] at hmm
  obtain ⟨z, hz, ho, hn⟩ := h4 m hmm
  exact ⟨k, _, c, hkr, h3, z, hz, ho, by rw [hn, e]; exact placeB_at hi.once hy⟩
end Go.Proofs.YtemakpjickbmnaaDoor

/- An object more, plainly: one that nobody calls changes nothing; one that has what is undone makes an image, and it may be. -/
namespace Go.Proofs.YtemakpjickbmnaaDoor
open Go.RowKit
set_option linter.unusedSimpArgs false
set_option linter.unusedVariables false

def extraB : ByteArray := ⟨#[101, 120, 116, 114, 97]⟩
def extraO (l : List Int) : Object := ⟨kitGlobals_, [⟨extraB, codeB (codeOf l 8 0), []⟩]⟩
theorem code_read {l : List Int} (hl : ∀ x ∈ l, I64 x) : readL (codeB (codeOf l 8 0)) = some (codeOf l 8 0) := by
  have hlen : (codeOf l 8 0).length ≤ 9 := by rw [codeOf_len]; unfold codeMany; omega
  have := codeB_len_ (codeOf l 8 0)
  exact readL_of (codeOf_true hl (by decide) (by decide)) (code_fault (by decide)) (by omega)
theorem extra_ok {l : List Int} (hl : ∀ x ∈ l, I64 x) : ObjOk (extraO l) := by
  refine ⟨kit_glob, by unfold extraO; simp, fun k s hs => ?_⟩
  have hk := (List.getElem?_eq_some_iff.1 hs).1
  obtain rfl : k = 0 := by simpa [extraO] using hk
  have e : s = ⟨extraB, codeB (codeOf l 8 0), []⟩ := by simpa [extraO] using hs.symm
  subst e
  refine ⟨by show goodName extraB = true; decide +kernel, by show hasG kitGlobals_ extraB = false; decide +kernel, rfl, ?_⟩
  unfold secF
  simp only []
  rw [code_read hl]
  simp only [List.length_nil]
  rw [mendsFrom, if_pos]
  rw [List.length_nil, List.length_eq_zero_iff, List.filter_eq_nil_iff]
  intro m hm he
  have := codeOf_call m hm (by simpa using he)
  omega
theorem kit_noExtra (raw : List (List Int)) : hasS (objOf raw 6 true).sections extraB = false := hasS_false.2 fun x hx e => by
  obtain ⟨k, hk, ek⟩ := List.mem_iff_getElem.1 hx
  obtain ⟨_, rfl⟩ := objOf_at (show (objOf raw 6 true).sections[k]? = some x by rw [List.getElem?_eq_getElem hk, ek])
  have h1 := nameS_few true k
  have h2 : (secOf raw 6 true k).name = nameS true k := rfl
  rw [← h2, e] at h1
  exact absurd h1 (by decide)
theorem allS_cons (o : Object) (l : List Object) : allS (o :: l) = o.sections ++ allS l := by unfold allS; rw [List.flatMap_cons]
theorem allS_snoc (o : Object) (l : List Object) : allS (l ++ [o]) = allS l ++ o.sections := by unfold allS; simp
theorem kit_secsAll (raw : List (List Int)) : allS (kitL raw) = (objOf raw 6 true).sections := by
  unfold kitL
  rw [bunL_all _ (Nat.le_refl _), List.take_length]
theorem kit_link {raw : List (List Int)} (hr : ∀ l ∈ raw, ∀ x ∈ l, I64 x) (h0 : 0 < (kitL raw).length) : linkF (kitL raw) = (0, 0) := by
  have hn : (kitL raw).length = (objOf raw 6 true).sections.length := bunL_len _ _
  have := kit_secs raw
  rw [kit_pickL]
  exact pickL_link (objOf_ok (by decide) hr) (by simpa using (hn ▸ h0)) (by simp; omega) List.nodup_range
theorem kit_globs {raw : List (List Int)} (h0 : 0 < (kitL raw).length) : ((kitL raw).getD 0 ⟨[], []⟩).globals = kitGlobals_ := by
  rw [List.getD_eq_getElem?_getD, List.getElem?_eq_getElem h0, Option.getD_some]
  obtain ⟨_, e⟩ := bunL_get (show (kitL raw)[0]? = some (kitL raw)[0] from List.getElem?_eq_getElem h0)
  rw [e]
  rfl
theorem kit_mem {raw : List (List Int)} {s : Section} (h : s ∈ allS (kitL raw)) : ∃ i, s = secOf raw 6 true i := by
  rw [kit_secsAll] at h
  obtain ⟨k, hk, ek⟩ := List.mem_iff_getElem.1 h
  exact ⟨k, (objOf_at (show (objOf raw 6 true).sections[k]? = some s by rw [List.getElem?_eq_getElem hk, ek])).2⟩
theorem kit_mends {raw : List (List Int)} {nm : ByteArray} {m : Mend} (h : m ∈ mendsOf (allS (kitL raw)) nm) : m.name = nameAway ∨ hasS (allS (kitL raw)) m.name = true := by
  obtain ⟨s, hs, hm⟩ := mendsOf_mem h
  obtain ⟨i, rfl⟩ := kit_mem hs
  rw [kit_secsAll]
  exact kit_mend hm
theorem kit_hasM {raw : List (List Int)} (h0 : 0 < (kitL raw).length) : hasS (allS (kitL raw)) mainB = true := by
  rw [kit_secsAll]
  exact kit_hasMain (by have : (kitL raw).length = (objOf raw 6 true).sections.length := bunL_len _ _
                        omega)
theorem kit_new {raw : List (List Int)} (hr : ∀ l ∈ raw, ∀ x ∈ l, I64 x) {i : Nat} {x : Object} (hx : (kitL raw)[i]? = some x) : ObjOk x ∧ x.globals = kitGlobals_ ∧ ∀ s ∈ x.sections, hasS (allS ((kitL raw).take i)) s.name = false := by
  have h0 : 0 < (kitL raw).length := by have := (List.getElem?_eq_some_iff.1 hx).1; omega
  obtain ⟨_, _, _, h⟩ := linkF_ok (show (linkF (kitL raw)).1 = 0 by rw [kit_link hr h0])
  have := h i x hx
  exact ⟨this.ok, by rw [this.glob, kit_globs h0], this.new⟩
theorem left_same {raw : List (List Int)} (hr : ∀ l ∈ raw, ∀ x ∈ l, I64 x) (h0 : 0 < (kitL raw).length) {l : List Int} (hl : ∀ x ∈ l, I64 x) : linkDo (kitL raw) = linkDo (extraO l :: kitL raw) := by
  have hno := kit_noExtra raw
  have h6 : (kitL raw).length ≤ 6 := by
    have := kit_secs raw
    rw [show (kitL raw).length = (objOf raw 6 true).sections.length from bunL_len _ _]
    exact this
  have hex : (extraO l).sections = [⟨extraB, codeB (codeOf l 8 0), []⟩] := rfl
  have hS : ∀ nm, nm ≠ extraB → hasS (extraO l).sections nm = false := fun nm h => hasS_false.2 fun x hx e => by
    have : x = ⟨extraB, codeB (codeOf l 8 0), []⟩ := by simpa [hex] using hx
    subst this
    exact h e.symm
  have hne : ∀ nm, hasS (allS (kitL raw)) nm = true → nm ≠ extraB := fun nm h e => by
    rw [e, kit_secsAll, hno] at h
    cases h
  refine linkDo_alike (Q := fun nm => hasS (allS (kitL raw)) nm = true) (kit_link hr h0) ?_ ⟨kit_hasM h0, fun nm hq => ⟨?_, hq⟩, fun nm hq m hm => ⟨?_, fun e => e⟩⟩ ?_
  · refine linkF_good (by simp) (by simp; omega) fun i x hx => ?_
    cases i with
    | zero =>
      have e : x = extraO l := by simpa using hx.symm
      subst e
      exact ⟨extra_ok hl, rfl, fun s hs => rfl⟩
    | succ i =>
      rw [List.getElem?_cons_succ] at hx
      obtain ⟨h1, h2, h3⟩ := kit_new hr hx
      refine ⟨h1, h2, fun s hs => ?_⟩
      rw [List.take_succ_cons, allS_cons, hasS_append, h3 s hs, Bool.or_false]
      refine hS _ (hne _ ?_)
      exact hasS_allS.2 ⟨x, List.mem_of_getElem? hx, hasS_true.2 ⟨s, hs, rfl⟩⟩
  · rw [allS_cons, secFind_append, if_neg (by rw [hS nm (hne nm hq)]; simp)]
  · rw [allS_cons, hasS_append]
    have : m.name ≠ extraB := by
      rcases kit_mends hm with e | e
      · rw [e]
        decide
      · exact hne _ e
    rw [hS _ this, Bool.false_or]
  · rw [kit_globs h0]
    rfl

theorem img_ok {l : List Object} (hl : linkF l = (0, 0)) (hm : hasS (allS l) mainB = true) (h40 : (allS l).length ≤ 40) {rs : List Routine} (h : KitImg (allS l) (reached (allS l)).1 rs) : ImgOk ⟨(l.getD 0 ⟨[], []⟩).globals, rs⟩ := by
  obtain ⟨hinv, hmet⟩ := reached_met hm
  have hlen := hinv.len
  have hord : 0 < (reached (allS l)).1.length := (List.getElem?_eq_some_iff.1 hmet.first).1
  obtain ⟨_, hl0, _, hlk⟩ := linkF_ok (show (linkF l).1 = 0 by rw [hl])
  have hg : globFault (l.getD 0 ⟨[], []⟩).globals = (0, 0) := by
    have := (hlk 0 l[0] (List.getElem?_eq_getElem hl0)).ok.glob
    rw [List.getD_eq_getElem?_getD, List.getElem?_eq_getElem hl0]
    exact this
  refine ⟨hg, by show 0 < rs.length; rw [h.len]; exact hord, by show rs.length ≤ 40; rw [h.len]; omega, fun k r hk => ?_⟩
  obtain ⟨e1, c, h1, h2, _⟩ := h.each k r hk
  obtain ⟨s, hs, hn⟩ := hasS_true.1 (hinv.there r.name (List.mem_of_getElem? e1))
  obtain ⟨o, ho, hso⟩ := List.mem_flatMap.1 hs
  obtain ⟨i, hi, ei⟩ := List.mem_iff_getElem.1 ho
  obtain ⟨j, hj, ej⟩ := List.mem_iff_getElem.1 hso
  have hlo := hlk i o (by rw [List.getElem?_eq_getElem hi, ei])
  have hsec := hlo.ok.secs j s (by rw [List.getElem?_eq_getElem hj, ej])
  refine ⟨hn ▸ hsec.good, fun e => ?_, ?_, fun j x hj hx => ?_, c, h1, fun x hx ho' => ?_⟩
  · subst e
    rw [hmet.first] at e1
    exact (Option.some.inj e1).symm
  · show hasG (l.getD 0 ⟨[], []⟩).globals r.name = false
    rw [← hn, ← hlo.glob]
    exact hsec.noG
  · obtain ⟨e2, _⟩ := h.each j x hx
    obtain ⟨hjl, ej2⟩ := List.getElem?_eq_some_iff.1 e2
    obtain ⟨hkl, ek2⟩ := List.getElem?_eq_some_iff.1 e1
    have := List.pairwise_iff_getElem.1 (List.nodup_iff_pairwise_ne.1 hinv.once) j k hjl hkl hj
    rw [ej2, ek2] at this
    exact this
  · show x.n < (rs.length : Int)
    rw [h.len]
    exact (h2 x hx ho').2

def retS (nm : ByteArray) : Section := ⟨nm, codeB [⟨45, 0, 0, 0, 0⟩], []⟩
def moreO (u : List ByteArray) : Object := ⟨kitGlobals_, u.map retS⟩
theorem ret_sec (nm : ByteArray) : KitSec (retS nm) [⟨45, 0, 0, 0, 0⟩] where
  read := by show readL (codeB [⟨45, 0, 0, 0, 0⟩]) = _; exact readL_of (fun m hm => by rw [List.mem_singleton.1 hm]; exact ret_true) (by decide +kernel) (by decide +kernel)
  tru := fun m hm => by rw [List.mem_singleton.1 hm]; exact ret_true
  fine := fun m hm => by rw [List.mem_singleton.1 hm]; rfl
  few := by simp
  ne := by simp
  last := rfl
  calls := fun m hm he => by rw [List.mem_singleton.1 hm]
  mends := fun m hm => by cases hm
  up := by unfold retS; simp
theorem und_two {raw : List (List Int)} (h0 : 0 < (kitL raw).length) : (reached (allS (kitL raw))).2 = [] ∨ (reached (allS (kitL raw))).2 = [nameAway] := by
  obtain ⟨_, hmet⟩ := reached_met (kit_hasM h0)
  have hall : ∀ y ∈ (reached (allS (kitL raw))).2, y = nameAway := fun y hy => by
    obtain ⟨h1, k, x, _, m, hm, e⟩ := hmet.und y hy
    rcases kit_mends hm with h | h
    · rw [← e, h]
    · rw [e, h1] at h
      cases h
  have hn := hmet.once
  generalize (reached (allS (kitL raw))).2 = u at *
  match u with
  | [] => exact .inl rfl
  | [a] => exact .inr (by rw [hall a (by simp)])
  | a :: b :: t =>
    have h1 := hall a (by simp)
    have h2 := hall b (by simp)
    rw [h1, h2] at hn
    simp at hn
theorem more_ok {u : List ByteArray} (h : u = [] ∨ u = [nameAway]) : ObjOk (moreO u) := by
  rw [← objOk_iff]
  rcases h with rfl | rfl
  · decide +kernel
  · decide +kernel
theorem kit_noAway (raw : List (List Int)) : hasS (objOf raw 6 true).sections nameAway = false := hasS_false.2 fun x hx e => by
  obtain ⟨k, hk, ek⟩ := List.mem_iff_getElem.1 hx
  obtain ⟨h6, rfl⟩ := objOf_at (show (objOf raw 6 true).sections[k]? = some x by rw [List.getElem?_eq_getElem hk, ek])
  have h2 : (secOf raw 6 true k).name = nameS true k := rfl
  rw [h2] at e
  have : ∀ k : Nat, k < 6 → nameS true k ≠ nameAway := by decide +kernel
  exact this k (by omega) e
/-- With what was undone, an image is made, and it may be. -/
theorem more_link {raw : List (List Int)} (hr : ∀ l ∈ raw, ∀ x ∈ l, I64 x) (h0 : 0 < (kitL raw).length) : ∃ rs, linkDo (kitL raw ++ [moreO (reached (allS (kitL raw))).2]) = (⟨kitGlobals_, rs⟩, (0, 0)) ∧ ImgOk ⟨kitGlobals_, rs⟩ := by
  have hu := und_two h0
  have h6 : (kitL raw).length ≤ 6 := by
    have := kit_secs raw
    rw [show (kitL raw).length = (objOf raw 6 true).sections.length from bunL_len _ _]
    exact this
  have hsl : (allS (kitL raw)).length ≤ 6 := by rw [kit_secsAll]; exact kit_secs raw
  obtain ⟨u, hue⟩ : ∃ u, u = (reached (allS (kitL raw))).2 := ⟨_, rfl⟩
  rw [← hue] at hu ⊢
  have hul : u.length ≤ 1 := by rcases hu with rfl | rfl <;> simp
  have hsec : (moreO u).sections = u.map retS := rfl
  have hmN : ∀ s ∈ (moreO u).sections, s.name = nameAway ∧ s.mends = [] := fun s hs => by
    rw [hsec] at hs
    obtain ⟨x, hx, rfl⟩ := List.mem_map.1 hs
    refine ⟨?_, rfl⟩
    rcases hu with rfl | rfl
    · cases hx
    · exact List.mem_singleton.1 hx
  have hz : (kitL raw ++ [moreO u]).getD 0 ⟨[], []⟩ = (kitL raw).getD 0 ⟨[], []⟩ := by
    rw [List.getD_eq_getElem?_getD, List.getElem?_append_left h0, ← List.getD_eq_getElem?_getD]
  have hl : linkF (kitL raw ++ [moreO u]) = (0, 0) := by
    refine linkF_good (by simp) (by simp; omega) fun i x hx => ?_
    by_cases hi : i < (kitL raw).length
    · rw [List.getElem?_append_left hi] at hx
      obtain ⟨h1, h2, h3⟩ := kit_new hr hx
      refine ⟨h1, by rw [hz, kit_globs h0]; exact h2, fun s hs => ?_⟩
      rw [List.take_append_of_le_length (by omega)]
      exact h3 s hs
    · have hil := (List.getElem?_eq_some_iff.1 hx).1
      simp only [List.length_append, List.length_singleton] at hil
      obtain rfl : i = (kitL raw).length := by omega
      rw [List.getElem?_concat_length] at hx
      injection hx with hx
      subst hx
      refine ⟨more_ok hu, by rw [hz, kit_globs h0]; rfl, fun s hs => ?_⟩
      rw [List.take_left' rfl, kit_secsAll, (hmN s hs).1]
      exact kit_noAway raw
  have hA := allS_snoc (moreO u) (kitL raw)
  have hm : hasS (allS (kitL raw ++ [moreO u])) mainB = true := by
    rw [hA, hasS_append, kit_hasM h0]
    rfl
  have h40 : (allS (kitL raw ++ [moreO u])).length ≤ 40 := by
    rw [hA, List.length_append, hsec, List.length_map]
    omega
  have hk : ∀ s ∈ allS (kitL raw ++ [moreO u]), ∃ L, KitSec s L := fun s hs => by
    rw [hA] at hs
    rcases List.mem_append.1 hs with hs | hs
    · obtain ⟨i, rfl⟩ := kit_mem hs
      exact ⟨_, kit_sec hr 6 true i⟩
    · rw [hsec] at hs
      obtain ⟨x, _, rfl⟩ := List.mem_map.1 hs
      exact ⟨_, ret_sec x⟩
  have hnone : (reached (allS (kitL raw ++ [moreO u]))).2 = [] := by
    rcases hu with rfl | rfl
    · have : allS (kitL raw ++ [moreO []]) = allS (kitL raw) := by rw [hA]; simp [moreO]
      rw [this, ← hue]
    · obtain ⟨_, hmet⟩ := reached_met hm
      refine List.eq_nil_iff_forall_not_mem.2 fun y hy => ?_
      obtain ⟨h1, k, x, _, m, hmm, e⟩ := hmet.und y hy
      have haw : hasS (moreO [nameAway]).sections nameAway = true := by decide +kernel
      rw [hA, hasS_append, Bool.or_eq_false_iff] at h1
      obtain ⟨s, hs, hms⟩ := mendsOf_mem hmm
      rw [hA] at hs
      rcases List.mem_append.1 hs with hs | hs
      · obtain ⟨i, rfl⟩ := kit_mem hs
        rcases kit_mend hms with h | h
        · rw [← e, h, haw] at h1
          cases h1.2
        · rw [← kit_secsAll, e, h1.1] at h
          cases h
      · rw [(hmN s hs).2] at hms
        cases hms
  obtain ⟨rs, e1, e2⟩ := link_img hl hm hk h40 hnone
  have e3 := img_ok hl hm h40 e2
  rw [hz, kit_globs h0] at e1 e3
  exact ⟨rs, e1, e3⟩
/-- An image is made just if nothing is undone. -/
theorem kit_made {raw : List (List Int)} (hr : ∀ l ∈ raw, ∀ x ∈ l, I64 x) (h0 : 0 < (kitL raw).length) : ((reached (allS (kitL raw))).2 = [] ∧ ∃ rs, linkDo (kitL raw) = (⟨kitGlobals_, rs⟩, (0, 0)) ∧ KitImg (allS (kitL raw)) (reached (allS (kitL raw))).1 rs ∧ 0 < rs.length ∧ rs.length ≤ 40) ∨ ((reached (allS (kitL raw))).2 ≠ [] ∧ ∃ a : Int, linkDo (kitL raw) = (⟨[], []⟩, (6, a))) := by
  have hl := kit_link hr h0
  have hm := kit_hasM h0
  have hsl : (allS (kitL raw)).length ≤ 6 := by rw [kit_secsAll]; exact kit_secs raw
  by_cases hu : (reached (allS (kitL raw))).2 = []
  · obtain ⟨rs, e1, e2⟩ := link_img hl hm (fun s hs => by
      obtain ⟨i, rfl⟩ := kit_mem hs
      exact ⟨_, kit_sec hr 6 true i⟩) (by omega) hu
    have e3 := img_ok hl hm (by omega) e2
    rw [kit_globs h0] at e1
    exact .inl ⟨hu, rs, e1, e2, e3.some_, e3.few⟩
  · exact .inr ⟨hu, link_und hl hm hu⟩
end Go.Proofs.YtemakpjickbmnaaDoor
