/- Live registers, plainly: sets that grow till nothing changes. -/
import Derived.Test.YtkcmijnaheapdaaDoorPeepQ
namespace Go.Proofs.YtkcmijnaheapdaaDoor
open Go.RowKit
set_option linter.unusedSimpArgs false
set_option linter.unusedVariables false

/-- Where it may go on behind an instruction. -/
def nextL (l : List Mac) (i : Nat) : List Int :=
  if (atL l i).op = 45 then [] else if (atL l i).op = 37 then [(atL l i).n] else if jumpsM (atL l i) = true then [(i : Int) + 1, (atL l i).n] else [(i : Int) + 1]
theorem nextL_iff {l : List Mac} {i k : Nat} (hi : i < l.length) : (k : Int) ∈ nextL l i ↔ stepsTo l i k := by
  unfold nextL stepsTo
  by_cases h45 : (atL l i).op = 45
  · rw [if_pos h45]
    have hj : ¬ jumpsM (atL l i) = true := by unfold jumpsM; simp; omega
    simp [h45, hj]
  rw [if_neg h45]
  by_cases h37 : (atL l i).op = 37
  · rw [if_pos h37]
    have hj : jumpsM (atL l i) = true := by unfold jumpsM; simp; omega
    simp [h37, hj, hi]
    exact eq_comm
  rw [if_neg h37]
  by_cases hj : jumpsM (atL l i) = true
  · rw [if_pos hj]
    simp only [List.mem_cons, List.not_mem_nil, or_false, hj, true_and, hi, h45, h37, not_false_eq_true, ne_eq]
    constructor
    · rintro (e | e)
      · exact .inl (by omega)
      · exact .inr e.symm
    · rintro (e | e)
      · exact .inl (by omega)
      · exact .inr e.symm
  · rw [if_neg hj]
    have hj' : jumpsM (atL l i) = false := by simpa using hj
    simp [hj', hi, h45, h37]
    omega
theorem nextL_lt {l : List Mac} (h : MacsOk l) {i : Nat} (hi : i < l.length) : ∀ x ∈ nextL l i, 0 ≤ x ∧ x < (l.length : Int) := by
  intro x hx
  have hm := h.at_ hi
  unfold nextL at hx
  split at hx
  · cases hx
  rename_i h45
  split at hx
  · rename_i h37
    have := hm.jump (by omega) (by omega)
    simp at hx
    omega
  rename_i h37
  have hl := op_not_last h hi h37 h45
  split at hx
  · rename_i hj
    have hj' : 37 ≤ (atL l i).op ∧ (atL l i).op ≤ 43 := by unfold jumpsM at hj; simpa using hj
    have := hm.jump hj'.1 hj'.2
    simp at hx
    omega
  · simp at hx
    omega
theorem nextL_len (l : List Mac) (i : Nat) : (nextL l i).length ≤ 2 := by
  unfold nextL
  split
  · simp
  split
  · simp
  split <;> simp

/-- A set. -/
def inS (x : BitVec 64) (r : Nat) : Bool := x.getLsbD r
def atV (V : List (BitVec 64)) (i : Nat) : BitVec 64 := V.getD i 0#64
def orTo (V : List (BitVec 64)) (ks : List Int) : BitVec 64 := ks.foldl (fun b k => b ||| atV V k.toNat) 0#64
theorem orTo_snoc (V : List (BitVec 64)) (ks : List Int) (k : Int) : orTo V (ks ++ [k]) = orTo V ks ||| atV V k.toNat := by
  unfold orTo
  rw [List.foldl_append]
  rfl
theorem orTo_at (V : List (BitVec 64)) (r : Nat) : ∀ ks : List Int, (orTo V ks).getLsbD r = true ↔ ∃ k ∈ ks, (atV V k.toNat).getLsbD r = true := by
  intro ks
  have key : ∀ (ks : List Int) (b : BitVec 64), (ks.foldl (fun b k => b ||| atV V k.toNat) b).getLsbD r = true ↔ b.getLsbD r = true ∨ ∃ k ∈ ks, (atV V k.toNat).getLsbD r = true := by
    intro ks
    induction ks with
    | nil => intro b; simp
    | cons k ks ih =>
      intro b
      rw [List.foldl_cons, ih, BitVec.getLsbD_or, Bool.or_eq_true]
      simp [or_assoc]
  have := key ks 0#64
  rw [BitVec.getLsbD_zero] at this
  simpa [orTo] using this
/-- What an instruction's set becomes. -/
def stepV (rd wr b : BitVec 64) : BitVec 64 := rd ||| (b &&& ~~~wr)
theorem stepV_at (rd wr b : BitVec 64) {r : Nat} (hr : r < 64) : (stepV rd wr b).getLsbD r = (rd.getLsbD r || (b.getLsbD r && !wr.getLsbD r)) := by
  unfold stepV
  rw [BitVec.getLsbD_or, BitVec.getLsbD_and, BitVec.getLsbD_not]
  simp [hr]
def subV (x y : BitVec 64) : Prop := ∀ r, x.getLsbD r = true → y.getLsbD r = true
theorem subV_le {x y : BitVec 64} (h : subV x y) : x.toNat ≤ y.toNat := by
  have e : x &&& y = x := by
    apply BitVec.eq_of_getLsbD_eq
    intro i hi
    rw [BitVec.getLsbD_and]
    cases hx : x.getLsbD i
    · rfl
    · rw [h i hx]; rfl
  rw [← e, BitVec.toNat_and]
  exact Nat.and_le_right
theorem subV_lt {x y : BitVec 64} (h : subV x y) (hne : y ≠ x) : x.toNat < y.toNat := by
  have := subV_le h
  rcases Nat.lt_or_ge x.toNat y.toNat with h1 | h1
  · exact h1
  · exact absurd (BitVec.eq_of_toNat_eq (by omega)) hne
theorem small_V {x : BitVec 64} (h : ∀ r, 16 ≤ r → x.getLsbD r = false) : x.toNat < 65536 := by
  have h1 : x.toNat < 2 ^ 16 := by
    apply Nat.lt_pow_two_of_testBit
    intro i hi
    exact h i hi
  exact h1
/-- How many may still come. -/
def restV (V : List (BitVec 64)) : Nat := (V.map fun x => 65536 - x.toNat).sum
theorem restV_set {V : List (BitVec 64)} : ∀ {V : List (BitVec 64)} {i : Nat} {x : BitVec 64}, i < V.length → (atV V i).toNat < x.toNat → (atV V i).toNat < 65536 → restV (V.set i x) < restV V
  | y :: V, 0, x, _, h, h2 => by
    simp [atV] at h h2
    simp [restV]
    omega
  | y :: V, i + 1, x, hi, h, h2 => by
    have := restV_set (V := V) (i := i) (x := x) (by simpa using hi) (by simpa [atV] using h) (by simpa [atV] using h2)
    simp [restV] at this ⊢
    omega
theorem atV_set {V : List (BitVec 64)} {i k : Nat} {x : BitVec 64} (h : i < V.length) : atV (V.set i x) k = if k = i then x else atV V k := by
  unfold atV
  rw [List.getD_eq_getElem?_getD, List.getD_eq_getElem?_getD, List.getElem?_set]
  by_cases e : i = k
  · subst e
    rw [if_pos rfl, if_pos h, if_pos rfl]
    rfl
  · rw [if_neg e, if_neg (fun x => e x.symm)]

/-- Sets of what is read and written, as an instruction has it. -/
structure RW (l : List Mac) (rd wr : Nat → BitVec 64) : Prop where
  rdAt : ∀ i, i < l.length → ∀ r, r < 16 → (rd i).getLsbD r = readsM (atL l i) r
  wrAt : ∀ i, i < l.length → ∀ r, r < 16 → (wr i).getLsbD r = writesM (atL l i) r
  big : ∀ i, i < l.length → ∀ r, 16 ≤ r → (rd i).getLsbD r = false
def nextV (l : List Mac) (rd wr : Nat → BitVec 64) (V : List (BitVec 64)) (i : Nat) : BitVec 64 := stepV (rd i) (wr i) (orTo V (nextL l i))
/-- What holds of the sets on the way. -/
structure GoodV (l : List Mac) (rd wr : Nat → BitVec 64) (V : List (BitVec 64)) : Prop where
  len : V.length = l.length
  big : ∀ i r, 16 ≤ r → (atV V i).getLsbD r = false
  sound : ∀ i r, r < 16 → i < l.length → (atV V i).getLsbD r = true → Live l r i
  grow : ∀ i, i < l.length → subV (atV V i) (nextV l rd wr V i)
theorem bit_lt {x : BitVec 64} {r : Nat} (h : x.getLsbD r = true) : r < 64 := BitVec.lt_of_getLsbD h
theorem nextV_mono {l : List Mac} {rd wr : Nat → BitVec 64} {V V' : List (BitVec 64)} (h : ∀ i, subV (atV V i) (atV V' i)) (i : Nat) : subV (nextV l rd wr V i) (nextV l rd wr V' i) := by
  intro r hr
  have h64 := bit_lt hr
  unfold nextV at hr ⊢
  rw [stepV_at _ _ _ h64] at hr ⊢
  simp only [Bool.or_eq_true, Bool.and_eq_true] at hr ⊢
  rcases hr with hr | ⟨hr, hw⟩
  · exact .inl hr
  · refine .inr ⟨?_, hw⟩
    rw [orTo_at] at hr ⊢
    obtain ⟨k, hk, hx⟩ := hr
    exact ⟨k, hk, h _ r hx⟩
theorem atV_out {V : List (BitVec 64)} {i : Nat} (h : V.length ≤ i) : atV V i = 0#64 := by
  unfold atV
  rw [List.getD_eq_getElem?_getD, List.getElem?_eq_none h]
  rfl
theorem GoodV.first {l : List Mac} {rd wr : Nat → BitVec 64} : GoodV l rd wr (List.replicate l.length 0#64) := by
  have h0 : ∀ i, atV (List.replicate l.length 0#64) i = 0#64 := fun i => by
    unfold atV
    rw [List.getD_eq_getElem?_getD, List.getElem?_replicate]
    split <;> rfl
  refine ⟨List.length_replicate, fun i r _ => by rw [h0]; simp, fun i r _ _ h => by rw [h0] at h; simp at h, fun i _ r h => by rw [h0] at h; simp at h⟩
theorem GoodV.step {l : List Mac} (hl : MacsOk l) {rd wr : Nat → BitVec 64} (hrw : RW l rd wr) {V : List (BitVec 64)} (h : GoodV l rd wr V) {i : Nat} (hi : i < l.length) : GoodV l rd wr (V.set i (nextV l rd wr V i)) := by
  have hiV : i < V.length := by rw [h.len]; exact hi
  have hbig : ∀ r, 16 ≤ r → (nextV l rd wr V i).getLsbD r = false := fun r hr => by
    cases hx : (nextV l rd wr V i).getLsbD r
    · rfl
    · have h64 := bit_lt hx
      unfold nextV at hx
      rw [stepV_at _ _ _ h64, hrw.big i hi r hr, Bool.false_or, Bool.and_eq_true, orTo_at] at hx
      obtain ⟨⟨k, _, hk⟩, _⟩ := hx
      rw [h.big _ r hr] at hk
      cases hk
  have hsub : ∀ k, subV (atV V k) (atV (V.set i (nextV l rd wr V i)) k) := fun k r hr => by
    rw [atV_set hiV]
    by_cases e : k = i
    · rw [if_pos e]; subst e; exact h.grow k hi r hr
    · rw [if_neg e]; exact hr
  refine ⟨by rw [List.length_set]; exact h.len, fun k r hr => ?_, fun k r hr hk hx => ?_, fun k hk r hr => ?_⟩
  · rw [atV_set hiV]
    by_cases e : k = i
    · rw [if_pos e]; exact hbig r hr
    · rw [if_neg e]; exact h.big k r hr
  · rw [atV_set hiV] at hx
    by_cases e : k = i
    · rw [if_pos e] at hx
      subst e
      unfold nextV at hx
      rw [stepV_at _ _ _ (by omega), hrw.rdAt k hi r hr, hrw.wrAt k hi r hr, Bool.or_eq_true, Bool.and_eq_true, orTo_at] at hx
      rcases hx with hx | ⟨⟨t, ht, hx⟩, hw⟩
      · exact .use hi hx
      · have ht0 := nextL_lt hl hi t ht
        refine .via (k := t.toNat) hi (by simpa using hw) ((nextL_iff hi).1 (by rwa [Int.toNat_of_nonneg ht0.1])) (h.sound _ r hr (by omega) hx)
    · rw [if_neg e] at hx
      exact h.sound k r hr hk hx
  · refine nextV_mono hsub k r ?_
    rw [atV_set hiV] at hr
    by_cases e : k = i
    · rw [if_pos e] at hr; subst e; exact hr
    · rw [if_neg e] at hr; exact h.grow k hk r hr
theorem GoodV.less {l : List Mac} {rd wr : Nat → BitVec 64} {V : List (BitVec 64)} (h : GoodV l rd wr V) {i : Nat} (hi : i < l.length) (hne : nextV l rd wr V i ≠ atV V i) : restV (V.set i (nextV l rd wr V i)) < restV V :=
  restV_set (V := V) (by rw [h.len]; exact hi) (subV_lt (h.grow i hi) hne) (small_V (h.big i))
/-- At the end they are what is live. -/
theorem GoodV.done {l : List Mac} (hl : MacsOk l) {rd wr : Nat → BitVec 64} (hrw : RW l rd wr) {V : List (BitVec 64)} (h : GoodV l rd wr V) (hc : ∀ i, i < l.length → nextV l rd wr V i = atV V i) {i r : Nat} (hi : i < l.length) (hr : r < 16) : (atV V i).getLsbD r = liveB l i r := by
  have back : Live l r i → (atV V i).getLsbD r = true := fun hL => by
    induction hL with
    | use hi hx =>
      rw [← hc _ hi, nextV, stepV_at _ _ _ (by omega), hrw.rdAt _ hi r hr, hx]
      rfl
    | @via j k hi hw hs _ ih =>
      have hk : k < l.length := by
        have := nextL_lt hl hi k ((nextL_iff hi).2 hs)
        omega
      rw [← hc _ hi, nextV, stepV_at _ _ _ (by omega), hrw.wrAt _ hi r hr, hw]
      have : (orTo V (nextL l j)).getLsbD r = true := (orTo_at V r _).2 ⟨k, (nextL_iff hi).2 hs, by simpa using ih hk⟩
      rw [this]
      simp
  cases hx : (atV V i).getLsbD r
  · cases hy : liveB l i r
    · rfl
    · rw [back (liveB_iff.1 hy)] at hx
      cases hx
  · exact (liveB_iff.2 (h.sound i r hr hi hx)).symm
end Go.Proofs.YtkcmijnaheapdaaDoor
