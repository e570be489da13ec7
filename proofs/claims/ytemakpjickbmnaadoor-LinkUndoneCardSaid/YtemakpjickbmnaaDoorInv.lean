/- A region that draws its order, by an invariant: each operation is met once. -/
import Derived.Orders
import Derived.Calls
namespace Go.Proofs.YtemakpjickbmnaaDoor
open Go
set_option linter.unusedSimpArgs false
set_option linter.unusedVariables false

/-- How many have not come up. -/
def unlisted (l : Array Bool) : Nat := l.toList.countP (fun b => !b)
theorem unlisted_set {l : Array Bool} {i : Nat} (h : l.getD i true = false) : unlisted (l.setIfInBounds i true) + 1 = unlisted l := by
  obtain ⟨l⟩ := l
  have key : ∀ (l : List Bool) (i : Nat), (l[i]?).getD true = false → (l.set i true).countP (fun b => !b) + 1 = l.countP (fun b => !b) := by
    intro l
    induction l with
    | nil => intro i h; simp at h
    | cons x l ih =>
      intro i h
      cases i with
      | zero =>
        simp at h
        subst h
        simp [List.countP_cons]
      | succ i =>
        have := ih i (by simpa using h)
        simp only [List.set_cons_succ, List.countP_cons]
        omega
  have h' : (l[i]?).getD true = false := by
    simpa [Array.getD_eq_getD_getElem?] using h
  have := key l i h'
  simpa [unlisted] using this
theorem unlisted_none {l : Array Bool} (h : unlisted l = 0) (i : Nat) : l.getD i true = true := by
  obtain ⟨l⟩ := l
  unfold unlisted at h
  rw [List.countP_eq_zero] at h
  rw [Array.getD_eq_getD_getElem?]
  cases hx : (⟨l⟩ : Array Bool)[i]? with
  | none => rfl
  | some b =>
    have hm : b ∈ l := by
      have : l[i]? = some b := by simpa using hx
      exact List.mem_of_getElem? this
    have := h b hm
    simpa using this
theorem wpAny_inv {P : Program} {md : Region.Mode} {ops : Array Oper} {Q : Exit → Act → World → Prop} (I : Array Bool → Act → World → Prop)
    (hs : ∀ l a w i, l.size = ops.size → I l a w → i ∈ Region.ready md ops l → wpOp P ops Q i (fun a' w' => I (l.setIfInBounds i true) a' w') a w)
    (he : ∀ l a w, l.size = ops.size → I l a w → (∀ i, i < ops.size → l.getD i false = true) → Q .normal a w) (hw : ∀ l : Array Bool, l.size = ops.size → Region.ready md ops l = [] → ∀ i, i < ops.size → l.getD i false = true) :
    ∀ (fuel : Nat) (l : Array Bool) (a : Act) (w : World), l.size = ops.size → unlisted l ≤ fuel → I l a w → wpAny P md ops Q fuel l a w
  | 0, l, a, w, hz, hf, h => by
    have hr : Region.ready md ops l = [] := by
      cases hr : Region.ready md ops l with
      | nil => rfl
      | cons i rs =>
        have h1 := (mem_ready.1 (by rw [hr]; exact List.mem_cons_self .. : i ∈ Region.ready md ops l)).1
        rw [unlisted_none (by omega)] at h1
        cases h1
    exact ⟨hr, he l a w hz h (hw l hz hr)⟩
  | fuel + 1, l, a, w, hz, hf, h => by
    refine ⟨fun hr => he l a w hz h (hw l hz hr), fun i hi => ?_⟩
    have h1 := unlisted_set (mem_ready.1 hi).1
    exact wpOp_mono (fun a' w' h' => wpAny_inv I hs he hw fuel _ a' w' (by simpa using hz) (by omega) h') (hs l a w i hz h hi)
/-- A region whose operations wait, if at all, for earlier ones: nothing is ready only where all have come up. -/
theorem all_listed {md : Region.Mode} {ops : Array Oper} (hd : ∀ (i : Nat) (o : Oper), ops[i]? = some o → ∀ e ∈ o.after, Region.binds md e = true → e.on < i) (l : Array Bool) (hz : l.size = ops.size) (hr : Region.ready md ops l = []) : ∀ i, i < ops.size → l.getD i false = true := by
  intro i
  induction i using Nat.strongRecOn with
  | _ i ih =>
    intro hi
    cases hb : l.getD i false with
    | true => rfl
    | false =>
      exfalso
      have hl : l.getD i true = false := by
        have hlt : i < l.size := by omega
        simp only [Array.getD_eq_getD_getElem?, Array.getElem?_eq_getElem hlt, Option.getD_some] at hb ⊢
        exact hb
      have : i ∈ Region.ready md ops l := mem_ready.2 ⟨hl, ops[i], Array.getElem?_eq_getElem hi, fun e hm hb => ih e.on (hd i _ (Array.getElem?_eq_getElem hi) e hm hb) (by have := hd i _ (Array.getElem?_eq_getElem hi) e hm hb; omega)⟩
      rw [hr] at this
      cases this
theorem wp_region_inv {P : Program} {ops : Array Oper} {Q : Exit → Act → World → Prop} {id : Nat} {a : Act} {w : World} (hm : P.follows .mixedOrders = true) (I : Array Bool → Act → World → Prop)
    (h0 : I (Array.replicate ops.size false) a { w with drawn := w.drawn + 1 }) (hd : ∀ (i : Nat) (o : Oper), ops[i]? = some o → ∀ e ∈ o.after, Region.binds .any e = true → e.on < i)
    (hs : ∀ l a w i, l.size = ops.size → I l a w → i ∈ Region.ready .any ops l → wpOp P ops Q i (fun a' w' => I (l.setIfInBounds i true) a' w') a w)
    (he : ∀ l a w, l.size = ops.size → I l a w → (∀ i, i < ops.size → l.getD i false = true) → Q .normal a w) : (Code.region id ops true).wp P Q a w :=
  wp_region_any hm (wpAny_inv I hs he (fun l hz hr => all_listed hd l hz hr) _ _ _ _ (by simp) (by
    unfold unlisted
    exact Nat.le_trans List.countP_le_length (by simp)) h0)
def edgesB (ops : Array Oper) : Bool := (List.range ops.size).all fun i => match ops[i]? with | some o => o.after.all fun e => !Region.binds .any e || decide (e.on < i) | none => true
theorem edges_ok {ops : Array Oper} (h : edgesB ops = true) : ∀ (i : Nat) (o : Oper), ops[i]? = some o → ∀ e ∈ o.after, Region.binds .any e = true → e.on < i := fun i o ho e he hb => by
  unfold edgesB at h
  rw [List.all_eq_true] at h
  have h1 := h i (List.mem_range.2 (Array.getElem?_eq_some_iff.1 ho).1)
  rw [ho] at h1
  simp only [Array.all_eq_true_iff_forall_mem] at h1
  have h2 := h1 e he
  rw [hb] at h2
  simpa using h2
theorem getD_none {l : Array Bool} {i : Nat} (h : l.getD i true = false) : l.getD i false = false := by
  rw [Array.getD_eq_getD_getElem?] at h ⊢
  cases hx : l[i]? with
  | none => rfl
  | some b =>
    rw [hx] at h
    exact h
/-- An act by what its slots hold. -/
def over (a : Act) (L : List (Nat × Value)) : Act := L.foldl (fun a p => a.put (some p.1) p.2) a
theorem over_tmps : ∀ (L : List (Nat × Value)) (a : Act) (k : Nat), (∀ p ∈ L, p.1 < a.tmps.size) → (over a L).tmps[k]? = match L.reverse.find? (fun p => p.1 == k) with | some p => some p.2 | none => a.tmps[k]?
  | [], a, k, _ => rfl
  | p :: L, a, k, hL => by
    have ih := over_tmps L (a.put (some p.1) p.2) k (fun q hq => by have := hL q (by simp [hq]); simpa [Act.put] using this)
    show (over (a.put (some p.1) p.2) L).tmps[k]? = _
    rw [ih, List.reverse_cons, List.find?_append]
    cases hf : L.reverse.find? (fun p => p.1 == k) with
    | some q => rfl
    | none =>
      simp only [Option.none_or, List.find?_cons, List.find?_nil]
      show (a.tmps.setIfInBounds p.1 p.2)[k]? = _
      by_cases hk : p.1 = k
      · subst hk
        have hlt : p.1 < a.tmps.size := hL p (by simp)
        simp [hlt]
      · rw [Array.getElem?_setIfInBounds_ne hk, show (p.1 == k) = false from by simpa using hk]
theorem act_over {a a0 : Act} (L : List (Nat × Value)) (hL : ∀ p ∈ L, p.1 < a0.tmps.size) (hd : a.defers = a0.defers) (hs : ∀ p ∈ L, a.tmps[p.1]? = some p.2) (ho : ∀ k, (∀ p ∈ L, p.1 ≠ k) → a.tmps[k]? = a0.tmps[k]?) : a = over a0 L := by
  have hdf : ∀ (L : List (Nat × Value)) (a : Act), (over a L).defers = a.defers := by
    intro L
    induction L with
    | nil => intro a; rfl
    | cons q L ih2 => intro a; show (over (a.put (some q.1) q.2) L).defers = _; rw [ih2]; rfl
  have ht : a.tmps = (over a0 L).tmps := by
    apply Array.ext_getElem?
    intro k
    rw [over_tmps L a0 k hL]
    cases hf : L.reverse.find? (fun p => p.1 == k) with
    | none =>
      refine ho k fun p hp e => ?_
      have := List.find?_eq_none.1 hf p (by simpa using hp)
      simp [e] at this
    | some p =>
      have h1 := List.mem_of_find?_eq_some hf
      have h2 := List.find?_some hf
      have h3 : p.1 = k := by simpa using h2
      rw [← h3]
      exact hs p (by simpa using h1)
  cases a
  cases h : over a0 L
  rw [h] at ht
  have := hdf L a0
  rw [h] at this
  simp only at ht this hd
  rw [ht, hd, ← this]
end Go.Proofs.YtemakpjickbmnaaDoor
