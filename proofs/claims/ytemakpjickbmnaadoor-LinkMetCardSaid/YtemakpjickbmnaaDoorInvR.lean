/- A region that draws its order, by an invariant: each operation is met once. A region that draws its order, by what holds on its way: slots by their values, cells apart from its variables. -/
import Derived.Orders
import Derived.Calls
import Derived.Test.YtemakpjickbmnaaDoorBase
import Derived.Test.YtemakpjickbmnaaDoorRows
import Derived.IntWalk
import Derived.Outline
import Derived.Test.YtemakpjickbmnaaDoorAppA
/- A region that draws its order, by an invariant: each operation is met once. -/
namespace Go.Proofs.YtemakpjickbmnaaDoor
open Go
set_option linter.unusedSimpArgs false
set_option linter.unusedVariables false

/-- How many have not come up. -/
def unlisted (l : Array Bool) : Nat := l.toList.countP (fun b => !b)
theorem unlisted_set {l : Array Bool} {i : Nat} (h : l.getD i true = false) : unlisted (l.setIfInBounds i true) + 1 = unlisted l := by
  obtain ⟨l⟩ := l
  have key : ∀ (l : List Bool) (i : Nat), (l[i]?).getD true = false → (l.set i true).countP (fun b => !b) + 1 = l.countP (fun b => !b) := by
    intro l
    induction l with
    | nil => intro i h; simp at h
    | cons x l ih =>
      intro i h
      cases i with
      | zero =>
        simp at h
        subst h
        simp [List.countP_cons]
      | succ i =>
        have := ih i (by simpa using h)
        simp only [List.set_cons_succ, List.countP_cons]
        omega
  have h' : (l[i]?).getD true = false := by
    simpa [Array.getD_eq_getD_getElem?] using h
  have := key l i h'
  simpa [unlisted] using this
theorem unlisted_none {l : Array Bool} (h : unlisted l = 0) (i : Nat) : l.getD i true = true := by
  obtain ⟨l⟩ := l
  unfold unlisted at h
  rw [List.countP_eq_zero] at h
  rw [Array.getD_eq_getD_getElem?]
  cases hx : (⟨l⟩ : Array Bool)[i]? with
  | none => rfl
  | some b =>
    have hm : b ∈ l := by
      have : l[i]? = some b := by simpa using hx
      exact List.mem_of_getElem? this
    have := h b hm
    simpa using this
theorem wpAny_inv {P : Program} {md : Region.Mode} {ops : Array Oper} {Q : Exit → Act → World → Prop} (I : Array Bool → Act → World → Prop)
    (hs : ∀ l a w i, l.size = ops.size → I l a w → i ∈ Region.ready md ops l → wpOp P ops Q i (fun a' w' => I (l.setIfInBounds i true) a' w') a w)
    (he : ∀ l a w, l.size = ops.size → I l a w → (∀ i, i < ops.size → l.getD i false = true) → Q .normal a w) (hw : ∀ l : Array Bool, l.size = ops.size → Region.ready md ops l = [] → ∀ i, i < ops.size → l.getD i false = true) :
    ∀ (fuel : Nat) (l : Array Bool) (a : Act) (w : World), l.size = ops.size → unlisted l ≤ fuel → I l a w → wpAny P md ops Q fuel l a w
  | 0, l, a, w, hz, hf, h => by
    have hr : Region.ready md ops l = [] := by
      cases hr : Region.ready md ops l with
      | nil => rfl
      | cons i rs =>
        have h1 := (mem_ready.1 (by rw [hr]; exact List.mem_cons_self .. : i ∈ Region.ready md ops l)).1
        rw [unlisted_none (by omega)] at h1
        cases h1
    exact ⟨hr, he l a w hz h (hw l hz hr)⟩
  | fuel + 1, l, a, w, hz, hf, h => by
    refine ⟨fun hr => he l a w hz h (hw l hz hr), fun i hi => ?_⟩
    have h1 := unlisted_set (mem_ready.1 hi).1
    exact wpOp_mono (fun a' w' h' => wpAny_inv I hs he hw fuel _ a' w' (by simpa using hz) (by omega) h') (hs l a w i hz h hi)
/-- A region whose operations wait, if at all, for earlier ones: nothing is ready only where all have come up. -/
theorem all_listed {md : Region.Mode} {ops : Array Oper} (hd : ∀ (i : Nat) (o : Oper), ops[i]? = some o → ∀ e ∈ o.after, Region.binds md e = true → e.on < i) (l : Array Bool) (hz : l.size = ops.size) (hr : Region.ready md ops l = []) : ∀ i, i < ops.size → l.getD i false = true := by
  intro i
  induction i using Nat.strongRecOn with
  | _ i ih =>
    intro hi
    cases hb : l.getD i false with
    | true => rfl
    | false =>
      exfalso
      have hl : l.getD i true = false := by
        have hlt : i < l.size := by omega
        simp only [Array.getD_eq_getD_getElem?, Array.getElem?_eq_getElem hlt, Option.getD_some] at hb ⊢
        exact hb
      have : i ∈ Region.ready md ops l := mem_ready.2 ⟨hl, ops[i], Array.getElem?_eq_getElem hi, fun e hm hb => ih e.on (hd i _ (Array.getElem?_eq_getElem hi) e hm hb) (by have := hd i _ (Array.getElem?_eq_getElem hi) e hm hb; omega)⟩
      rw [hr] at this
      cases this
theorem wp_region_inv {P : Program} {ops : Array Oper} {Q : Exit → Act → World → Prop} {id : Nat} {a : Act} {w : World} (hm : P.follows .mixedOrders = true) (I : Array Bool → Act → World → Prop)
    (h0 : I (Array.replicate ops.size false) a { w with drawn := w.drawn + 1 }) (hd : ∀ (i : Nat) (o : Oper), ops[i]? = some o → ∀ e ∈ o.after, Region.binds .any e = true → e.on < i)
    (hs : ∀ l a w i, l.size = ops.size → I l a w → i ∈ Region.ready .any ops l → wpOp P ops Q i (fun a' w' => I (l.setIfInBounds i true) a' w') a w)
    (he : ∀ l a w, l.size = ops.size → I l a w → (∀ i, i < ops.size → l.getD i false = true) → Q .normal a w) : (Code.region id ops true).wp P Q a w :=
  wp_region_any hm (wpAny_inv I hs he (fun l hz hr => all_listed hd l hz hr) _ _ _ _ (by simp) (by
    unfold unlisted
    exact Nat.le_trans List.countP_le_length (by simp)) h0)
def edgesB (ops : Array Oper) : Bool := (List.range ops.size).all fun i => match ops[i]? with | some o => o.after.all fun e => !Region.binds .any e || decide (e.on < i) | none => true
theorem edges_ok {ops : Array Oper} (h : edgesB ops = true) : ∀ (i : Nat) (o : Oper), ops[i]? = some o → ∀ e ∈ o.after, Region.binds .any e = true → e.on < i := fun i o ho e he hb => by
  unfold edgesB at h
  rw [List.all_eq_true] at h
  have h1 := h i (List.mem_range.2 (Array.getElem?_eq_some_iff.1 ho).1)
  rw [ho] at h1
  simp only [Array.all_eq_true_iff_forall_mem] at h1
  have h2 := h1 e he
  rw [hb] at h2
  simpa using h2
theorem getD_none {l : Array Bool} {i : Nat} (h : l.getD i true = false) : l.getD i false = false := by
  rw [Array.getD_eq_getD_getElem?] at h ⊢
  cases hx : l[i]? with
  | none => rfl
  | some b =>
    rw [hx] at h
    exact h
/-- An act by what its slots hold. -/
def over (a : Act) (L : List (Nat × Value)) : Act := L.foldl (fun a p => a.put (some p.1) p.2) a
theorem over_tmps : ∀ (L : List (Nat × Value)) (a : Act) (k : Nat), (∀ p ∈ L, p.1 < a.tmps.size) → (over a L).tmps[k]? = match L.reverse.find? (fun p => p.1 == k) with | some p => some p.2 | none => a.tmps[k]?
  | [], a, k, _ => rfl
  | p :: L, a, k, hL => by
    have ih := over_tmps L (a.put (some p.1) p.2) k (fun q hq => by have := hL q (by simp [hq]); simpa [Act.put] using this)
    show (over (a.put (some p.1) p.2) L).tmps[k]? = _
    rw [ih, List.reverse_cons, List.find?_append]
    cases hf : L.reverse.find? (fun p => p.1 == k) with
    | some q => rfl
    | none =>
      simp only [Option.none_or, List.find?_cons, List.find?_nil]
      show (a.tmps.setIfInBounds p.1 p.2)[k]? = _
      by_cases hk : p.1 = k
      · subst hk
        have hlt : p.1 < a.tmps.size := hL p (by simp)
        simp [hlt]
      · rw [Array.getElem?_setIfInBounds_ne hk, show (p.1 == k) = false from by simpa using hk]
theorem act_over {a a0 : Act} (L : List (Nat × Value)) (hL : ∀ p ∈ L, p.1 < a0.tmps.size) (hd : a.defers = a0.defers) (hs : ∀ p ∈ L, a.tmps[p.1]? = some p.2) (ho : ∀ k, (∀ p ∈ L, p.1 ≠ k) → a.tmps[k]? = a0.tmps[k]?) : a = over a0 L := by
  have hdf : ∀ (L : List (Nat × Value)) (a : Act), (over a L).defers = a.defers := by
    intro L
    induction L with
    | nil => intro a; rfl
    | cons q L ih2 => intro a; show (over (a.put (some q.1) q.2) L).defers = _; rw [ih2]; rfl
  have ht : a.tmps = (over a0 L).tmps := by
    apply Array.ext_getElem?
    intro k
    rw [over_tmps L a0 k hL]
    cases hf : L.reverse.find? (fun p => p.1 == k) with
    | none =>
      refine ho k fun p hp e => ?_
      have := List.find?_eq_none.1 hf p (by simpa using hp)
      simp [e] at this
    | some p =>
      have h1 := List.mem_of_find?_eq_some hf
      have h2 := List.find?_some hf
      have h3 : p.1 = k := by simpa using h2
      rw [← h3]
      exact hs p (by simpa using h1)
  cases a
  cases h : over a0 L
  rw [h] at ht
  have := hdf L a0
  rw [h] at this
  simp only at ht this hd
  rw [ht, hd, ← this]
end Go.Proofs.YtemakpjickbmnaaDoor

/- A region that draws its order, by what holds on its way: slots by their values, cells apart from its variables. -/
namespace Go.Proofs.YtemakpjickbmnaaDoor
open Go.RowKit
set_option linter.unusedSimpArgs false
set_option linter.unusedVariables false

def vals (a : Act) (k : Nat) : Value := a.tmps.getD k undef
def setV (val : Nat → Value) (k : Nat) (v : Value) (j : Nat) : Value := if j = k then v else val j
def don (d : Nat → Bool) (i k : Nat) : Bool := if k = i then true else d k
theorem vals_put {a : Act} {k : Nat} {v : Value} (h : k < a.tmps.size) : vals (a.put (some k) v) = setV (vals a) k v := by
  funext j
  unfold vals setV
  show (a.tmps.setIfInBounds k v).getD j undef = _
  show _ = if j = k then v else a.tmps.getD j undef
  rw [Array.getD_eq_getD_getElem?, Array.getElem?_setIfInBounds, Array.getD_eq_getD_getElem?]
  by_cases e : k = j
  · subst e
    simp [h]
  · rw [if_neg e, if_neg (fun h => e h.symm)]
theorem vals_eval (a : Act) (k : Nat) : a.eval (.tmp k) = vals a k := rfl
theorem vals_of {a : Act} {k : Nat} {v : Value} (h : a.tmps[k]? = some v) : vals a k = v := by
  unfold vals
  rw [Array.getD_eq_getD_getElem?, h]
  rfl
structure Ag (slots : List Nat) (a0 a : Act) : Prop where
  sz : a.tmps.size = a0.tmps.size
  df : a.defers = a0.defers
  ot : ∀ k, k ∉ slots → a.tmps[k]? = a0.tmps[k]?
  hs : ∀ k ∈ slots, k < a0.tmps.size
theorem Ag.put {slots : List Nat} {a0 a : Act} (h : Ag slots a0 a) {k : Nat} (hk : k ∈ slots) (v : Value) : Ag slots a0 (a.put (some k) v) := by
  refine ⟨by simpa [Act.put] using h.sz, h.df, fun j hj => ?_, h.hs⟩
  show (a.tmps.setIfInBounds k v)[j]? = _
  rw [Array.getElem?_setIfInBounds_ne (by rintro rfl; exact hj hk)]
  exact h.ot j hj
theorem Ag.old {slots : List Nat} {a0 a : Act} (h : Ag slots a0 a) {k : Nat} (hk : k ∉ slots) : vals a k = vals a0 k := by
  unfold vals
  rw [Array.getD_eq_getD_getElem?, Array.getD_eq_getD_getElem?, h.ot k hk]
theorem Ag.over {slots : List Nat} {a0 a : Act} (h : Ag slots a0 a) : a = over a0 (slots.map fun k => (k, vals a k)) := by
  refine act_over _ (fun p hp => ?_) h.df (fun p hp => ?_) (fun k hk => h.ot k (fun hm => hk (k, vals a k) (List.mem_map.2 ⟨k, hm, rfl⟩) rfl))
  · obtain ⟨k, hk, rfl⟩ := List.mem_map.1 hp
    exact h.hs k hk
  · obtain ⟨k, hk, rfl⟩ := List.mem_map.1 hp
    have hlt : k < a.tmps.size := by rw [h.sz]; exact h.hs k hk
    show a.tmps[k]? = some (vals a k)
    unfold vals
    rw [Array.getD_eq_getD_getElem?, Array.getElem?_eq_getElem hlt]
    rfl
theorem don_set {l : Array Bool} {i : Nat} (h : i < l.size) : (fun k => (l.setIfInBounds i true).getD k false) = don (fun k => l.getD k false) i := by
  funext k
  unfold don
  simp only [Array.getD_eq_getD_getElem?, Array.getElem?_setIfInBounds]
  by_cases e : k = i
  · subst e
    simp [h]
  · rw [if_neg (fun h => e h.symm), if_neg e]
def guardsB (ops : Array Oper) : Bool := ops.all fun o => o.guard.isNone
theorem guards_ok {ops : Array Oper} (h : guardsB ops = true) : ∀ (i : Nat) (o : Oper), ops[i]? = some o → o.guard = none := fun i o ho => by
  unfold guardsB at h
  rw [Array.all_eq_true_iff_forall_mem] at h
  have := h o (Array.mem_of_getElem? ho)
  cases hg : o.guard with
  | none => rfl
  | some g => rw [hg] at this; cases this
/-- What a step has to bring about. -/
def Aft (slots : List Nat) (a0 : Act) (I : (Nat → Bool) → (Nat → Value) → World → Prop) (d : Nat → Bool) (i : Nat) (a' : Act) (w' : World) : Prop := Ag slots a0 a' ∧ I (don d i) (vals a') w'
theorem reg_inv {P : Program} {ops : Array Oper} {Q : Exit → Act → World → Prop} {id : Nat} {a0 : Act} {w : World} (hm : P.follows .mixedOrders = true) (slots : List Nat) (I : (Nat → Bool) → (Nat → Value) → World → Prop)
    (hd : ∀ (i : Nat) (o : Oper), ops[i]? = some o → ∀ e ∈ o.after, Region.binds .any e = true → e.on < i) (hsl : ∀ k ∈ slots, k < a0.tmps.size) (hgd : ∀ (i : Nat) (o : Oper), ops[i]? = some o → o.guard = none)
    (h0 : I (fun _ => false) (vals a0) w.drew)
    (hs : ∀ (d : Nat → Bool) a w' i o, ops[i]? = some o → d i = false → (∀ e ∈ o.after, Region.binds .any e = true → d e.on = true) → Ag slots a0 a → I d (vals a) w' → o.wp P a w' (Aft slots a0 I d i) Q)
    (he : ∀ (d : Nat → Bool) vs w', (∀ i, i < ops.size → d i = true) → (∀ k, k ∉ slots → vs k = vals a0 k) → I d vs w' → Q .normal (over a0 (slots.map fun k => (k, vs k))) w') : (Code.region id ops true).wp P Q a0 w := by
  refine wp_region_inv hm (fun l a w' => Ag slots a0 a ∧ I (fun k => l.getD k false) (vals a) w') ⟨⟨rfl, rfl, fun _ _ => rfl, hsl⟩, ?_⟩ hd ?_ ?_
  · have hf : (fun k => (Array.replicate ops.size false).getD k false) = (fun _ => false) := by
      funext k
      rw [Array.getD_eq_getD_getElem?, Array.getElem?_replicate]
      split <;> rfl
    rw [hf]
    exact h0
  · rintro l a w' i hz ⟨hag, H⟩ hi
    obtain ⟨hun, o, ho, hall⟩ := mem_ready.1 hi
    have hlt : i < l.size := by
      rw [hz]
      exact (Array.getElem?_eq_some_iff.1 ho).1
    have := hs (fun k => l.getD k false) a w' i o ho (getD_none hun) (fun e he hb => hall e he hb) hag H
    unfold wpOp
    simp only [ho]
    rw [if_pos (by simp [Region.wanted, hgd i o ho])]
    refine .inl (Oper.wp_mono (fun a' w'' h => ?_) this)
    rw [don_set hlt]
    exact h
  · rintro l a w' hz ⟨hag, H⟩ hall
    rw [hag.over]
    exact he _ _ w' hall (fun k hk => hag.old hk) H
theorem reg_value {P : Program} {slots : List Nat} {a0 a : Act} {I : (Nat → Bool) → (Nat → Value) → World → Prop} {d : Nat → Bool} {i k : Nat} {Q : Exit → Act → World → Prop} {o : Oper} {w w' : World} {v : Value} (hag : Ag slots a0 a) (hdst : o.dst = some k) (hk : k ∈ slots)
    (hr : (execOp a.eval o).run P w = .ok (.value v) w') (h : I (don d i) (setV (vals a) k v) w') : o.wp P a w (Aft slots a0 I d i) Q := by
  unfold Oper.wp
  rw [hr]
  show Aft slots a0 I d i (a.put o.dst v) w'
  rw [hdst]
  refine ⟨hag.put hk v, ?_⟩
  rw [vals_put (by rw [hag.sz]; exact hag.hs k hk)]
  exact h
theorem reg_skip {P : Program} {slots : List Nat} {a0 a : Act} {I : (Nat → Bool) → (Nat → Value) → World → Prop} {d : Nat → Bool} {i : Nat} {Q : Exit → Act → World → Prop} {o : Oper} {w w' : World} (hag : Ag slots a0 a) (hdst : o.dst = none)
    (hr : (execOp a.eval o).run P w = .ok .skip w') (h : I (don d i) (vals a) w') : o.wp P a w (Aft slots a0 I d i) Q := by
  unfold Oper.wp
  rw [hr]
  show Aft slots a0 I d i (a.put o.dst undef) w'
  rw [hdst]
  exact ⟨hag, h⟩
theorem reg_call {P : Program} {slots : List Nat} {a0 a : Act} {I : (Nat → Bool) → (Nat → Value) → World → Prop} {d : Nat → Bool} {i k : Nat} {Q : Exit → Act → World → Prop} {o : Oper} {w : World} {f : FuncId} {args : Array Value} (hag : Ag slots a0 a) (hdst : o.dst = some k) (hk : k ∈ slots)
    (hr : (execOp a.eval o).run P w = .ok (.enter f args) w) (h : ∀ R : Ending → World → Prop, (∀ v w', I (don d i) (setV (vals a) k v) w' → R (.returned v) w') → Calls P f args w R) : o.wp P a w (Aft slots a0 I d i) Q := by
  unfold Oper.wp
  rw [hr]
  show Calls P f args w _
  refine h _ fun v w' hv => ?_
  refine ⟨by rw [hdst]; exact hag.put hk v, ?_⟩
  rw [hdst, vals_put (by rw [hag.sz]; exact hag.hs k hk)]
  exact hv
/-- A slice that reads as a list by blocks apart from a region's variables. -/
def Rp.SLL {α : Type} (r : Rp α) (w : World) (L : Nat → Bool) (xs : List α) (v : Value) : Prop := r.SL (only w fun k => !L k) w.heap.size xs v
theorem Rp.SLL.SL {α : Type} {r : Rp α} {w : World} {L : Nat → Bool} {xs : List α} {v : Value} (h : r.SLL w L xs v) : r.SL w w.heap.size xs v := Rp.SL.mono (show r.SL _ w.heap.size xs v from h) fun p u _ hp => (only_cell hp).1
theorem Rp.SLL.up {α : Type} {r : Rp α} {w w' : World} {L L' : Nat → Bool} {xs : List α} {v : Value} (h : r.SLL w L xs v) (hb : Below w.heap.size w w') (hL : ∀ k, k < w.heap.size → L k = false → L' k = false) : r.SLL w' L' xs v := by
  refine Rp.SL.more (Rp.SL.mono (show r.SL _ w.heap.size xs v from h) fun p u _ hp => ?_) hb.size
  obtain ⟨h1, h2⟩ := only_cell hp
  have hlt := World.block_lt_of_cell? w _ h1
  rw [only_cell_of _ _ _ (by rw [hL _ hlt (by simpa using h2)]; rfl)]
  exact (hb.cell hlt).trans h1
theorem Rp.SLL.setCell {α : Type} {r : Rp α} {w : World} {L : Nat → Bool} {xs : List α} {v : Value} (h : r.SLL w L xs v) (p : Addr) (hp : L p.block = true) (u : Value) : r.SLL (w.setCell p u) L xs v := by
  refine Rp.SL.more (Rp.SL.mono (show r.SL _ w.heap.size xs v from h) fun q x _ hq => ?_) (by simp [World.setCell])
  obtain ⟨h1, h2⟩ := only_cell hq
  rw [only_cell_of _ _ _ h2]
  exact (World.cell?_of_block (Below.heap_setCell _ _ _ _ (fun e => by rw [e, hp] at h2; cases h2))).trans h1
theorem Rp.SLL.of_SLF {α : Type} {r : Rp α} {w : World} {b : Nat} {L : Nat → Bool} {xs : List α} {v : Value} (h : r.SLF w b w.heap.size xs v) (hL : ∀ k, L k = true → k < b) : r.SLL w L xs v := by
  refine Rp.SL.mono (show r.SL _ w.heap.size xs v from h) fun p u _ hp => ?_
  obtain ⟨h1, h2⟩ := only_cell hp
  rw [only_cell_of _ _ _ (by
    cases hl : L p.block
    · rfl
    · have := hL _ hl
      simp at h2
      omega)]
  exact h1
theorem Rp.SLL.of_old {α : Type} {r : Rp α} {w0 w : World} {L : Nat → Bool} {xs : List α} {v : Value} (h : r.SL w0 w0.heap.size xs v) (hb : Below w0.heap.size w0 w) (hL : ∀ k, L k = true → w0.heap.size ≤ k) : r.SLL w L xs v := by
  refine Rp.SL.more (Rp.SL.mono h fun p u _ hc => ?_) hb.size
  have hlt := World.block_lt_of_cell? w0 _ hc
  rw [only_cell_of _ _ _ (by
    cases hl : L p.block
    · rfl
    · have := hL _ hl
      omega)]
  exact (hb.cell hlt).trans hc
end Go.Proofs.YtemakpjickbmnaaDoor
