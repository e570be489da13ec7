/- Words for rows of the call's own whose elements lead on to other memory: what has been built so far, and one more. -/
import Derived.Test.YtkodcoianakjoaaDoorLib3
import Derived.Deep.AppendLies
namespace Go.Proofs.YtkodcoianakjoaaDoor
open Go.RowKit
set_option linter.unusedSimpArgs false
set_option linter.unusedVariables false

/-- Of a world the blocks of a set alone; all others are empty. -/
def only (w : World) (S : Nat → Bool) : World := { w with heap := Array.ofFn (n := w.heap.size) fun i => if S i then w.heap[i] else .cells #[] 0 (0, 0) }
theorem only_size (w : World) (S : Nat → Bool) : (only w S).heap.size = w.heap.size := by simp [only]
theorem only_heap (w : World) (S : Nat → Bool) (k : Nat) (h : S k = true) : (only w S).heap[k]? = w.heap[k]? := by
  simp only [only, Array.getElem?_ofFn]
  by_cases hk : k < w.heap.size
  · rw [dif_pos hk, if_pos h, Array.getElem?_eq_getElem hk]
    rfl
  · rw [dif_neg hk, Array.getElem?_eq_none (by omega)]
theorem only_cell_of (w : World) (S : Nat → Bool) (p : Addr) (h : S p.block = true) : (only w S).cell? p = w.cell? p := World.cell?_of_block (only_heap w S p.block h)
theorem only_cell {w : World} {S : Nat → Bool} {p : Addr} {u : Value} (h : (only w S).cell? p = some u) : w.cell? p = some u ∧ S p.block = true := by
  cases hS : S p.block
  · exfalso
    unfold World.cell? at h
    simp only [only, Array.getElem?_ofFn] at h
    by_cases hk : p.block < w.heap.size
    · rw [dif_pos hk] at h
      simp [hS] at h
    · rw [dif_neg hk] at h
      cases h
  · rw [only_cell_of w S p hS] at h
    exact ⟨h, rfl⟩
theorem ownsRow_only {w : World} {base : Nat} {e : TypeId} {size : Nat} {v : Value} {n : Nat} {xs : List Value} (h : w.ownsRow base e size v n xs) : (only w fun k => decide (base ≤ k)).ownsRow base e size v n xs := by
  obtain ⟨h1, h2⟩ := h
  refine ⟨h1, ?_⟩
  rcases h2 with h2 | ⟨g, cap, cur, hv, hg, hh, r⟩
  · exact .inl h2
  · exact .inr ⟨g, cap, cur, hv, hg, by rw [only_heap _ _ _ (by simpa using hg)]; exact hh, r⟩

theorem flatten_get (n : Nat) : ∀ (css : List (List Value)), (∀ cs ∈ css, cs.length = n) → ∀ (k j : Nat) (cs : List Value), css[k]? = some cs → j < n → css.flatten[k * n + j]? = cs[j]?
  | [], _, k, j, x, h, _ => by simp at h
  | y :: ys, hf, 0, j, x, h, hj => by
    simp at h
    subst h
    rw [List.flatten_cons, Nat.zero_mul, Nat.zero_add, List.getElem?_append_left (by rw [hf y (by simp)]; exact hj)]
  | y :: ys, hf, k + 1, j, x, h, hj => by
    rw [List.getElem?_cons_succ] at h
    have hy := hf y (by simp)
    rw [List.flatten_cons, List.getElem?_append_right (by rw [hy, Nat.add_mul]; omega), hy, show (k + 1) * n + j - n = k * n + j from by rw [Nat.add_mul]; omega]
    exact flatten_get n ys (fun cs hc => hf cs (by simp [hc])) k j x h hj

/-- Cells that say a thing in a part of a world: in none of the blocks X, and not in the row v. -/
def Apart {α : Type} (r : Rp α) (X : Nat → Prop) (w : World) (v : Value) (x : α) (cs : List Value) : Prop :=
  ∃ w0 : World, r.rep w0 w.heap.size x cs ∧ ∀ (p : Addr) u, w0.cell? p = some u → w.cell? p = some u ∧ ¬ X p.block ∧ v.ownBlock ≠ some p.block

/-- A row of the call's own that reads as a list; X: blocks of the walk that may be written. -/
structure Built {α : Type} (r : Rp α) (base : Nat) (e : TypeId) (X : Nat → Prop) (w : World) (v : Value) (xs : List α) (css : List (List Value)) : Prop where
  len : css.length = xs.length
  own : w.ownsRow base e r.size v xs.length css.flatten
  each : ∀ (k : Nat) (x : α) cs, xs[k]? = some x → css[k]? = some cs → Apart r X w v x cs
  far : ∀ k, X k → k < base

theorem Built.nil {α : Type} (r : Rp α) (base : Nat) (e : TypeId) (X : Nat → Prop) (w : World) (hX : ∀ k, X k → k < base) : Built r base e X w (.slice none 0 0) [] [] :=
  ⟨rfl, World.ownsRow_nil _ _ _ _, fun k x cs h => by simp at h, hX⟩

theorem Apart.keep {α : Type} {r : Rp α} {X : Nat → Prop} {w w' : World} {v : Value} {x : α} {cs : List Value} (h : Apart r X w v x cs) (hs : w.heap.size ≤ w'.heap.size) (hk : ∀ k, k < w.heap.size → ¬ X k → v.ownBlock ≠ some k → w'.heap[k]? = w.heap[k]?) :
    Apart r X w' v x cs := by
  obtain ⟨w0, h1, h2⟩ := h
  refine ⟨w0, r.more _ _ _ _ _ h1 hs, fun p u hp => ?_⟩
  obtain ⟨h3, h4, h5⟩ := h2 p u hp
  have hl : p.block < w.heap.size := World.block_lt_of_cell? w _ h3
  exact ⟨(World.cell?_of_block (hk _ hl h4 h5)).trans h3, h4, h5⟩

theorem Built.keep {α : Type} {r : Rp α} {base : Nat} {e : TypeId} {X : Nat → Prop} {w w' : World} {v : Value} {xs : List α} {css : List (List Value)} (h : Built r base e X w v xs css) (hs : w.heap.size ≤ w'.heap.size) (hk : ∀ k, k < w.heap.size → ¬ X k → w'.heap[k]? = w.heap[k]?) :
    Built r base e X w' v xs css := by
  refine ⟨h.len, ?_, fun k x cs h1 h2 => (h.each k x cs h1 h2).keep hs fun k hl hx _ => hk k hl hx, h.far⟩
  obtain ⟨h1, h2⟩ := h.own
  refine ⟨h1, ?_⟩
  rcases h2 with h2 | ⟨g, cap, cur, hv, hg, hh, rest⟩
  · exact .inl h2
  · refine .inr ⟨g, cap, cur, hv, hg, ?_, rest⟩
    rw [hk g (Array.getElem?_eq_some_iff.1 hh).1 (fun hx => by have := h.far g hx; omega)]
    exact hh

theorem Built.below {α : Type} {r : Rp α} {base B : Nat} {e : TypeId} {X : Nat → Prop} {w w' : World} {v : Value} {xs : List α} {css : List (List Value)} (h : Built r base e X w v xs css) (hb : Below B w w') (hB : w.heap.size ≤ B) : Built r base e X w' v xs css :=
  h.keep hb.size fun k hk _ => hb.block k (by omega)
theorem Built.alloc {α : Type} {r : Rp α} {base : Nat} {e : TypeId} {X : Nat → Prop} {w : World} {v : Value} {xs : List α} {css : List (List Value)} (h : Built r base e X w v xs css) (o : Obj) : Built r base e X (w.alloc o) v xs css :=
  h.below ((Below.refl _ _).alloc (Nat.le_refl _) o) (Nat.le_refl _)
theorem Built.drew {α : Type} {r : Rp α} {base : Nat} {e : TypeId} {X : Nat → Prop} {w : World} {v : Value} {xs : List α} {css : List (List Value)} (h : Built r base e X w v xs css) : Built r base e X w.drew v xs css :=
  h.below ((Below.refl w.heap.size _).drew) (Nat.le_refl _)
theorem Built.drewN {α : Type} {r : Rp α} {base : Nat} {e : TypeId} {X : Nat → Prop} {w : World} {v : Value} {xs : List α} {css : List (List Value)} (h : Built r base e X w v xs css) (n : Nat) : Built r base e X (w.drewN n) v xs css :=
  h.below (below_drewN (Below.refl w.heap.size _) n) (Nat.le_refl _)
theorem Built.setCell {α : Type} {r : Rp α} {base : Nat} {e : TypeId} {X : Nat → Prop} {w : World} {v : Value} {xs : List α} {css : List (List Value)} (h : Built r base e X w v xs css) (p : Addr) (hp : X p.block) (u : Value) : Built r base e X (w.setCell p u) v xs css :=
  h.keep (by simp [World.setCell]) fun k _ hk => Below.heap_setCell _ _ _ _ (fun he => hk (he ▸ hp))

theorem Built.push {α : Type} {r : Rp α} {base : Nat} {e : TypeId} {X : Nat → Prop} {w w1 : World} {v : Value} {xs : List α} {css : List (List Value)} (h : Built r base e X w v xs css) {x : α} {cs : List Value} {g cap n : Nat}
    (hown : w1.ownsRow base e r.size (.slice (some ⟨g, 0, none⟩) n cap) n (css.flatten ++ cs)) (hn : n = xs.length + 1) (hg : w.grownBy w1 v.ownBlock) (hat : v.ownBlock = some g ∨ g = w.heap.size) (hx : Apart r X w v x cs) :
    Built r base e X w1 (.slice (some ⟨g, 0, none⟩) n cap) (xs ++ [x]) (css ++ [cs]) := by
  subst hn
  have hap : ∀ (y : α) (ds : List Value), Apart r X w v y ds → Apart r X w1 (.slice (some ⟨g, 0, none⟩) (xs.length + 1) cap) y ds := by
    rintro y ds ⟨w0, h1, h2⟩
    refine ⟨w0, r.more _ _ _ _ _ h1 hg.size, fun p u hp => ?_⟩
    obtain ⟨h3, h4, h5⟩ := h2 p u hp
    have hl : p.block < w.heap.size := World.block_lt_of_cell? w _ h3
    refine ⟨(World.cell?_of_block (hg.block _ hl (fun e => h5 e.symm))).trans h3, h4, ?_⟩
    rcases hat with e | e
    · rw [e] at h5
      simpa [Value.ownBlock] using h5
    · simp [Value.ownBlock]
      omega
  refine ⟨by simp [h.len], by simpa using hown, fun k y ds h1 h2 => ?_, h.far⟩
  rcases Nat.lt_or_ge k xs.length with hlt | hge
  · rw [List.getElem?_append_left hlt] at h1
    rw [List.getElem?_append_left (by rw [h.len]; exact hlt)] at h2
    exact hap _ _ (h.each k y ds h1 h2)
  · rw [List.getElem?_append_right hge] at h1
    rw [List.getElem?_append_right (by rw [h.len]; exact hge), h.len] at h2
    rcases Nat.eq_zero_or_pos (k - xs.length) with h0 | h0
    · rw [h0] at h1 h2
      simp at h1 h2
      subst h1 h2
      exact hap _ _ hx
    · rw [List.getElem?_eq_none (by simp; omega)] at h1
      cases h1

theorem Built.SL {α : Type} {r : Rp α} {base B : Nat} {e : TypeId} {X : Nat → Prop} {w : World} {v : Value} {xs : List α} {css : List (List Value)} (h : Built r base e X w v xs css) (hB : w.heap.size ≤ B) : r.SL w B xs v := by
  have hr : ∀ k x cs, xs[k]? = some x → css[k]? = some cs → r.rep w B x cs := fun k x cs h1 h2 => by
    obtain ⟨w0, h3, h4⟩ := h.each k x cs h1 h2
    exact r.more _ _ _ _ _ (r.mono _ _ _ _ _ h3 fun p u _ hp => (h4 p u hp).1) hB
  have hlen : ∀ cs ∈ css, cs.length = r.size := fun cs hc => by
    obtain ⟨k, hk, e⟩ := List.mem_iff_getElem.1 hc
    have hk' : k < xs.length := by rw [← h.len]; exact hk
    have e' : css[k]? = some cs := by rw [List.getElem?_eq_getElem hk, e]
    exact r.len _ _ _ _ (hr k _ cs (List.getElem?_eq_getElem hk') e')
  obtain ⟨h1, h2⟩ := h.own
  rcases h2 with ⟨rfl, hn⟩ | ⟨g, cap, cur, rfl, _, hh, hnc, hcm, hcs, htk⟩
  · have : xs = [] := List.eq_nil_of_length_eq_zero hn
    subst this
    exact Rp.SL.nil _ _ _
  · refine ⟨_, cap, rfl, by omega, hnc, fun hp => ⟨g, 0, rfl, ?_, fun k x hk => ?_⟩⟩
    · have := (Array.getElem?_eq_some_iff.1 hh).1
      omega
    · have hkl : k < css.length := by rw [h.len]; exact (List.getElem?_eq_some_iff.1 hk).1
      have hk2 : css[k]? = some css[k] := List.getElem?_eq_getElem hkl
      refine ⟨css[k], hr k x _ hk hk2, fun j u hj => ?_⟩
      have hjn : j < r.size := by rw [← hlen css[k] (List.getElem_mem hkl)]; exact (List.getElem?_eq_some_iff.1 hj).1
      have hg := flatten_get r.size css hlen k j _ hk2 hjn
      rw [← htk, hj, List.getElem?_take] at hg
      split at hg
      · rw [Array.getElem?_toList] at hg
        rw [Nat.zero_add]
        simpa [World.cell?, hh] using hg
      · cases hg

/-- Cells that lead nowhere, or into blocks from base on alone, are apart from a row below base. -/
theorem Apart.of_only {α : Type} {r : Rp α} {X : Nat → Prop} {w : World} {v : Value} {x : α} {cs : List Value} {base : Nat} (h : r.rep (only w fun k => decide (base ≤ k)) w.heap.size x cs) (hX : ∀ k, X k → k < base) (hv : ∀ g, v.ownBlock = some g → g < base) : Apart r X w v x cs := by
  refine ⟨_, h, fun p u hp => ?_⟩
  obtain ⟨h1, h2⟩ := only_cell hp
  simp at h2
  refine ⟨h1, fun hx => by have := hX _ hx; omega, fun e => by have := hv _ e; omega⟩
/-- Cells that read in an elder world. -/
theorem Apart.of_old {α : Type} {r : Rp α} {X : Nat → Prop} {w w0 : World} {v : Value} {x : α} {cs : List Value} {B : Nat} (h : r.rep w0 B x cs) (hB : B ≤ w.heap.size) (hb : Below w0.heap.size w0 w) (hX : ∀ k, X k → w0.heap.size ≤ k) (hv : ∀ g, v.ownBlock = some g → w0.heap.size ≤ g) : Apart r X w v x cs := by
  refine ⟨w0, r.more _ _ _ _ _ h hB, fun p u hp => ?_⟩
  have hl : p.block < w0.heap.size := World.block_lt_of_cell? w0 _ hp
  refine ⟨(hb.cell hl).trans hp, fun hx => by have := hX _ hx; omega, fun e => by have := hv _ e; omega⟩

/-- The cells of a slice of plain things, as a row that is appended from. -/
theorem Rp.SL.news {α : Type} {r : Rp α} {f : α → List Value} (hr : ∀ w B a cs, r.rep w B a cs → cs = f a) (hf : ∀ a, (f a).length = r.size) (hpos : 0 < r.size) {w : World} {B : Nat} {xs : List α} {a : Addr} {n c : Nat} (h : r.SL w B xs (.slice (some a) n c)) :
    ∀ j u, (xs.flatMap f)[j]? = some u → w.cell? (a.add j) = some u := by
  intro j u hj
  have hlt : j < xs.length * r.size := by
    have := (List.getElem?_eq_some_iff.1 hj).1
    rwa [flat_length f r.size hf] at this
  have hk : j / r.size < xs.length := by rw [Nat.div_lt_iff_lt_mul hpos]; exact hlt
  obtain ⟨b', off', cs, hA, _, hrep, hcs⟩ := h.at_ (List.getElem?_eq_getElem hk)
  injection hA with hA
  subst hA
  have := hr _ _ _ _ hrep
  subst this
  have hm : j % r.size < r.size := Nat.mod_lt _ hpos
  have hg := Rp.flat_get f r.size hf xs (j / r.size) (j % r.size) _ (List.getElem?_eq_getElem hk) hm
  have he : j / r.size * r.size + j % r.size = j := by rw [Nat.mul_comm]; exact Nat.div_add_mod j r.size
  rw [he, hj] at hg
  have := hcs (j % r.size) u hg.symm
  rw [Nat.add_assoc, he] at this
  rw [← this]
  unfold Addr.add
  by_cases h0 : j = 0 <;> simp [h0]

theorem addr_block (a : Addr) (j : Nat) : (a.add j).block = a.block := by unfold Addr.add; split <;> rfl

/-- A slice of things that lead on: its cells, element by element. -/
theorem Rp.SL.rows {α : Type} {r : Rp α} (hpos : 0 < r.size) {w : World} {B : Nat} {xs : List α} {a : Addr} {n c : Nat} (h : r.SL w B xs (.slice (some a) n c)) :
    ∃ css : List (List Value), css.length = xs.length ∧ css.flatten.length = xs.length * r.size ∧ (∀ (k : Nat) x cs, xs[k]? = some x → css[k]? = some cs → r.rep w B x cs) ∧ ∀ (j : Nat) u, css.flatten[j]? = some u → w.cell? (a.add j) = some u := by
  obtain ⟨css, hl, hp⟩ := pick_list (α := List Value) xs.length (fun k cs => ∀ x, xs[k]? = some x → r.rep w B x cs ∧ ∀ j u, cs[j]? = some u → w.cell? (a.add (k * r.size + j)) = some u) (fun k hk => by
    obtain ⟨b, off, cs, hA, _, hrep, hcs⟩ := h.at_ (List.getElem?_eq_getElem hk)
    injection hA with hA
    subst hA
    refine ⟨cs, fun x hx => ?_⟩
    rw [List.getElem?_eq_getElem hk] at hx
    injection hx with hx
    subst hx
    refine ⟨hrep, fun j u hj => ?_⟩
    rw [← hcs j u hj]
    congr 1
    unfold Addr.add
    by_cases h1 : k * r.size + j = 0
    · rw [if_pos h1]
      simp <;> omega
    · rw [if_neg h1]
      simp <;> omega)
  have hlen : ∀ cs ∈ css, cs.length = r.size := fun cs hc => by
    obtain ⟨k, hk, e⟩ := List.mem_iff_getElem.1 hc
    have hk' : k < xs.length := by omega
    exact r.len _ _ _ _ (hp k cs (by rw [List.getElem?_eq_getElem hk, e]) _ (List.getElem?_eq_getElem hk')).1
  have hfl : css.flatten.length = css.length * r.size := by
    clear hp hl
    induction css with
    | nil => simp
    | cons c cs ih => rw [List.flatten_cons, List.length_append, hlen c (by simp), ih (fun x hx => hlen x (by simp [hx])), List.length_cons, Nat.add_mul]; omega
  refine ⟨css, hl, by rw [hfl, hl], fun k x cs hx hc => (hp k cs hc x hx).1, fun j u hj => ?_⟩
  have hjl : j < css.length * r.size := by rw [← hfl]; exact (List.getElem?_eq_some_iff.1 hj).1
  have hk : j / r.size < css.length := by rw [Nat.div_lt_iff_lt_mul hpos]; exact hjl
  have hm : j % r.size < r.size := Nat.mod_lt _ hpos
  have he : j / r.size * r.size + j % r.size = j := by rw [Nat.mul_comm]; exact Nat.div_add_mod j r.size
  have hg := flatten_get r.size css hlen (j / r.size) (j % r.size) _ (List.getElem?_eq_getElem hk) hm
  rw [he, hj] at hg
  have hk' : j / r.size < xs.length := by omega
  have := (hp _ _ (List.getElem?_eq_getElem hk) _ (List.getElem?_eq_getElem hk')).2 _ _ hg.symm
  rwa [he] at this

/-- A slice that reads as a list by blocks from b on alone. -/
def Rp.SLF {α : Type} (r : Rp α) (w : World) (b B : Nat) (xs : List α) (v : Value) : Prop := r.SL (only w fun k => decide (b ≤ k)) B xs v
theorem Rp.SLF.SL {α : Type} {r : Rp α} {w : World} {b B : Nat} {xs : List α} {v : Value} (h : r.SLF w b B xs v) : r.SL w B xs v := h.mono fun p u _ hp => (only_cell hp).1
theorem Rp.SLF.more {α : Type} {r : Rp α} {w : World} {b b' B B' : Nat} {xs : List α} {v : Value} (h : r.SLF w b B xs v) (hb : b' ≤ b) (hB : B ≤ B') : r.SLF w b' B' xs v := by
  refine Rp.SL.more (Rp.SL.mono (show r.SL _ B xs v from h) fun p u _ hp => ?_) hB
  obtain ⟨h1, h2⟩ := only_cell hp
  rw [only_cell_of _ _ _ (by simp at h2 ⊢; omega)]
  exact h1
theorem Rp.SLF.keep {α : Type} {r : Rp α} {w w' : World} {b B : Nat} {xs : List α} {v : Value} (h : r.SLF w b B xs v) (hk : ∀ k, b ≤ k → k < w.heap.size → w'.heap[k]? = w.heap[k]?) : r.SLF w' b B xs v := by
  refine Rp.SL.mono (show r.SL _ B xs v from h) fun p u _ hp => ?_
  obtain ⟨h1, h2⟩ := only_cell hp
  rw [only_cell_of _ _ _ h2]
  exact (World.cell?_of_block (hk _ (by simpa using h2) (World.block_lt_of_cell? w _ h1))).trans h1
theorem Rp.SLF.below {α : Type} {r : Rp α} {w w' : World} {b B B' : Nat} {xs : List α} {v : Value} (h : r.SLF w b B xs v) (hb : Below B' w w') (hB : w.heap.size ≤ B') : r.SLF w' b B xs v := h.keep fun k _ hk => hb.block k (by omega)
theorem Rp.SLF.setCell {α : Type} {r : Rp α} {w : World} {b B : Nat} {xs : List α} {v : Value} (h : r.SLF w b B xs v) (p : Addr) (hp : p.block < b) (u : Value) : r.SLF (w.setCell p u) b B xs v := h.keep fun k hk _ => Below.heap_setCell _ _ _ _ (by omega)
theorem Rp.SLF.nil {α : Type} (r : Rp α) (w : World) (b B : Nat) : r.SLF w b B [] (.slice none 0 0) := Rp.SL.nil _ _ _
theorem Rp.SLF.cases_ {α : Type} {r : Rp α} {w : World} {b B : Nat} {xs : List α} {v : Value} (h : r.SLF w b B xs v) : ∃ A c, v = .slice A xs.length c ∧ xs.length ≤ 9223372036854775807 ∧ xs.length ≤ c ∧ r.SLF w b B xs (.slice A xs.length c) := Rp.SL.cases_ h
theorem Built.SLF {α : Type} {r : Rp α} {base b B : Nat} {e : TypeId} {X : Nat → Prop} {w : World} {v : Value} {xs : List α} {css : List (List Value)} (h : Built r base e X w v xs css) (hX : ∀ k, k < b → X k) (hb : b ≤ base) (hB : w.heap.size ≤ B) : r.SLF w b B xs v := by
  have h' : Built r base e X (only w fun k => decide (b ≤ k)) v xs css := by
    refine ⟨h.len, ?_, fun k x cs h1 h2 => ?_, h.far⟩
    · obtain ⟨h1, h2⟩ := h.own
      refine ⟨h1, ?_⟩
      rcases h2 with h2 | ⟨g, cap, cur, hv, hg, hh, rest⟩
      · exact .inl h2
      · exact .inr ⟨g, cap, cur, hv, hg, by rw [only_heap _ _ _ (by simp; omega)]; exact hh, rest⟩
    · obtain ⟨w0, h3, h4⟩ := h.each k x cs h1 h2
      refine ⟨w0, by rw [only_size]; exact h3, fun p u hp => ?_⟩
      obtain ⟨h5, h6, h7⟩ := h4 p u hp
      refine ⟨?_, h6, h7⟩
      rw [only_cell_of _ _ _ (by
        rcases Nat.lt_or_ge p.block b with hlt | hge
        · exact absurd (hX _ hlt) h6
        · simpa using hge)]
      exact h5
  exact h'.SL (by rw [only_size]; exact hB)
end Go.Proofs.YtkodcoianakjoaaDoor
