/- Words for rows of the call's own that are written in place. -/
import Derived.Test.YtkodcoianakjoaaDoorLib2
import Derived.Deep.RegionLaw
import Derived.Lib.SliceRun
namespace Go.Proofs.YtkodcoianakjoaaDoor
open Go.RowKit
set_option linter.unusedSimpArgs false
set_option linter.unusedVariables false

theorem heap_setCells {g : Nat} {e : TypeId} {fr : Nat × Nat} : ∀ (vs : List Value) (o : Nat) (w : World) (cur : Array Value), w.heap[g]? = some (.cells cur e fr) → o + vs.length ≤ cur.size →
    ∃ cur' : Array Value, (w.setCells g o vs).heap[g]? = some (.cells cur' e fr) ∧ cur'.toList = cur.toList.take o ++ vs ++ cur.toList.drop (o + vs.length)
  | [], o, w, cur, h, _ => ⟨cur, h, by simp⟩
  | v :: r, o, w, cur, h, hl => by
    have h1 : (w.setCell ⟨g, o, none⟩ v).heap[g]? = some (.cells (cur.setIfInBounds o v) e fr) := by
      simp [World.setCell, Array.getElem?_modify, h]
    obtain ⟨cur', h2, h3⟩ := heap_setCells r (o + 1) _ _ h1 (by simp at hl ⊢; omega)
    refine ⟨cur', h2, ?_⟩
    simp only [List.length_cons] at hl
    rw [h3, Array.toList_setIfInBounds]
    have hlen : o < cur.toList.length := by rw [Array.length_toList]; omega
    have e1 : min (o + 1) cur.size = o + 1 := by omega
    have e2 : min o cur.size = o := by omega
    apply List.ext_getElem?
    intro j
    simp only [List.getElem?_append, List.getElem?_take, List.getElem?_drop, List.length_append, List.length_take, List.length_set, List.length_cons, List.getElem?_set, List.getElem?_cons, Array.length_toList, e1, e2]
    by_cases h4 : j < o
    · simp [h4, show j < o + 1 + r.length from by omega, show j < o + (r.length + 1) from by omega, show j < o + 1 from by omega, show ¬ o = j from by omega]
    · by_cases h5 : j = o
      · subst h5
        simp [show j < cur.size from by omega, show j < j + 1 + r.length from by omega]
      · by_cases h6 : j < o + 1 + r.length
        · simp [h4, h6, show j < o + (r.length + 1) from by omega, show ¬ j < o + 1 from by omega, show ¬ j - o = 0 from by omega, show j - o - 1 = j - (o + 1) from by omega]
        · simp [h6, show ¬ j < o + (r.length + 1) from by omega, show ¬ o = o + 1 + r.length + (j - (o + 1 + r.length)) from by omega, show o + (r.length + 1) + (j - (o + (r.length + 1))) = o + 1 + r.length + (j - (o + 1 + r.length)) from by omega]

theorem grown_setCells {w : World} {g : Nat} : ∀ (vs : List Value) (o : Nat) (w' : World), w.grownBy w' (some g) → w.grownBy (w'.setCells g o vs) (some g)
  | [], _, _, h => h
  | v :: r, o, w', h => grown_setCells r (o + 1) _ ⟨h.os, h.tape, h.output, by simpa [World.setCell] using h.size, fun k hk hne => (Below.heap_setCell _ _ _ _ (by rintro rfl; exact hne rfl)).trans (h.block k hk hne)⟩

theorem grown_below {w w' : World} {g B : Nat} (h : w.grownBy w' (some g)) (hg : B ≤ g) (hB : B ≤ w.heap.size) : Below B w w' := ⟨h.os, h.tape, h.output, h.size, fun k hk => h.block k (by omega) (by intro e; injection e with e; omega)⟩

theorem flat_take {α : Type} (f : α → List Value) (n : Nat) (hf : ∀ a, (f a).length = n) : ∀ (xs : List α) (k : Nat), (xs.flatMap f).take (k * n) = (xs.take k).flatMap f
  | [], k => by simp
  | x :: xs, 0 => by simp
  | x :: xs, k + 1 => by
    rw [List.take_succ_cons, List.flatMap_cons, List.flatMap_cons, Nat.add_mul, Nat.one_mul, Nat.add_comm (k * n) n, ← flat_take f n hf xs k, List.take_append, hf, show n + k * n - n = k * n from by omega, List.take_of_length_le (by rw [hf]; omega)]

theorem flat_drop {α : Type} (f : α → List Value) (n : Nat) (hf : ∀ a, (f a).length = n) : ∀ (xs : List α) (k : Nat), (xs.flatMap f).drop (k * n) = (xs.drop k).flatMap f
  | [], k => by simp
  | x :: xs, 0 => by simp
  | x :: xs, k + 1 => by
    rw [List.drop_succ_cons, List.flatMap_cons, Nat.add_mul, Nat.one_mul, Nat.add_comm (k * n) n, ← flat_drop f n hf xs k, List.drop_append, hf, show n + k * n - n = k * n from by omega, List.drop_of_length_le (by rw [hf]; omega), List.nil_append]

theorem flat_length {α : Type} (f : α → List Value) (n : Nat) (hf : ∀ a, (f a).length = n) (xs : List α) : (xs.flatMap f).length = xs.length * n := by
  induction xs with
  | nil => simp
  | cons x xs ih => rw [List.flatMap_cons, List.length_append, hf, ih, List.length_cons, Nat.add_mul]; omega

/-- A row of the call's own behind a store of cells within its length. -/
theorem own_setCells {w : World} {base : Nat} {e : TypeId} {size g n cap : Nat} {xs vs : List Value} {o m : Nat} (h : w.ownsRow base e size (.slice (some ⟨g, 0, none⟩) n cap) n xs) (ho : o + vs.length ≤ n * size) (hm : m ≤ n) (ys : List Value) (hy : (xs.take o ++ vs ++ xs.drop (o + vs.length)).take (m * size) = ys) :
    (w.setCells g o vs).ownsRow base e size (.slice (some ⟨g, 0, none⟩) m cap) m ys := by
  obtain ⟨h1, h2⟩ := h
  rcases h2 with ⟨h2, _⟩ | ⟨g', cap', cur, h2, hb, hg, hnc, hcm, hcs, htk⟩
  · simp at h2
  · simp only [Value.slice.injEq, Option.some.injEq, Addr.mk.injEq, and_true, true_and] at h2
    obtain ⟨rfl, rfl⟩ := h2
    have hle : n * size ≤ cur.size := by rw [hcs]; exact Nat.mul_le_mul_right _ hnc
    have hmn : m * size ≤ n * size := Nat.mul_le_mul_right _ hm
    obtain ⟨cur', hc', hl'⟩ := heap_setCells vs o w cur hg (by omega)
    have hsz : cur'.size = cur.size := by
      rw [← Array.length_toList, hl']
      simp
      omega
    have hcat : cur'.toList.take (m * size) = ys := by
      rw [← hy, hl', ← htk]
      apply List.ext_getElem?
      intro j
      by_cases hj : j < m * size
      · simp only [List.getElem?_take, hj, if_true, List.getElem?_append, List.length_append, List.length_take, List.getElem?_drop, List.length_drop, Array.length_toList]
        have e1 : min o cur.size = o := by omega
        have e2 : min o (min (n * size) cur.size) = o := by omega
        simp only [e1, e2]
        by_cases h3 : j < o
        · simp [h3, show j < o + vs.length from by omega, show j < n * size from by omega]
        · by_cases h4 : j < o + vs.length
          · simp [h3, h4]
          · simp [h4, show o + vs.length + (j - (o + vs.length)) < n * size from by omega]
      · simp [List.getElem?_take, hj]
    refine ⟨?_, .inr ⟨g, cap, cur', rfl, hb, hc', by omega, hcm, by omega, hcat⟩⟩
    rw [← hcat]
    simp
    omega

/-- A row of the call's own behind a store of cells beyond its length. -/
theorem own_setCells_spare {w : World} {base : Nat} {e : TypeId} {size g n cap : Nat} {xs vs : List Value} {o : Nat} (h : w.ownsRow base e size (.slice (some ⟨g, 0, none⟩) n cap) n xs) (ho : n * size ≤ o) (hc : o + vs.length ≤ cap * size) :
    (w.setCells g o vs).ownsRow base e size (.slice (some ⟨g, 0, none⟩) n cap) n xs := by
  obtain ⟨h1, h2⟩ := h
  rcases h2 with ⟨h2, _⟩ | ⟨g', cap', cur, h2, hb, hg, hnc, hcm, hcs, htk⟩
  · simp at h2
  · simp only [Value.slice.injEq, Option.some.injEq, Addr.mk.injEq, and_true, true_and] at h2
    obtain ⟨rfl, rfl⟩ := h2
    obtain ⟨cur', hc', hl'⟩ := heap_setCells vs o w cur hg (by omega)
    have hsz : cur'.size = cur.size := by
      rw [← Array.length_toList, hl']
      simp
      omega
    refine ⟨h1, .inr ⟨g, cap, cur', rfl, hb, hc', hnc, hcm, by omega, ?_⟩⟩
    rw [hl', List.append_assoc, List.take_append_of_le_length (by simp; omega), List.take_take, Nat.min_eq_left ho, htk]

/-- What a row of the call's own holds, cell by cell, its spare cells too. -/
theorem own_there {w : World} {base : Nat} {e : TypeId} {size g n cap : Nat} {xs : List Value} (h : w.ownsRow base e size (.slice (some ⟨g, 0, none⟩) n cap) n xs) (j : Nat) (hj : j < cap * size) : (w.cell? ⟨g, j, none⟩).isSome = true ∧ w.frozen? ⟨g, j, none⟩ = false := by
  obtain ⟨h1, h2⟩ := h
  rcases h2 with ⟨h2, _⟩ | ⟨g', cap', cur, h2, hb, hg, hnc, hcm, hcs, htk⟩
  · simp at h2
  · simp only [Value.slice.injEq, Option.some.injEq, Addr.mk.injEq, and_true, true_and] at h2
    obtain ⟨rfl, rfl⟩ := h2
    have : j < cur.size := by omega
    simp [World.cell?, World.frozen?, hg, this]

/-- 'clear(s)' on the spare places of a row of the call's own. -/
theorem run_clear_own {P : Program} (w : World) (t e ty : TypeId) (z : Value) (ht : P.underlying t = some (.slice e)) (hv : ∀ w, (zeroValue e).run P w = .ok z w) {size : Nat} (hz : z.cells.size = size) (h1 : ∀ u ∈ z.cells.toList, u.oneCell' = true)
    {base g n cap : Nat} {xs : List Value} (h : w.ownsRow base e size (.slice (some ⟨g, 0, none⟩) n cap) n xs) (o m c : Nat) (hm : n + m ≤ cap) (ho : 0 < m → o = n * size) :
    ∃ w', (Builtin.clear_ #[t] ty #[.slice (some ⟨g, o, none⟩) m c]).run P w = .ok (.tuple #[]) w' ∧ w'.ownsRow base e size (.slice (some ⟨g, 0, none⟩) n cap) n xs ∧ w.grownBy w' (some g) := by
  cases m with
  | zero => exact ⟨w, by simp [Builtin.clear_, run_underlying ht], h, World.grownBy.refl w _⟩
  | succ m =>
    have ho := ho (by omega)
    subst ho
    generalize hzs : (Builtin.zeroCells z.cells (m + 1)).toList = vs
    have hvl : vs.length = (m + 1) * size := by rw [← hzs, Array.length_toList, size_zeroCells, hz]
    have hv1 : ∀ v ∈ vs, v.oneCell' = true := by
      intro v hv
      rw [← hzs] at hv
      simp only [Builtin.zeroCells, Array.toList_map, List.mem_map, Array.mem_toList_iff, Array.mem_range] at hv
      obtain ⟨i, hi, rfl⟩ := hv
      rcases Nat.eq_zero_or_pos z.cells.size with h0 | hp
      · rw [h0, Nat.mul_zero] at hi
        exact absurd hi (Nat.not_lt_zero _)
      · have hlt : i % z.cells.size < z.cells.size := Nat.mod_lt _ hp
        rw [getElem!_pos z.cells _ hlt]
        exact h1 _ (by simp)
    have hb : n * size + vs.length ≤ cap * size := by rw [hvl, ← Nat.add_mul]; exact Nat.mul_le_mul_right _ (by omega)
    have hst := run_storeCells_cells (P := P) g (n * size) vs 0 w (fun j hj => (own_there h _ (by omega)).1) (fun j hj => (own_there h _ (by omega)).2) hv1
    simp only [Nat.add_zero] at hst
    exact ⟨_, by simp [Builtin.clear_, run_underlying ht, hv, hzs, hst], own_setCells_spare h (Nat.le_refl _) hb, grown_setCells vs _ _ (World.grownBy.refl w _)⟩

theorem wp_clear_own {P : Program} {o : Oper} {a : Act} {w : World} {K : Act → World → Prop} {Q : Exit → Act → World → Prop} (x : Operand) (t : TypeId) (ho : o.op = .call { callee := .builtin .clear, args := #[x], argTypes := #[t] })
    (e : TypeId) (z : Value) (ht : P.underlying t = some (.slice e)) (hv : ∀ w, (zeroValue e).run P w = .ok z w) {size : Nat} (hz : z.cells.size = size) (h1 : ∀ u ∈ z.cells.toList, u.oneCell' = true)
    {base g n cap : Nat} {xs : List Value} (h : w.ownsRow base e size (.slice (some ⟨g, 0, none⟩) n cap) n xs) (ofs m c : Nat) (hx : a.eval x = .slice (some ⟨g, ofs, none⟩) m c) (hm : n + m ≤ cap) (hofs : 0 < m → ofs = n * size)
    (hK : ∀ w', w'.ownsRow base e size (.slice (some ⟨g, 0, none⟩) n cap) n xs → w.grownBy w' (some g) → K (a.put o.dst (.tuple #[])) w') : o.wp P a w K Q := by
  obtain ⟨w', hrun, h2, h3⟩ := run_clear_own (P := P) w t e o.type z ht hv hz h1 h ofs m c hm hofs
  unfold Oper.wp execOp
  simp only [ho, resolve, invoke, builtin, Sem.run_bind, Sem.run_pure, Result.andThen_ok, List.map_toArray, List.map_cons, List.map_nil, hx, hrun]
  exact hK w' h2 h3

theorem wpList_clear_own {P : Program} {ops : Array Oper} {rest : List Oper} {o : Oper} {a : Act} {w : World} {Q : Exit → Act → World → Prop} (hgd : o.guard = none) (x : Operand) (t : TypeId) (ho : o.op = .call { callee := .builtin .clear, args := #[x], argTypes := #[t] })
    (e : TypeId) (z : Value) (ht : P.underlying t = some (.slice e)) (hv : ∀ w, (zeroValue e).run P w = .ok z w) {size : Nat} (hz : z.cells.size = size) (h1 : ∀ u ∈ z.cells.toList, u.oneCell' = true)
    {base g n cap : Nat} {xs : List Value} (h : w.ownsRow base e size (.slice (some ⟨g, 0, none⟩) n cap) n xs) (ofs m c : Nat) (hx : a.eval x = .slice (some ⟨g, ofs, none⟩) m c) (hm : n + m ≤ cap) (hofs : 0 < m → ofs = n * size)
    (hK : ∀ w', w'.ownsRow base e size (.slice (some ⟨g, 0, none⟩) n cap) n xs → w.grownBy w' (some g) → wpList P ops Q rest (a.put o.dst (.tuple #[])) w') : wpList P ops Q (o :: rest) a w :=
  wpList_plain hgd fun _ hk => wp_clear_own x t ho e z ht hv hz h1 h ofs m c hx hm hofs fun w' h2 h3 => hk _ _ (hK w' h2 h3)

theorem grown_of_below {w w' : World} (hb : Below w.heap.size w w') (row : Option Nat) : w.grownBy w' row := ⟨hb.os, hb.tape, hb.output, hb.size, fun k hk _ => hb.block k hk⟩
theorem own_below {w w' : World} {base : Nat} {e : TypeId} {size n : Nat} {v : Value} {xs : List Value} (h : w.ownsRow base e size v n xs) (hb : Below w.heap.size w w') : w'.ownsRow base e size v n xs :=
  h.kept (grown_of_below hb none) (by by_cases e : v.ownBlock = none; exact .inl e; exact .inr e)
theorem own_some {w : World} {base : Nat} {e : TypeId} {size n : Nat} {v : Value} {xs : List Value} (h : w.ownsRow base e size v n xs) (hn : 0 < n) : ∃ g cap, v = .slice (some ⟨g, 0, none⟩) n cap ∧ base ≤ g ∧ g < w.heap.size ∧ n ≤ cap ∧ cap ≤ 9223372036854775807 := by
  have hl := h.lt
  rcases h.2 with ⟨_, h0⟩ | ⟨g, cap, _, rfl, hb, _, h1, h2, _, _⟩
  · omega
  · exact ⟨g, cap, rfl, hb, (hl g rfl).2, h1, h2⟩

theorem own_slice {w : World} {base : Nat} {e : TypeId} {size n : Nat} {v : Value} {xs : List Value} (h : w.ownsRow base e size v n xs) : ∃ A c, v = .slice A n c := by
  rcases h.2 with ⟨rfl, rfl⟩ | ⟨g, cap, _, rfl, _⟩
  · exact ⟨_, _, rfl⟩
  · exact ⟨_, _, rfl⟩
theorem grown_setCell (w : World) (p : Addr) (u : Value) : w.grownBy (w.setCell p u) (some p.block) := ⟨rfl, rfl, rfl, by simp [World.setCell], fun k _ hne => Below.heap_setCell _ _ _ _ (by rintro rfl; exact hne rfl)⟩
theorem own_setCell_other {w : World} {base : Nat} {e : TypeId} {size n : Nat} {v : Value} {xs : List Value} (h : w.ownsRow base e size v n xs) {p : Addr} (hp : v.ownBlock ≠ some p.block) (u : Value) : (w.setCell p u).ownsRow base e size v n xs :=
  h.kept (grown_setCell w p u) (.inr hp)
theorem block_grown {w w' : World} {row : Option Nat} (hg : w.grownBy w' row) {g : Nat} {cs : Array Value} {e : TypeId} (h : w.heap[g]? = some (.cells cs e (0, 0))) (hne : row ≠ some g) : w'.heap[g]? = some (.cells cs e (0, 0)) := by
  rw [hg.block g ?_ (fun e => hne e.symm), h]
  rcases Nat.lt_or_ge g w.heap.size with hlt | hge
  · exact hlt
  · rw [Array.getElem?_eq_none hge] at h
    cases h
theorem block_set {w : World} {g j : Nat} {cs : Array Value} {e : TypeId} (h : w.heap[g]? = some (.cells cs e (0, 0))) (u : Value) : (w.setCell ⟨g, j, none⟩ u).heap[g]? = some (.cells (cs.setIfInBounds j u) e (0, 0)) := by
  simp [World.setCell, Array.getElem?_modify, h]

/-- append onto a row of the call's own, as a step of a region that draws. -/
theorem step_append_own {P : Program} {w : World} {ops : Array Oper} {o : Oper} {a : Act} {K : Act → World → Prop} {Q : Exit → Act → World → Prop} {E : Prop} (hgd : o.guard = none) (s x : Operand) (t : TypeId)
    (ho : o.op = .call { callee := .builtin .append, args := #[s, x], argTypes := #[t, t] })
    (base : Nat) (e : TypeId) (i : TypeInfo) (z : Value) (size bytes : Nat) (ht : P.underlying t = some (.slice e)) (hi : P.info? e = some i) (hz : i.zero = some z)
    (hsize : i.size = size) (hby : i.bytes = bytes) (hzs : z.cells.size = size) (hsz : 0 < size)
    (v : Value) (n : Nat) (xs : List Value) (hs : a.eval s = v) (hown : w.ownsRow base e size v n xs)
    (ad : Addr) (m c : Nat) (news : List Value) (hx : a.eval x = .slice (some ad) m c) (hl : news.length = m * size) (hnews : ∀ j u, news[j]? = some u → w.cell? (ad.add j) = some u) (h1 : ∀ u ∈ news, u.oneCell' = true)
    (h63 : n + m ≤ maxLen) (hbytes : (n + m) * bytes ≤ 140737488355328) (hbase : base ≤ w.heap.size)
    (h : ∀ v' w', w'.ownsRow base e size v' (n + m) (xs ++ news) → w.grownBy w' v.ownBlock → (v' = .slice none 0 0 ↔ v = .slice none 0 0 ∧ m = 0) → K (a.put o.dst v') w') :
    if Region.wanted o (yielded ops a.tmps) = true then Oper.wp P o a w K Q else E := by
  have hw : Region.wanted o (yielded ops a.tmps) = true := by simp [Region.wanted, hgd]
  rw [if_pos hw]
  exact wp_append_own w s x t ho base e i z size bytes ht hi hz hsize hby hzs hsz v n xs hs hown ad m c news hx hl hnews h1 h63 hbytes hbase h

theorem flat_set {α : Type} (f : α → List Value) (n : Nat) (hf : ∀ a, (f a).length = n) (xs : List α) (k : Nat) (x : α) (hk : k < xs.length) : (xs.flatMap f).take (k * n) ++ f x ++ (xs.flatMap f).drop (k * n + (f x).length) = (xs.set k x).flatMap f := by
  rw [hf, show k * n + n = (k + 1) * n from by rw [Nat.add_mul]; omega, flat_take f n hf, flat_drop f n hf, List.set_eq_take_append_cons_drop, if_pos hk, List.flatMap_append, List.flatMap_cons, List.append_assoc]

theorem flat_erase {α : Type} (f : α → List Value) (n : Nat) (hf : ∀ a, (f a).length = n) (xs : List α) (k : Nat) : (xs.flatMap f).take (k * n) ++ (xs.flatMap f).drop ((k + 1) * n) = (xs.eraseIdx k).flatMap f := by
  rw [flat_take f n hf, flat_drop f n hf, List.eraseIdx_eq_take_drop_succ, List.flatMap_append]
end Go.Proofs.YtkodcoianakjoaaDoor
