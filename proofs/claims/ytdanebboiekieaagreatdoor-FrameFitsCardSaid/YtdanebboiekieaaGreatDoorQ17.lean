/- A row of the call's own whose elements are sets, each with a block of its own. -/
import Derived.Test.YtdanebboiekieaaGreatDoorQ16
import Derived.Test.YtdanebboiekieaaGreatDoorQ01
import Derived.Test.YtdanebboiekieaaGreatDoorRows
import Derived.IntWalk
import Derived.Test.YtdanebboiekieaaGreatDoorQ05
import Derived.Maps.AppendAt
namespace Go.Proofs.YtdanebboiekieaaGreatDoor
open Go.RowKit
set_option linter.unusedSimpArgs false
set_option linter.unusedVariables false

def setV (n : Nat) (p : Nat × Nat) : Value := .slice (some ⟨p.1, 0, none⟩) n p.2
structure SetRow (base n : Nat) (w : World) (v : Value) (V : List (List Bool)) (gs : List (Nat × Nat)) : Prop where
 len : gs.length = V.length
 own : w.ownsRow base 160 1 v V.length (gs.map (setV n))
 sets : ∀ k (h : k < gs.length), SetAt gs[k].1 (rowV V k) w ∧ base ≤ gs[k].1 ∧ n ≤ gs[k].2
 rows : ∀ k, k < V.length → (rowV V k).length = n
theorem SetRow.keep {base n : Nat} {w w' : World} {v : Value} {V : List (List Bool)} {gs : List (Nat × Nat)} (h : SetRow base n w v V gs) (hk : ∀ k o, base ≤ k → w.heap[k]? = some o → (v.ownBlock = some k ∨ ∃ A, o = .cells A 4 (0, 0)) → w'.heap[k]? = some o) : SetRow base n w' v V gs := by
 refine ⟨h.len, ?_, fun k hl => ?_, h.rows⟩
 ·obtain ⟨h1, h2⟩ := h.own
  refine ⟨h1, ?_⟩
  rcases h2 with h2 | ⟨g, cap, cur, hv, hb, hh, r⟩
  ·exact .inl h2
  ·exact .inr ⟨g, cap, cur, hv, hb, hk g _ hb hh (.inl (by rw [hv]; rfl)), r⟩
 ·obtain ⟨⟨A, h1, h2⟩, h3, h4⟩ := h.sets k hl
  exact ⟨⟨A, hk _ _ h3 h1 (.inr ⟨A, rfl⟩), h2⟩, h3, h4⟩
theorem SetRow.below {base n : Nat} {w w' : World} {v : Value} {V : List (List Bool)} {gs : List (Nat × Nat)} (h : SetRow base n w v V gs) (hb : Below w.heap.size w w') : SetRow base n w' v V gs :=
 h.keep fun k o _ ho _ => (hb.block k (blk_lt ho)).trans ho
theorem SetRow.alloc {base n : Nat} {w : World} {v : Value} {V : List (List Bool)} {gs : List (Nat × Nat)} (h : SetRow base n w v V gs) (o : Obj) : SetRow base n (w.alloc o) v V gs := h.below ((Below.refl _ _).alloc (Nat.le_refl _) o)
/-- A row's own block is no set. -/
theorem SetRow.ownType {base n : Nat} {w : World} {v : Value} {V : List (List Bool)} {gs : List (Nat × Nat)} (h : SetRow base n w v V gs) {g : Nat} (hg : v.ownBlock = some g) : ∃ A, w.heap[g]? = some (.cells A 160 (0, 0)) ∧ base ≤ g ∧ g < w.heap.size := by
 rcases h.own.2 with ⟨hv, _⟩ | ⟨g', cap, cur, hv, hb, hh, _⟩
 ·rw [hv] at hg; cases hg
 ·rw [hv] at hg
  obtain rfl : g' = g := Option.some.inj hg
  exact ⟨cur, hh, hb, blk_lt hh⟩
/-- Behind a change of another row's own block. -/
theorem SetRow.grown {base n : Nat} {w w' : World} {v : Value} {V : List (List Bool)} {gs : List (Nat × Nat)} (h : SetRow base n w v V gs) {row : Option Nat} (hg : w.grownBy w' row) (hne : ∀ g, row = some g → v.ownBlock ≠ some g ∧ ∀ A, w.heap[g]? ≠ some (.cells A 4 (0, 0))) : SetRow base n w' v V gs :=
 h.keep fun k o _ ho hc => (hg.block k (blk_lt ho) (fun e => by
  obtain ⟨h1, h2⟩ := hne k e.symm
  rcases hc with hc | ⟨A, rfl⟩
  ·exact h1 hc
  ·exact h2 A ho)).trans ho
theorem rowV_snoc {V : List (List Bool)} {S : List Bool} {k : Nat} : rowV (V ++ [S]) k = if k = V.length then S else rowV V k := by
 unfold rowV
 rw [List.getD_eq_getElem?_getD, List.getD_eq_getElem?_getD]
 by_cases e : k = V.length
 ·subst e
  simp
 ·rw [if_neg e]
  rcases Nat.lt_or_ge k V.length with hk | hk
  ·rw [List.getElem?_append_left hk]
  ·rw [List.getElem?_eq_none (by simp; omega), List.getElem?_eq_none hk]
theorem SetRow.nil (base n : Nat) (w : World) : SetRow base n w (.slice none 0 0) [] [] := ⟨rfl, World.ownsRow_nil _ _ _ _, fun k h => by simp at h, fun k h => by simp at h⟩
theorem SetRow.push {base n : Nat} {w w' : World} {v v' : Value} {V : List (List Bool)} {gs : List (Nat × Nat)} (h : SetRow base n w v V gs) {S : List Bool} {g cp : Nat} (hS : SetAt g S w) (hl : S.length = n) (hgb : base ≤ g) (hcp : n ≤ cp)
 (hown : w'.ownsRow base 160 1 v' (V.length + 1) (gs.map (setV n) ++ [.slice (some ⟨g, 0, none⟩) n cp])) (hg : w.grownBy w' v.ownBlock) : SetRow base n w' v' (V ++ [S]) (gs ++ [(g, cp)]) := by
 have hset : ∀ {k : Nat} {T : List Bool}, SetAt k T w → SetAt k T w' := fun {k T} ⟨A, h1, h2⟩ => ⟨A, (hg.block k (blk_lt h1) (fun e => by
  obtain ⟨B, hB, _⟩ := h.ownType e.symm
  rw [h1] at hB
  injection hB with hB
  injection hB with _ hB _
  exact absurd hB (by decide))).trans h1, h2⟩
 refine ⟨by rw [List.length_append, List.length_append, h.len]; rfl, by rw [List.length_append, List.map_append]; exact hown, fun k hk => ?_, fun k hk => ?_⟩
 ·rw [List.length_append, List.length_singleton] at hk
  rw [rowV_snoc]
  by_cases e : k = V.length
  ·subst e
   rw [if_pos rfl, List.getElem_append_right (by rw [h.len]; exact Nat.le_refl _)]
   simp only [h.len, Nat.sub_self, List.getElem_cons_zero]
   exact ⟨hset hS, hgb, hcp⟩
  ·rw [if_neg e, List.getElem_append_left (by rw [h.len] at hk ⊢; omega)]
   obtain ⟨h1, h2, h3⟩ := h.sets k (by rw [h.len] at hk ⊢; omega)
   exact ⟨hset h1, h2, h3⟩
 ·rw [rowV_snoc]
  split
  ·exact hl
  ·rw [List.length_append, List.length_singleton] at hk
   exact h.rows k (by omega)
/-- An element replaced. -/
theorem SetRow.setE {base n gi ci : Nat} {w : World} {V : List (List Bool)} {gs : List (Nat × Nat)} (h : SetRow base n w (.slice (some ⟨gi, 0, none⟩) V.length ci) V gs) {k : Nat} (hk : k < V.length) {S : List Bool} {g cp : Nat} (hS : SetAt g S w) (hl : S.length = n) (hgb : base ≤ g) (hcp : n ≤ cp) :
 SetRow base n (w.setCell ⟨gi, k, none⟩ (.slice (some ⟨g, 0, none⟩) n cp)) (.slice (some ⟨gi, 0, none⟩) V.length ci) (V.set k S) (gs.set k (g, cp)) := by
 obtain ⟨B, hB, _⟩ := h.ownType (g := gi) rfl
 have hset : ∀ {j : Nat} {T : List Bool}, SetAt j T w → SetAt j T (w.setCell ⟨gi, k, none⟩ (.slice (some ⟨g, 0, none⟩) n cp)) := fun {j T} ⟨A, h1, h2⟩ => ⟨A, (Below.heap_setCell _ _ _ _ (fun e => by
  have e : j = gi := e
  subst e
  rw [h1] at hB
  injection hB with hB
  injection hB with _ hB _
  exact absurd hB (by decide))).trans h1, h2⟩
 refine ⟨by rw [List.length_set, List.length_set, h.len], ?_, fun j hj => ?_, fun j hj => ?_⟩
 ·have := own_setCells (vs := [.slice (some ⟨g, 0, none⟩) n cp]) (o := k) (m := V.length) h.own (by simp; omega) (Nat.le_refl _) ((gs.set k (g, cp)).map (setV n)) (by
   rw [List.length_singleton, List.map_set]
   have e : (gs.map (setV n)).length = V.length := by rw [List.length_map, h.len]
   rw [List.set_eq_take_append_cons_drop, if_pos (by rw [e]; exact hk), List.append_assoc, List.singleton_append, List.take_of_length_le (by simp [e]; omega)]
   rfl)
  rw [List.length_set]
  exact this
 ·rw [List.length_set] at hj
  rw [rowV_set hk, List.getElem_set]
  by_cases e : j = k
  ·subst e
   rw [if_pos rfl, if_pos rfl]
   exact ⟨hset hS, hgb, hcp⟩
  ·rw [if_neg e, if_neg (fun x => e x.symm)]
   obtain ⟨h1, h2, h3⟩ := h.sets j hj
   exact ⟨hset h1, h2, h3⟩
 ·rw [List.length_set] at hj
  rw [rowV_set hk]
  split
  ·exact hl
  ·exact h.rows j hj
/-- Read as rows of bools. -/
theorem SetRow.SL {base n : Nat} {w : World} {v : Value} {V : List (List Bool)} {gs : List (Nat × Nat)} (h : SetRow base n w v V gs) (hm : n ≤ maxLen) : rpBool.slice.SL w w.heap.size V v := by
 obtain ⟨h1, h2⟩ := h.own
 rcases h2 with ⟨hv, hn⟩ | ⟨g, cap, cur, hv, hb, hh, hnc, hcm, hcs, htk⟩
 ·have : V = [] := List.eq_nil_of_length_eq_zero hn
  subst this
  rw [hv]
  exact Rp.SL.nil _ _ _
 ·refine ⟨some ⟨g, 0, none⟩, cap, hv, by unfold maxLen at hcm ⊢; omega, hnc, fun _ => ⟨g, 0, rfl, blk_lt hh, fun k x hk => ?_⟩⟩
  have hkV := (List.getElem?_eq_some_iff.1 hk).1
  have hkg : k < gs.length := by rw [h.len]; exact hkV
  obtain ⟨s1, s2, s3⟩ := h.sets k hkg
  have ex : rowV V k = x := by
   unfold rowV
   rw [List.getD_eq_getElem?_getD, hk]
   rfl
  have hlx := h.rows k hkV
  rw [ex] at s1 hlx
  subst hlx
  refine ⟨[setV x.length gs[k]], ⟨_, rfl, s1.SL hm s3⟩, fun j u hj => ?_⟩
  match j, hj with
  | 0, hj =>
    injection hj with hj
    subst hj
    have e : (gs.map (setV x.length))[k]? = some (setV x.length gs[k]) := by rw [List.getElem?_map, List.getElem?_eq_getElem hkg]; rfl
    rw [← htk, List.getElem?_take] at e
    split at e
    ·show w.cell? ⟨g, 0 + k * 1 + 0, none⟩ = _
     rw [show 0 + k * 1 + 0 = k from by omega, blk_cells hh]
     simpa using e
    ·cases e
  | j + 1, hj => simp at hj
theorem SetRow.SLF {base n b : Nat} {w : World} {v : Value} {V : List (List Bool)} {gs : List (Nat × Nat)} (h : SetRow base n w v V gs) (hm : n ≤ maxLen) (hb : b ≤ base) : rpBool.slice.SLF w b w.heap.size V v := by
 have h1 : SetRow base n (only w fun k => decide (b ≤ k)) v V gs := h.keep fun k o hk ho _ => by rw [only_heap _ _ _ (by simp; omega)]; exact ho
 have := h1.SL hm
 rw [only_size] at this
 exact this
/-- The element at a place. -/
theorem SetRow.cell {base n : Nat} {w : World} {A : Option Addr} {m c : Nat} {V : List (List Bool)} {gs : List (Nat × Nat)} (h : SetRow base n w (.slice A m c) V gs) {k : Nat} (hk : k < gs.length) : ∃ g, A = some ⟨g, 0, none⟩ ∧ w.cell? ⟨g, k, none⟩ = some (setV n gs[k]) := by
 obtain ⟨h1, h2⟩ := h.own
 rcases h2 with ⟨hv, hn⟩ | ⟨g, cap, cur, hv, hb, hh, hnc, hcm, hcs, htk⟩
 ·rw [h.len] at hk; omega
 ·injection hv with hA _ _
  refine ⟨g, hA, ?_⟩
  have e : (gs.map (setV n))[k]? = some (setV n gs[k]) := by rw [List.getElem?_map, List.getElem?_eq_getElem hk]; rfl
  rw [← htk, List.getElem?_take] at e
  split at e
  ·rw [blk_cells hh]
   simpa using e
  ·cases e
theorem info_Set : (Tryz.prog.info? 160).map (fun i => (i.zero, i.size, i.bytes)) = some (some (.slice none 0 0), 1, 24) := by kernel_rfl
theorem SetAt.grownRow {g : Nat} {S : List Bool} {w w' : World} (h : SetAt g S w) {row : Option Nat} (hg : w.grownBy w' row) (hr : ∀ k, row = some k → ∃ A, w.heap[k]? = some (.cells A 160 (0, 0))) : SetAt g S w' := h.block fun o ho hc => (hg.block g (blk_lt ho) (fun e => by
 obtain ⟨A, h1⟩ := hr g e.symm
 obtain ⟨B, h2, _⟩ := h
 rw [h2] at h1
 injection h1 with h1
 injection h1 with _ h1 _
 exact absurd h1 (by decide))).trans ho
theorem app_set {ops : Array Oper} {rest : List Oper} {o : Oper} {a : Act} {w : World} {Q : Exit → Act → World → Prop} (hgd : o.guard = none) (s x : Operand) (ho : o.op = .call { callee := .builtin .append, args := #[s, x], argTypes := #[134, 134] })
 {base m : Nat} {v : Value} {xs : List Value} (hs : a.eval s = v) (hown : w.ownsRow base 160 1 v m xs) (g' : Nat) (A : Option Addr) (n c : Nat) (hx : a.eval x = .slice (some ⟨g', 0, none⟩) 1 1) (hg : w.heap[g']? = some (.cells #[.slice A n c] 160 (0, 0))) (hfew : m ≤ 1000) (hbase : base ≤ w.heap.size)
 (h : ∀ v' w', w'.ownsRow base 160 1 v' (m + 1) (xs ++ [.slice A n c]) → w.grownBy w' v.ownBlock → (v'.ownBlock = v.ownBlock ∨ v'.ownBlock = some w.heap.size) → wpList Tryz.prog ops Q rest (a.put o.dst v') w') : wpList Tryz.prog ops Q (o :: rest) a w := by
 obtain ⟨i0, hi0, hz0, hz1, hz2⟩ := info_parts info_Set
 refine wpList_append_own_at w hgd s x 134 ho base 160 i0 _ 1 24 Tryz.underlying134 hi0 hz0 hz1 hz2 rfl (by decide) v m xs hs hown ⟨g', 0, none⟩ 1 1 [.slice A n c] hx rfl (fun j u hj => ?_) (fun u hu => by simp at hu; subst hu; rfl) (by unfold maxLen; omega) (by omega) hbase (fun v' w' h1 h2 _ h3 => h v' w' h1 h2 h3)
 match j, hj with
 | 0, hj =>
   have e : u = .slice A n c := by
    have : (some (Value.slice A n c)) = some u := hj
    exact (Option.some.inj this).symm
   rw [e, Addr.add_lit]
   simp [World.cell?, hg]
 | j + 1, hj => simp at hj
end Go.Proofs.YtdanebboiekieaaGreatDoor
