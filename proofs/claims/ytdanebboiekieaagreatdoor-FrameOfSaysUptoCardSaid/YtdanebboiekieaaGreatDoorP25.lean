/- The walks, part 25. -/
import Derived.Test.YtdanebboiekieaaGreatDoorP24
set_option linter.unusedSimpArgs false
set_option linter.unusedVariables false
set_option maxRecDepth 100000
set_option maxHeartbeats 16000000
namespace Go.Proofs.YtdanebboiekieaaGreatDoor
open Go.RowKit
theorem qa0 (l : List Int) : ∀ k, (fstAt l k).1 = fst0 l := by
 induction l with
 | nil => exact fun k => rfl
 | cons x l ih =>
   intro k
   unfold fstAt fst0
   by_cases h : x = 0
   ·rw [if_pos h, if_pos h, ih]
   ·rw [if_neg h, if_neg h]
theorem q5h (l : List Global) : ∀ m i s, q0i l m i s ≠ (0, 0) -> (q0i l m i s).1 ≠ 0
 | 0, i, s, h => absurd rfl h
 | m + 1, i, s, h => by
   unfold q0i at h ⊢
   cases hg : l[i]? with
   | none => rw [hg] at h; exact absurd rfl h
   | some g =>
     rw [hg] at h
     dsimp only at h ⊢
     by_cases h1 : q0v g.name = false
     ·rw [if_pos h1]; simp
     rw [if_neg h1] at h ⊢
     by_cases h2 : (l.take i).any (fun o => decide (o.name = g.name)) = true
     ·rw [if_pos h2]; simp
     rw [if_neg h2] at h ⊢
     by_cases h3 : g.size < 1 ∨ 200 < g.size
     ·rw [if_pos h3]; simp
     rw [if_neg h3] at h ⊢
     by_cases h4 : g.size < g.init.length
     ·rw [if_pos h4]; simp
     rw [if_neg h4] at h ⊢
     by_cases h5 : 200 < s + g.size
     ·rw [if_pos h5]; simp
     rw [if_neg h5] at h ⊢
     exact q5h l m _ _ h
theorem q77 {u : Unt} (h : qp u ≠ (0, 0)) : (qp u).1 ≠ 0 := by
 unfold qp at h ⊢
 by_cases h1 : 10 < u.globals.length ∨ 10 < u.funcs.length
 ·rw [if_pos h1]; simp
 rw [if_neg h1] at h ⊢
 by_cases h2 : q0i u.globals u.globals.length 0 0 ≠ (0, 0)
 ·rw [if_pos h2]; exact q5h _ _ _ _ h2
 rw [if_neg h2] at h ⊢
 by_cases h3 : fst0 (q1y u) ≠ 0
 ·rw [if_pos h3, qa0]; exact h3
 rw [if_neg h3] at h ⊢
 by_cases h4 : fst0 (q1k u) ≠ 0
 ·rw [if_pos h4, qa0]; exact h4
 rw [if_neg h4] at h ⊢
 cases h5 : u.funcs.findIdx? fun f => decide (f.name = mainU) with
 | none => simp
 | some i =>
   rw [h5] at h
   dsimp only at h ⊢
   cases h6 : u.funcs[i]? with
   | none => simp
   | some f =>
     rw [h6] at h
     dsimp only at h ⊢
     by_cases h7 : 0 < f.params
     ·rw [if_pos h7]; simp
     ·rw [if_neg h7] at h; exact absurd rfl h
theorem q78 {u : Unt} {k : Int} (h : q0q u k ≠ (0, 0)) : (q0q u k).1 ≠ 0 := by
 unfold q0q at h ⊢
 by_cases h1 : qp u ≠ (0, 0)
 ·rw [if_pos h1]; exact q77 h1
 rw [if_neg h1] at h ⊢
 by_cases h2 : ¬ (0 ≤ k ∧ k ≤ (u.funcs.length : Int) - 1)
 ·rw [if_pos h2]; simp
 rw [if_neg h2] at h ⊢
 cases h3 : u.funcs[k.toNat]? with
 | none => rw [h3] at h; exact absurd rfl h
 | some f =>
   rw [h3] at h
   dsimp only at h ⊢
   by_cases h4 : f.blocks.any q1d = true
   ·rw [if_pos h4]; simp
   ·rw [if_neg h4] at h; exact absurd rfl h
theorem q53 {u : Unt} {k : Int} (h : q0q u k = (0, 0)) : qp u = (0, 0) ∧ ∃ (j : Nat) (f : UFun), k = (j : Int) ∧ u.funcs[j]? = some f ∧ (∀ b ∈ f.blocks, b.phis = []) := by
 unfold q0q at h
 by_cases h1 : qp u ≠ (0, 0)
 ·rw [if_pos h1] at h; exact absurd h h1
 rw [if_neg h1] at h
 by_cases h2 : ¬ (0 ≤ k ∧ k ≤ (u.funcs.length : Int) - 1)
 ·rw [if_pos h2] at h; cases h
 rw [if_neg h2] at h
 obtain ⟨j, rfl⟩ : ∃ j : Nat, k = (j : Int) := ⟨k.toNat, by omega⟩
 have hj : j < u.funcs.length := by omega
 rw [Int.toNat_natCast, List.getElem?_eq_getElem hj] at h
 dsimp only at h
 refine ⟨Classical.byContradiction h1, j, u.funcs[j], rfl, List.getElem?_eq_getElem hj, fun b hb => ?_⟩
 by_cases h4 : u.funcs[j].blocks.any q1d = true
 ·rw [if_pos h4] at h; cases h
 ·apply List.eq_nil_of_length_eq_zero
  apply Classical.byContradiction
  intro hn
  exact h4 (List.any_eq_true.2 ⟨b, hb, by unfold q1d; rw [decide_eq_true_eq]; omega⟩)
structure EndOk (regs : Int) (nb : Nat) (e : UEnd) : Prop where
 kind : 1 ≤ e.kind ∧ e.kind ≤ 3
 len : (e.to.length : Int) = e.kind - 1
 tos : ∀ t ∈ e.to, 1 ≤ t ∧ t < (nb : Int)
 two : e.kind = 3 -> e.to[0]? ≠ e.to[1]?
 jump : e.kind = 2 -> isZ e.on = true
 on : ValOk regs e.on
theorem qj2 {nb : Nat} {regs : Int} {e : UEnd} (h : endF nb regs e = 0) : EndOk regs nb e := by
 have h0 := q57 h
 unfold endF at h
 split at h
 ·simp at h
 rename_i h1
 split at h
 ·simp at h
 rename_i h2
 split at h
 ·simp at h
 split at h
 ·simp at h
 rename_i h4
 refine ⟨Classical.byContradiction h1, Classical.byContradiction h2, h0.1, fun hk he => h4 (.inl ⟨hk, he⟩), fun hk => ?_, h0.2⟩
 cases hz : isZ e.on
 ·exact absurd (.inr ⟨hk, hz⟩) h4
 ·rfl
theorem endOk {u : Unt} (h : qp u = (0, 0)) {k : Nat} {f : UFun} (hf : u.funcs[k]? = some f) : ∀ b ∈ f.blocks, EndOk f.regs f.blocks.length b.end_ := by
 intro b hb
 have h1 := (q4a h).2.2.2
 rw [fst0_zero] at h1
 have h2 := h1 (bodyF u f) (List.mem_map.2 ⟨f, List.mem_of_getElem? hf, rfl⟩)
 unfold bodyF at h2
 by_cases h3 : fst0 (f.blocks.map fun b => endF f.blocks.length f.regs b.end_) ≠ 0
 ·rw [if_pos h3] at h2
  exact absurd h2 h3
 ·have h4 := Classical.not_not.1 h3
  rw [fst0_zero] at h4
  exact qj2 (h4 _ (List.mem_map.2 ⟨b, hb, rfl⟩))
theorem qcc {u : Unt} (h : qp u = (0, 0)) {k : Nat} {f : UFun} (hf : u.funcs[k]? = some f) : ∀ b ∈ f.blocks, b.end_.to.length ≤ 2 := fun b hb => by
 have h1 := endOk h hf b hb
 have := h1.kind
 have := h1.len
 omega
structure ColOk (u : Unt) (k : Nat) (f : UFun) (n : Nat) (many : Int) (C : Int -> Int -> Bool) (A : Int -> Bool) (L : Nat -> Nat -> Int -> Bool) : Prop where
 ok : qp u = (0, 0)
 fn : u.funcs[k]? = some f
 np : ∀ b ∈ f.blocks, b.phis = []
 tos : ∀ b ∈ f.blocks, b.end_.to.length ≤ 2
 regs : f.regs = (n : Int)
 many : 2 ≤ many ∧ many ≤ 14
 hL : ∀ i k r, L i k r = true ↔ LvI f r i k
 hC : ∀ a b, C a b = true ↔ Clash f a b
 hA : ∀ z, A z = true ↔ q5t f z
def ColIs (u : Unt) (k many : Int) (pl : List Int) (fl : Int × Int) : Prop :=
 (q0q u k ≠ (0, 0) ∧ pl = [] ∧ fl = q0q u k) ∨
 (q0q u k = (0, 0) ∧ ¬ (2 ≤ many ∧ many ≤ 14) ∧ pl = [] ∧ fl = (3, -1)) ∨
 (∃ j f n C A L, k = ((j : Nat) : Int) ∧ ColOk u j f n many C A L ∧ pl = q2h f n many C A (L 0 0) ∧ fl = (0, 0))
theorem q52 {α : Type} (P : α -> Prop) : ∃ b : α -> Bool, ∀ x, b x = true ↔ P x := by
 have : ∀ x, ∃ b : Bool, b = true ↔ P x := fun x => by
  by_cases h : P x
  ·exact ⟨true, by simp [h]⟩
  ·exact ⟨false, by simp [h]⟩
 exact ⟨fun x => Classical.choose (this x), fun x => Classical.choose_spec (this x)⟩
theorem qhc (u : Unt) (k many : Int) : ∃ pl fl, ColIs u k many pl fl := by
 by_cases h1 : q0q u k = (0, 0)
 ·by_cases h2 : 2 ≤ many ∧ many ≤ 14
  ·obtain ⟨hok, j, f, rfl, hf, hnp⟩ := q53 h1
   obtain ⟨L, hL⟩ := q52 (fun p : Nat × Nat × Int => LvI f p.2.2 p.1 p.2.1)
   obtain ⟨C, hC⟩ := q52 (fun p : Int × Int => Clash f p.1 p.2)
   obtain ⟨A, hA⟩ := q52 (fun z : Int => q5t f z)
   have hfo := funOk hok hf
   obtain ⟨n, hn⟩ : ∃ n : Nat, f.regs = (n : Int) := ⟨f.regs.toNat, by have := hfo.regs; have := hfo.params; omega⟩
   exact ⟨_, _, .inr (.inr ⟨j, f, n, fun a b => C (a, b), A, fun i k r => L (i, k, r), rfl, ⟨hok, hf, hnp, qcc hok hf, hn, h2, fun i k r => hL (i, k, r), fun a b => hC (a, b), hA⟩, rfl, rfl⟩)⟩
  ·exact ⟨_, _, .inr (.inl ⟨h1, h2, rfl, rfl⟩)⟩
 ·exact ⟨_, _, .inl ⟨h1, rfl, rfl⟩⟩
theorem ColIs.code {u : Unt} {k many : Int} {pl : List Int} {fl : Int × Int} (h : ColIs u k many pl fl) : fl = (0, 0) ∨ (fl.1 ≠ 0 ∧ pl = []) := by
 rcases h with ⟨h1, h2, h3⟩ | ⟨h1, h2, h3, h4⟩ | ⟨_, _, _, _, _, _, _, _, _, h4⟩
 ·right
  rw [h3]
  exact ⟨q78 h1, h2⟩
 ·right
  rw [h4]
  exact ⟨by decide, h3⟩
 ·exact .inl h4
theorem qb8 {f : UFun} {n : Nat} {many : Int} {C : Int -> Int -> Bool} {A L : Int -> Bool} : (q2h f n many C A L).length = n := by
 have hfl : ∀ (xs : List Int) (pl : List Int), (xs.foldl (q4t f many A (rowsC C n)) pl).length = pl.length := fun xs => by
  induction xs with
  | nil => exact fun pl => rfl
  | cons x xs ih => exact fun pl => by rw [List.foldl_cons, ih]; unfold q4t; rw [List.length_set]
 unfold q2h
 rw [hfl, List.length_replicate]
theorem qaz {u : Unt} (hu : UntI u) {k many : Int} {pl : List Int} {fl : Int × Int} (h : ColIs u k many pl fl) (gA fA : Option Addr) (gn gc fn fc : Nat) (w : World) (hW : Ways w) (hg : rpGlobal.SL w w.heap.size u.globals (.slice gA gn gc)) (hf : rpFun.SL w w.heap.size u.funcs (.slice fA fn fc)) (R : Ending -> World -> Prop)
 (hR : ∀ w' v, Below w.heap.size w w' -> rpInt.SLF w' w.heap.size w'.heap.size pl v -> R (.returned (.tuple #[v, (.agg #[.int .i64 (fl).1, .int .i64 (fl).2])])) w') :
 Calls Tryz.prog 20 #[.agg #[.slice gA gn gc, .slice fA fn fc], .int .i64 k, .int .i64 many] w R := by
 have e2 := hf.len
 subst e2
 rcases h with ⟨h1, rfl, rfl⟩ | ⟨h1, h2, rfl, rfl⟩ | ⟨j, f, n, C, A, L, rfl, hc, rfl, rfl⟩
 ·obtain ⟨⟨c, a⟩, hca⟩ : ∃ p, p = q0q u k := ⟨_, rfl⟩
  rw [<- hca] at hR h1
  exact q6t u hu k many c a hca.symm (fun e => h1 (by rw [e.1, e.2])) _ _ _ _ _ _ w hW hg hf R (fun w' hb => hR w' _ hb (Rp.SLF.nil _ _ _ _))
 ·obtain ⟨hok, j, f, rfl, hfj, hnp⟩ := q53 h1
  obtain ⟨L, hL⟩ := q52 (fun p : Nat × Nat × Int => LvI f p.2.2 p.1 p.2.1)
  obtain ⟨C, hC⟩ := q52 (fun p : Int × Int => Clash f p.1 p.2)
  have hfo := funOk hok hfj
  obtain ⟨n, hn⟩ : ∃ n : Nat, f.regs = (n : Int) := ⟨f.regs.toNat, by have := hfo.regs; have := hfo.params; omega⟩
  exact q6j (fun a b => C (a, b)) (fun i k r => L (i, k, r)) u hu hok j f hfj hnp (qcc hok hfj) n hn (fun i k r => hL (i, k, r)) (fun a b => hC (a, b)) many h2 _ _ _ _ _ w hW hg hf R (fun w' hb => hR w' _ hb (Rp.SLF.nil _ _ _ _))
 ·refine q9c C L A u hu hc.ok j f hc.fn hc.np hc.tos n hc.regs hc.hL hc.hC hc.hA many hc.many _ _ _ _ _ w hW hg hf R (fun w' g hb hg hI => ?_)
  have hn1 : n ≤ 100 := by have := (funOk hc.ok hc.fn).regs.2; have := hc.regs; omega
  have hl : (q2h f n many C A (L 0 0)).length = n := qb8
  refine hR w' _ hb ?_
  have hI' : IntAt g (q2h f n many C A (L 0 0)) (only w' fun k => decide (w.heap.size ≤ k)) := by
   obtain ⟨A, h1, h2⟩ := hI
   exact ⟨A, (q2q _ _ _ (decide_eq_true hg)).trans h1, h2⟩
  have := hI'.SL (cp := n) (by rw [hl]; unfold maxLen; omega) (by rw [hl]; exact Nat.le_refl _)
  rw [hl] at this
  have h3 := Rp.SL.more this (B' := w'.heap.size) (by simp [only])
  exact h3
def qbp (many p : Int) : Prop := p = -1 ∨ q2p many p = true ∨ (16 ≤ p ∧ p ≤ 116)
theorem qig (t : Int -> Bool) : 16 ≤ slotP t ∧ slotP t ≤ 116 := by
 unfold slotP
 cases hx : (List.range 101).find? fun i : Nat => !t (16 + (i : Int)) with
 | none => simp
 | some j =>
   have := List.mem_of_find?_eq_some hx
   rw [List.mem_range] at this
   simp only [Option.getD_some]
   omega
theorem qg9 (f : UFun) (many : Int) (ac : Bool) (row pl : List Int) (r : Int) : q2p many (q4q f many ac row pl r) = true ∨ (16 ≤ q4q f many ac row pl r ∧ q4q f many ac row pl r ≤ 116) := by
 unfold q4q
 cases hx : (asksF f pl r ++ q1n many).find? (freeB many ac row pl) with
 | none => exact .inr (qig _)
 | some p =>
   left
   have := List.find?_some hx
   unfold freeB at this
   rw [Bool.and_eq_true, Bool.and_eq_true] at this
   exact this.1.1
theorem qd8 {f : UFun} {n : Nat} {many : Int} {C : Int -> Int -> Bool} {A L : Int -> Bool} : ∀ p ∈ q2h f n many C A L, qbp many p := by
 have hfl : ∀ (xs : List Int) (pl : List Int), (∀ p ∈ pl, qbp many p) -> ∀ p ∈ xs.foldl (q4t f many A (rowsC C n)) pl, qbp many p := fun xs => by
  induction xs with
  | nil => exact fun pl h => h
  | cons x xs ih =>
    intro pl h
    rw [List.foldl_cons]
    refine ih _ (fun p hp => ?_)
    unfold q4t at hp
    rcases List.mem_or_eq_of_mem_set hp with h1 | h1
    ·exact h p h1
    ·rw [h1]
     exact .inr (qg9 _ _ _ _ _ _)
 unfold q2h
 refine hfl _ _ (fun p hp => ?_)
 rw [List.mem_replicate] at hp
 exact .inl hp.2
theorem qfg {many p : Int} (h : q2p many p = true) (hm : 2 ≤ many ∧ many ≤ 14) : 0 ≤ p ∧ p < 14 := by
 unfold q2p halfC at h
 rw [decide_eq_true_eq] at h
 split at h <;> omega
theorem q5d {u : Unt} {k many : Int} {pl : List Int} {fl : Int × Int} (h : ColIs u k many pl fl) : ∀ p ∈ pl, -1 ≤ p ∧ p ≤ 116 := by
 rcases h with ⟨h1, rfl, rfl⟩ | ⟨h1, h2, rfl, rfl⟩ | ⟨j, f, n, C, A, L, rfl, hc, rfl, rfl⟩
 ·intro p hp; cases hp
 ·intro p hp; cases hp
 ·intro p hp
  rcases qd8 p hp with h | h | h
  ·omega
  ·have := qfg h hc.many
   omega
  ·omega
theorem q8p {u : Unt} (hu : UntI u) {k many : Int} {pl : List Int} {fl : Int × Int} (h : ColIs u k many pl fl) (gA fA : Option Addr) (gn gc fn fc : Nat) (w : World) (hW : Ways w) (hg : rpGlobal.SL w w.heap.size u.globals (.slice gA gn gc)) (hf : rpFun.SL w w.heap.size u.funcs (.slice fA fn fc)) (R : Ending -> World -> Prop)
 (hR : ∀ w' vs, Below w.heap.size w w' -> w'.ownsRow w.heap.size 3 1 vs (q1c pl).length ((q1c pl).flatMap qf) -> R (.returned (.tuple #[.agg #[.int .i64 (q03 pl), vs], (.agg #[.int .i64 (fl).1, .int .i64 (fl).2])])) w') :
 Calls Tryz.prog 7 #[.agg #[.slice gA gn gc, .slice fA fn fc], .int .i64 k, .int .i64 many] w R := by
 obtain ⟨HR, Hg, Hf, HW, HC⟩ := lh5 hR hg hf hW h
 have Hsm := lh (q5d h)
 clear hR hg hf hW h
 go_enter Tryz.func7, Tryz.ntmps7
 go_upto_region 1 with fail
 obtain ⟨W2, hW2⟩ : ∃ W2, W2 = ((w.alloc (Obj.cells #[.slice gA gn gc, .slice fA fn fc] 25)).alloc (Obj.cells #[.int .i64 0, .slice none 0 0] 28)).alloc (Obj.cells #[.int .i64 0, .int .i64 0] 30) := ⟨_, rfl⟩
 have hb2 : Below w.heap.size w W2 := by subst hW2; exact bl0
 have hU2 : W2.heap[w.heap.size]? = some (.cells #[.slice gA gn gc, .slice fA fn fc] 25 (0, 0)) := by subst hW2; exact qh (qh (heap_alloc_new _ _) _) _
 have hA2 : W2.heap[w.heap.size + 1]? = some (.cells #[.int .i64 0, .slice none 0 0] 28 (0, 0)) := by
  subst hW2
  refine qh ?_ _
  have := heap_alloc_new (w.alloc (Obj.cells #[.slice gA gn gc, .slice fA fn fc] 25)) (Obj.cells #[.int .i64 0, .slice none 0 0] 28)
  simpa using this
 have hF2 : W2.heap[w.heap.size + 2]? = some (.cells #[.int .i64 0, .int .i64 0] 30 (0, 0)) := by
  subst hW2
  have := heap_alloc_new ((w.alloc (Obj.cells #[.slice gA gn gc, .slice fA fn fc] 25)).alloc (Obj.cells #[.int .i64 0, .slice none 0 0] 28)) (Obj.cells #[.int .i64 0, .int .i64 0] 30)
  simpa using this
 rw [<- hW2]
 obtain ⟨Hb2, HU2, HA2, HF2⟩ := lh4 hb2 hU2 hA2 hF2
 have hz2 := hb2.size
 obtain ⟨u0, u1, lU⟩ := cbl hU2
 clear hW2 hb2 hU2 hA2 hF2
 go_wp2_with fail
 refine qaz hu HC.out _ _ _ _ _ _ _ (HW.out.up Hb2.out HW.out.1) (Hg.out.up Hb2.out hz2) (Hf.out.up Hb2.out hz2) _ (fun w3 v3 hb3 hsl3 => ?_)
 obtain ⟨pA, pc, rfl, _, _, hsl3⟩ := hsl3.cases_
 have Hsl3 := lh hsl3.SL
 have Hb3 := btt Hb2 hb3 hz2
 have HA3 := bkk hb3 HA2
 have HF3 := bkk hb3 HF2
 have hz3 := Hb3.out.size
 clear hb3 u0 u1 lU hsl3
 obtain ⟨⟨c, a⟩, hca⟩ : ∃ p, p = fl := ⟨_, rfl⟩
 rw [<- hca]
 dsimp only
 have Hca := lh hca
 clear hca
 obtain ⟨E, hE⟩ := nmm (w3.heap.size)
 obtain ⟨W4, hW4, hb34, hE4⟩ := box1 w3 (.cells #[.int .i64 c, .int .i64 a] 30) hE
 have Hb4 := btt Hb3 hb34 hz3
 have HA4 := bkk hb34 HA3
 have HF4 := bkk hb34 HF3
 have Hsl4 := lh (Hsl3.out.up hb34 hb34.size)
 have HW4 := lh hW4.symm
 have HEs : Hid (w.heap.size + 2 < E) := lh (by rw [hE]; exact qc HF3.out)
 obtain ⟨HEe, HE4⟩ := lh2 hE hE4
 clear hW4 hb34 hE4 hE
 obtain ⟨e0, e1, lE⟩ := cbl HE4.out
 obtain ⟨f0, f1, lF⟩ := cbl HF4.out
 obtain ⟨a0, a1, lA⟩ := cbl HA4.out
 have y0 := fzz HF4.out 0
 have y1 := fzz HF4.out 1
 have j0 := fzz HA4.out 0
 have j1 := fzz HA4.out 1
 have n1 : w.heap.size + 1 ≠ E := by have := HEs.out; omega
 have n2 : E ≠ w.heap.size + 1 := by omega
 have n3 : w.heap.size + 2 ≠ E := by have := HEs.out; omega
 have n4 : E ≠ w.heap.size + 2 := by omega
 go_upto_region 2 with fail
 rw [<- HEe.out, HW4.out, show w.heap.size + 1 + 1 = w.heap.size + 2 from rfl]
 rcases HC.out.code with h0 | ⟨h0, hpl⟩
 ·have e3 : (c, a) = ((0 : Int), (0 : Int)) := by rw [Hca.out]; exact h0
  injection e3 with e4 e5
  subst e4 e5
  clear h0
  rw [<- Hca.out] at HR
  go_upto_region 4 with fail
  have hS0 : W4.cell? ⟨E, 0, none⟩ = some (.int .i64 0) ∧ W4.cell? ⟨E, 1, none⟩ = some (.int .i64 0) := ⟨e0, e1⟩
  clear e0 e1
  go_region_held3 (fun W : World => W.cell? ⟨E, 0, none⟩ = some (.int .i64 0) ∧ W.cell? ⟨E, 1, none⟩ = some (.int .i64 0)) (first | with_reducible exact hS0 | with_reducible exact hSy | with_reducible exact hSz | go_keep) ((go_at_call 21; refine qgx pl _ _ (Hsl4.out.up (by exact bl0 : Below W4.heap.size W4 W4.drew) (Nat.le_refl _)) (fun p hp => by have := Hsm.out p hp; omega) _ ?_; intro wy vs hby hoy; have hb4y : Below W4.heap.size W4 wy := (by exact bl0 : Below W4.heap.size W4 W4.drew).trans hby; obtain ⟨sA, sc, hvs⟩ := qn hoy; subst hvs; have hAy := (hb4y.block _ lA).trans HA4.out; have hFy := (hb4y.block _ lF).trans HF4.out; have hEy := (hb4y.block _ lE).trans HE4.out; have hSy := qk hEy; obtain ⟨b0, b1⟩ := qk hAy; obtain ⟨d0, d1⟩ := qk hFy; have lAy := qc hAy; have lFy := qc hFy; have z0 : wy.frozen? ⟨w.heap.size + 2, 0, none⟩ = false := (by simp [World.frozen?, hFy]); have z1 : wy.frozen? ⟨w.heap.size + 2, 1, none⟩ = false := (by simp [World.frozen?, hFy]); have z2 : wy.frozen? ⟨w.heap.size + 1, 0, none⟩ = false := (by simp [World.frozen?, hAy]); have z3 : wy.frozen? ⟨w.heap.size + 1, 1, none⟩ = false := (by simp [World.frozen?, hAy])))
  have hl0 : w.heap.size ≤ W4.heap.size := Hb4.out.size
  have hbz := qr ((Hb4.out.trans (hb4y.mono hl0))) [(⟨w.heap.size + 1, 0, none⟩, .int .i64 (q03 pl)), (⟨w.heap.size + 1, 1, none⟩, .slice sA (q1c pl).length sc), (⟨w.heap.size + 2, 0, none⟩, .int .i64 0), (⟨w.heap.size + 2, 1, none⟩, .int .i64 0)] (by simp)
  have hnb : ∀ j, j < W4.heap.size -> (Value.slice sA (q1c pl).length sc).ownBlock ≠ some j := fun j hj e => by
   have h1 : W4.heap.size ≤ j := (hoy.lt j e).1
   omega
  have hoz := qj (qj (qj (qj hoy (p := ⟨w.heap.size + 1, 0, none⟩) (hnb _ lA) (.int .i64 (q03 pl))) (p := ⟨w.heap.size + 1, 1, none⟩) (hnb _ lA) (.slice sA (q1c pl).length sc)) (p := ⟨w.heap.size + 2, 0, none⟩) (hnb _ lF) (.int .i64 0)) (p := ⟨w.heap.size + 2, 1, none⟩) (hnb _ lF) (.int .i64 0)
  have Hbz := lh hbz
  have HOz := lh (q0u (B' := w.heap.size) hoz hl0)
  clear hbz hoz hnb hSy hoy hby hb4y hAy hFy hEy a0 a1 f0 f1 y0 y1 j0 j1 lA lF lE hS0
  go_wp2
  refine bodyPost_ret (v := .tuple #[.agg #[.int .i64 (q03 pl), .slice sA (q1c pl).length sc], (.agg #[.int .i64 (((0 : Int), (0 : Int))).1, .int .i64 (((0 : Int), (0 : Int))).2])]) (by simp [results, Tryz.results7, go_sem, b0, b1, d0, d1, lAy, lFy]) rfl ?_
  exact HR.out _ _ Hbz.out HOz.out
 ·subst hpl
  have hc : ¬ c = 0 := by rw [<- Hca.out] at h0; exact h0
  rw [<- Hca.out] at HR
  clear h0
  have Hbl := lh (qr Hb4.out [(⟨w.heap.size + 1, 0, none⟩, .int .i64 0), (⟨w.heap.size + 1, 1, none⟩, .slice none 0 0), (⟨w.heap.size + 2, 0, none⟩, .int .i64 c), (⟨w.heap.size + 2, 1, none⟩, .int .i64 a)] (by simp))
  have hOz : W4.ownsRow w.heap.size 3 1 (.slice none 0 0) (q1c []).length ((q1c []).flatMap qf) := World.ownsRow_nil _ _ _ _
  have HOz := lh (qj (qj (qj (qj hOz (p := ⟨w.heap.size + 1, 0, none⟩) (fun e => by cases e) (.int .i64 0)) (p := ⟨w.heap.size + 1, 1, none⟩) (fun e => by cases e) (.slice none 0 0)) (p := ⟨w.heap.size + 2, 0, none⟩) (fun e => by cases e) (.int .i64 c)) (p := ⟨w.heap.size + 2, 1, none⟩) (fun e => by cases e) (.int .i64 a))
  clear hOz
  go_wp2
  go_region
  go_wp2
  refine bodyPost_ret (v := .tuple #[.agg #[.int .i64 0, .slice none 0 0], (.agg #[.int .i64 ((c, a)).1, .int .i64 ((c, a)).2])]) (by simp [results, Tryz.results7, go_sem, a0, a1, f0, f1, lA, lF]) rfl ?_
  exact HR.out _ _ (Hbl.out.drew) (q0e HOz.out (by exact bl0))
theorem q6m {α : Type} (p : α -> Bool) {xs : List α} {k : Nat} (h : k < xs.length) : (xs.take (k + 1)).any p = ((xs.take k).any p || p xs[k]) := by
 rw [List.take_succ_eq_append_getElem h, List.any_append]
 simp
theorem q72 {α : Type} {p : α -> Bool} {xs : List α} {k : Nat} (h : k < xs.length) (hp : p xs[k] = true) : xs.any p = true := List.any_eq_true.2 ⟨_, List.getElem_mem h, hp⟩
theorem q6v (x : UIns) (A : Option Addr) (c : Nat) (r : Nat) (w : World) (h : rpVal.SL w w.heap.size x.args (.slice A x.args.length c)) (R : Ending -> World -> Prop)
 (hR : ∀ w', Below w.heap.size w w' -> R (.returned (.bool (q1x x r))) w') :
 Calls Tryz.prog 64 #[.agg #[.int .i64 x.op, .int .i64 x.dst, .bool x.a.reg, .int .i64 x.a.n, .bool x.b.reg, .int .i64 x.b.n, .int .i64 x.fn, .slice A x.args.length c], .int .i64 (r : Int)] w R := by
 obtain ⟨HR, Hs⟩ := lh2 hR h
 obtain ⟨_, hmx, _⟩ : ∃ (_ : True), x.args.length ≤ 9223372036854775807 ∧ True := ⟨trivial, h.max, trivial⟩
 have htk : q1x x r = ((regIs x.a r || regIs x.b r) || x.args.any fun v => regIs v r) := rfl
 rw [htk] at HR
 obtain ⟨qa, hqa⟩ : ∃ q, q = regIs x.a r := ⟨_, rfl⟩
 obtain ⟨qb, hqb⟩ : ∃ q, q = regIs x.b r := ⟨_, rfl⟩
 rw [<- hqa, <- hqb] at HR
 have hqa' : qa = (x.a.reg && decide (x.a.n = (r : Int))) := hqa
 have hqb' : qb = (x.b.reg && decide (x.b.n = (r : Int))) := hqb
 obtain ⟨Hqa, Hqb⟩ := lh2 hqa' hqb'
 clear hR h htk hqa hqb hqa' hqb'
 go_enter Tryz.func64, Tryz.ntmps64
 go_upto_region 1 with fail
 obtain ⟨W2, hW2, hb2, hU2⟩ := box1 w (.cells #[.int .i64 x.op, .int .i64 x.dst, .bool x.a.reg, .int .i64 x.a.n, .bool x.b.reg, .int .i64 x.b.n, .int .i64 x.fn, .slice A x.args.length c] 71) rfl
 rw [<- hW2]
 have Hb2 := lh hb2
 have lU := qc hU2
 have u2 : W2.cell? ⟨w.heap.size, 2, none⟩ = some (.bool x.a.reg) := cqq hU2
 have u3 : W2.cell? ⟨w.heap.size, 3, none⟩ = some (.int .i64 x.a.n) := cqq hU2
 have u4 : W2.cell? ⟨w.heap.size, 4, none⟩ = some (.bool x.b.reg) := cqq hU2
 have u5 : W2.cell? ⟨w.heap.size, 5, none⟩ = some (.int .i64 x.b.n) := cqq hU2
 have u7 : W2.cell? ⟨w.heap.size, 7, none⟩ = some (.slice A x.args.length c) := cqq hU2
 have Hs2 := lh (Hs.out.up hb2 hb2.size)
 clear hW2 hb2 hU2 Hs
 go_cut [27] (fun s wx => s = .bool (qa || qb) ∧ wx = W2)
 case first =>
  generalize x.a.reg = ar at *
  generalize x.b.reg = br at *
  by_cases h1 : x.a.n = (r : Int)
  ·have j1 : (x.a.n == (r : Int)) = true := by simpa using h1
   rw [decide_eq_true h1] at Hqa
   by_cases h2 : x.b.n = (r : Int)
   ·have j2 : (x.b.n == (r : Int)) = true := by simpa using h2
    rw [decide_eq_true h2] at Hqb
    cases ar <;> cases br <;> (clear h1 h2; go_wp2; go_meet; exact ⟨by rw [Hqa.out, Hqb.out]; rfl, rfl⟩)
   ·have j2 : (x.b.n == (r : Int)) = false := by simpa using h2
    rw [decide_eq_false h2] at Hqb
    cases ar <;> cases br <;> (clear h1 h2; go_wp2; go_meet; exact ⟨by rw [Hqa.out, Hqb.out]; rfl, rfl⟩)
  ·have j1 : (x.a.n == (r : Int)) = false := by simpa using h1
   rw [decide_eq_false h1] at Hqa
   by_cases h2 : x.b.n = (r : Int)
   ·have j2 : (x.b.n == (r : Int)) = true := by simpa using h2
    rw [decide_eq_true h2] at Hqb
    cases ar <;> cases br <;> (clear h1 h2; go_wp2; go_meet; exact ⟨by rw [Hqa.out, Hqb.out]; rfl, rfl⟩)
   ·have j2 : (x.b.n == (r : Int)) = false := by simpa using h2
    rw [decide_eq_false h2] at Hqb
    cases ar <;> cases br <;> (clear h1 h2; go_wp2; go_meet; exact ⟨by rw [Hqa.out, Hqb.out]; rfl, rfl⟩)
 case rest =>
  obtain ⟨rfl, hw⟩ := hcut
  subst hw
  rename World => W2
  clear u2 u3 u4 u5
  generalize (qa || qb) = q at *
  cases q
  ·rw [Bool.false_or] at HR
   go_wp2
   go_loopg [5] x.args.length (fun gh s5 wr => ∃ k : Nat, k ≤ x.args.length ∧ gh = x.args.length - k ∧ s5 = .int .i64 (k : Int) ∧ Hid ((x.args.take k).any (fun v => regIs v r) = false) ∧ wr = W2)
   case atStart => exact ⟨0, Nat.zero_le _, rfl, rfl, lh rfl, rfl⟩
   case round =>
    obtain ⟨k, hk, rfl, rfl, Hn, rfl⟩ := hrel
    have i1 := nnn k
    by_cases hlt : k < x.args.length
    ·have i2 : (k : Int) < (x.args.length : Int) := by omega
     obtain ⟨b, off, rfl, hbb, c0, c1⟩ := Hs2.out.val_at hlt
     have hst := q6m (fun v => regIs v r) hlt
     rw [Hn.out, Bool.false_or] at hst
     have hof : regIs x.args[k] r = true -> (x.args.any fun v => regIs v r) = true := fun hp => q72 (p := fun v => regIs v r) hlt hp
     have hdf : regIs x.args[k] r = (x.args[k].reg && decide (x.args[k].n = (r : Int))) := rfl
     generalize regIs x.args[k] r = q at *
     obtain ⟨Hst, Hof, Hdf⟩ := lh3 hst hof hdf
     clear hst hof hdf
     generalize x.args[k].reg = vr at *
     generalize x.args[k].n = vn at *
     by_cases h1 : vn = (r : Int)
     ·have j1 : (vn == (r : Int)) = true := by simpa using h1
      cases vr
      ·have hq : q = false := by rw [Hdf.out]; rfl
       rw [hq] at Hst
       clear h1
       go_wp2
       go_roundg (x.args.length - (k + 1))
       case measure => omega
       case rel => exact ⟨k + 1, hlt, rfl, by go_num, Hst, rfl⟩
      ·have hq : q = true := by rw [Hdf.out, decide_eq_true h1]; rfl
       have hfin := lh (HR.out _ Hb2.out)
       rw [Hof.out hq] at hfin
       clear h1
       go_wp2
       exact hfin.out
     ·have j1 : (vn == (r : Int)) = false := by simpa using h1
      have hq : q = false := by rw [Hdf.out, decide_eq_false h1, Bool.and_false]
      rw [hq] at Hst
      cases vr
      all_goals
       clear h1
       go_wp2
       go_roundg (x.args.length - (k + 1))
       case measure => omega
       case rel => exact ⟨k + 1, hlt, rfl, by go_num, Hst, rfl⟩
    ·obtain rfl : k = x.args.length := by omega
     have i2 : ¬ (x.args.length : Int) < (x.args.length : Int) := by omega
     rw [List.take_length] at Hn
     have hfin := lh (HR.out _ Hb2.out)
     rw [Hn.out] at hfin
     go_wp2
     exact hfin.out
  ·rw [Bool.true_or] at HR
   have hfin := lh (HR.out _ Hb2.out)
   go_wp2
   exact hfin.out
def cntV (v : UVal) (r : Nat) : Int := if regIs v r = true then 1 else 0
theorem q45 (g : Bool) (n : Int) (r : Nat) (w : World) (R : Ending -> World -> Prop) (hR : ∀ w', Below w.heap.size w w' -> R (.returned (.int .i64 (cntV ⟨g, n⟩ r))) w') :
 Calls Tryz.prog 87 #[.agg #[.bool g, .int .i64 n], .int .i64 (r : Int)] w R := by
 have HR := lh hR
 have hdf : cntV ⟨g, n⟩ r = if (g && decide (n = (r : Int))) = true then 1 else 0 := rfl
 rw [hdf] at HR
 clear hR hdf
 by_cases h1 : n = (r : Int)
 ·have j1 : (n == (r : Int)) = true := by simpa using h1
  rw [decide_eq_true h1] at HR
  clear h1
  cases g
  ·have HR1 : Hid (∀ w', Below w.heap.size w w' -> R (.returned (.int .i64 0)) w') := HR
   clear HR
   go_enter Tryz.func87, Tryz.ntmps87
   go_wp2
   exact HR1.out _ (by exact bl0)
  ·have HR1 : Hid (∀ w', Below w.heap.size w w' -> R (.returned (.int .i64 1)) w') := HR
   clear HR
   go_enter Tryz.func87, Tryz.ntmps87
   go_wp2
   exact HR1.out _ (by exact bl0)
 ·have j1 : (n == (r : Int)) = false := by simpa using h1
  rw [decide_eq_false h1, Bool.and_false] at HR
  have HR1 : Hid (∀ w', Below w.heap.size w w' -> R (.returned (.int .i64 0)) w') := HR
  clear HR h1
  cases g
  all_goals
   go_enter Tryz.func87, Tryz.ntmps87
   go_wp2
   exact HR1.out _ (by exact bl0)
theorem q42 (xs : List Int) (v : Value) (t : Int) (w : World) (h : rpInt.SL w w.heap.size xs v) (R : Ending -> World -> Prop)
 (hR : R (.returned (.bool (decide (t ∈ xs)))) w) : Calls Tryz.prog 52 #[v, .int .i64 t] w R := by
 obtain ⟨A, c, rfl, hmx, hcap, hs⟩ := h.cases_
 obtain ⟨HR, Hs⟩ := lh2 hR hs
 clear hR h hs
 go_enter Tryz.func52, Tryz.ntmps52
 go_wp2
 go_loopg [5] xs.length (fun gh s5 wr => ∃ k : Nat, k ≤ xs.length ∧ gh = xs.length - k ∧ s5 = .int .i64 (k : Int) ∧ Hid (t ∉ xs.take k) ∧ wr = w)
 case atStart => exact ⟨0, Nat.zero_le _, rfl, rfl, lh (by simp), rfl⟩
 case round =>
  obtain ⟨k, hk, rfl, rfl, Hn, rfl⟩ := hrel
  have i1 := nnn k
  by_cases hlt : k < xs.length
  ·have i2 : (k : Int) < (xs.length : Int) := by omega
   obtain ⟨b, off, rfl, hbb, c0⟩ := Hs.out.int_at hlt
   have hgd : xs.getD k 0 = xs[k] := by rw [List.getD_eq_getElem?_getD, List.getElem?_eq_getElem hlt]; rfl
   rw [hgd] at c0
   have hst : t ∉ xs.take (k + 1) ↔ t ≠ xs[k] := by
    rw [List.take_succ_eq_append_getElem hlt, List.mem_append, List.mem_singleton]
    have := Hn.out
    constructor
    ·exact fun h1 e => h1 (.inr e)
    ·rintro h1 (h2 | h2)
     ·exact this h2
     ·exact h1 h2
   have hof : t = xs[k] -> t ∈ xs := fun e => by rw [e]; exact List.getElem_mem hlt
   obtain ⟨Hst, Hof⟩ := lh2 hst hof
   clear hst hof hgd
   generalize xs[k] = y at *
   by_cases h1 : y = t
   ·have j1 : (y == t) = true := by simpa using h1
    have hfin := HR
    rw [decide_eq_true (Hof.out h1.symm)] at hfin
    clear h1
    go_wp2
    exact hfin.out
   ·have j1 : (y == t) = false := by simpa using h1
    have Hn2 := lh (Hst.out.2 (fun e => h1 e.symm))
    clear h1
    go_wp2
    go_roundg (xs.length - (k + 1))
    case measure => omega
    case rel => exact ⟨k + 1, hlt, rfl, by go_num, Hn2, rfl⟩
  ·obtain rfl : k = xs.length := by omega
   have i2 : ¬ (xs.length : Int) < (xs.length : Int) := by omega
   rw [List.take_length] at Hn
   have hfin := HR
   rw [decide_eq_false Hn.out] at hfin
   go_wp2
   exact hfin.out
theorem q1q (row pl : List Int) (v : Value) (g n c : Nat) (p : Int) (hl : pl.length = n) (hr : ∀ o ∈ row, 0 ≤ o ∧ o < (n : Int)) (w : World) (h : rpInt.SL w w.heap.size row v) (hI : IntAt g pl w) (R : Ending -> World -> Prop)
 (hR : R (.returned (.bool (row.any fun o => decide (iAt pl o.toNat = p)))) w) : Calls Tryz.prog 51 #[v, .slice (some ⟨g, 0, none⟩) n c, .int .i64 p] w R := by
 obtain ⟨A, cc, rfl, hmx, hcap, hs⟩ := h.cases_
 obtain ⟨HR, Hs, HI, Hr, Hl⟩ := lh5 hR hs hI hr hl
 clear hR h hs hI hr hl
 go_enter Tryz.func51, Tryz.ntmps51
 go_wp2
 go_loopg [7] row.length (fun gh s5 wr => ∃ k : Nat, k ≤ row.length ∧ gh = row.length - k ∧ s5 = .int .i64 (k : Int) ∧ Hid ((row.take k).any (fun o => decide (iAt pl o.toNat = p)) = false) ∧ wr = w)
 case atStart => exact ⟨0, Nat.zero_le _, rfl, rfl, lh (by simp), rfl⟩
 case round =>
  obtain ⟨k, hk, rfl, rfl, Hn, rfl⟩ := hrel
  have i1 := nnn k
  by_cases hlt : k < row.length
  ·have i2 : (k : Int) < (row.length : Int) := by omega
   obtain ⟨b, off, rfl, hbb, c0⟩ := Hs.out.int_at hlt
   have hgd : row.getD k 0 = row[k] := by rw [List.getD_eq_getElem?_getD, List.getElem?_eq_getElem hlt]; rfl
   rw [hgd] at c0
   have hst := q6m (fun o => decide (iAt pl o.toNat = p)) hlt
   rw [Hn.out, Bool.false_or] at hst
   have hof : decide (iAt pl (row[k]).toNat = p) = true -> (row.any fun o => decide (iAt pl o.toNat = p)) = true := fun hp => q72 (p := fun o => decide (iAt pl o.toNat = p)) hlt hp
   obtain ⟨q, hq⟩ : ∃ q : Nat, row[k] = (q : Int) := ⟨(row[k]).toNat, by have := Hr.out _ (List.getElem_mem hlt); omega⟩
   have hqn : q < n := by have := Hr.out _ (List.getElem_mem hlt); omega
   rw [hq, Int.toNat_natCast] at hst hof
   rw [hq] at c0
   have c1 := HI.out.cell (k := q) (by rw [Hl.out]; exact hqn)
   obtain ⟨Hst, Hof⟩ := lh2 hst hof
   have q1 := nnn q
   have q2 : (q : Int) < (n : Int) := by omega
   clear hst hof hgd hq
   generalize iAt pl q = y at *
   by_cases h1 : y = p
   ·have j1 : (y == p) = true := by simpa using h1
    have hfin := HR
    rw [Hof.out (decide_eq_true h1)] at hfin
    clear h1
    go_wp2
    exact hfin.out
   ·have j1 : (y == p) = false := by simpa using h1
    have Hn2 := Hst
    rw [decide_eq_false h1] at Hn2
    clear h1
    go_wp2
    go_roundg (row.length - (k + 1))
    case measure => omega
    case rel => exact ⟨k + 1, hlt, rfl, by go_num, Hn2, rfl⟩
  ·obtain rfl : k = row.length := by omega
   have i2 : ¬ (row.length : Int) < (row.length : Int) := by omega
   rw [List.take_length] at Hn
   have hfin := HR
   rw [Hn.out] at hfin
   go_wp2
   exact hfin.out
theorem qec (pl : List Int) (v : Value) (w : World) (h : rpInt.SL w w.heap.size pl v) (hb : ∀ p ∈ pl, -1 ≤ p ∧ p ≤ 1000) (R : Ending -> World -> Prop)
 (hR : ∀ w' vs, Below w.heap.size w w' -> w'.ownsRow w.heap.size 3 1 vs (q1c pl).length ((q1c pl).flatMap qf) -> R (.returned (.agg #[.int .i64 (q03 pl), vs])) w') :
 Calls Tryz.prog 23 #[v] w R := by
 obtain ⟨i0, hi0, hz0, hz1, hz2⟩ := info_parts q1v
 obtain ⟨A, c, rfl, hmx, hcap, hs⟩ := h.cases_
 obtain ⟨Hs, HR, HB⟩ := lh3 hs hR hb
 clear hR h hs hb
 go_enter Tryz.func23, Tryz.ntmps23
 go_upto_region 2 with fail
 obtain ⟨B, hB⟩ := nmm (w.heap.size)
 obtain ⟨W2, hW2, hb2, hA2, hF2⟩ := box2 w (.cells #[.int .i64 0, .slice none 0 0] 28) (.cells #[.int .i64 0, .slice none 0 0] 28) hB
 have hs2 : W2.heap.size = B + 2 := by subst hW2 hB; simp
 rw [<- hW2, <- hB]
 obtain ⟨Hb2, HA2, HF2, HS2, HBe⟩ := lh5 hb2 hA2 hF2 hs2 hB
 clear hW2 hb2 hA2 hF2 hs2 hB
 go_wp2
 go_loopg [4] pl.length (fun gh s9 wr => ∃ k : Nat, k ≤ pl.length ∧ gh = pl.length - k ∧ s9 = .int .i64 (k : Int) ∧ Hid (Below B w wr) ∧ B + 2 ≤ wr.heap.size ∧ Hid (wr.heap[B]? = some (.cells #[.int .i64 0, .slice none 0 0] 28 (0, 0))) ∧ Hid (wr.heap[B + 1]? = some (.cells #[.int .i64 (q03 (pl.take k)), .slice none 0 0] 28 (0, 0))))
 case atStart => exact ⟨0, Nat.zero_le _, rfl, rfl, lh (by have := Hb2.out; rwa [<- HBe.out] at this), by have := HS2.out; omega, HA2, HF2⟩
 case round =>
  clear Hb2 HA2 HF2 HS2
  obtain ⟨k, hk, rfl, rfl, Hb, hsz, HA, HF⟩ := hrel
  have i1 := nnn k
  obtain ⟨s, hs⟩ : ∃ s, s = q03 (pl.take k) := ⟨_, rfl⟩
  have hs0 : 0 ≤ s := by rw [hs]; exact q4u _
  have hs1 : s ≤ 1000 := by rw [hs]; exact q8a (by omega) (fun p hp => by have := HB.out p (List.mem_of_mem_take hp); omega)
  rw [<- hs] at HF
  have f0 : wr.cell? ⟨B + 1, 0, none⟩ = some (.int .i64 s) := cqq HF.out
  have f1 : wr.cell? ⟨B + 1, 1, none⟩ = some (.slice none 0 0) := cqq HF.out
  have fz := fzz HF.out 0
  have fz1 := fzz HF.out 1
  have lF : B + 1 < wr.heap.size := by omega
  by_cases hlt : k < pl.length
  ·have i2 : (k : Int) < (pl.length : Int) := by omega
   obtain ⟨b, off, rfl, hbb, p0⟩ := Hs.out.int_at hlt
   have q0 := (Hb.out.cell (p := ⟨b, off + k, none⟩) (show b < B by rw [HBe.out]; exact hbb)).trans p0
   have lb : b < wr.heap.size := by have := HBe.out; omega
   clear p0
   have hst := q6g hlt
   have hpb := HB.out _ (List.getElem_mem hlt)
   rw [<- hs] at hst
   have hgd : pl.getD k 0 = pl[k] := by rw [List.getD_eq_getElem?_getD, List.getElem?_eq_getElem hlt]; rfl
   rw [hgd] at q0
   clear hgd
   generalize pl[k] = p at *
   obtain ⟨Hst, Hs0⟩ := lh2 hst hs
   have ew : IntKind.i64.wrap (p - 15) = p - 15 := IntWalk.i64_in _ (by omega)
   clear hst hs
   by_cases hp : s < p - 15
   ·obtain ⟨t, ht⟩ : ∃ t, t = q03 (pl.take (k + 1)) := ⟨_, rfl⟩
    have hmx : p - 15 = t := by
     rw [ht, Hst.out, if_pos (by omega)]
    obtain ⟨Ht, Hmx⟩ := lh2 ht hmx
    have hgt : p - 15 > s := hp
    clear ht Hst hmx
    go_upto_region 5 with fail
    go_big_quiet (fail)
    have hbq : Below wr.heap.size wr (wr.drewN nq) := qq (Below.refl _ _) nq
    obtain ⟨wq, hwq⟩ := nmm (wr.drewN nq)
    rw [<- hwq] at hbq ⊢
    have HFq := lh ((hbq.block _ (by omega)).trans HF.out)
    have HAq := lh ((hbq.block _ (by omega)).trans HA.out)
    have Hbq : Hid (Below B w wq) := lh (Hb.out.trans (hbq.mono (by omega)))
    have hszq : B + 2 ≤ wq.heap.size := Nat.le_trans hsz hbq.size
    have q0' := (hbq.cell (p := ⟨b, off + k, none⟩) lb).trans q0
    have lb' : b < wq.heap.size := Nat.lt_of_lt_of_le lb hbq.size
    clear hwq hbq f0 f1 fz fz1 lF q0 lb HF HA Hb hsz
    have f0 : wq.cell? ⟨B + 1, 0, none⟩ = some (.int .i64 s) := cqq HFq.out
    have fz := fzz HFq.out 0
    have lF : B + 1 < wq.heap.size := by omega
    have HF' : Hid ((wq.setCell ⟨B + 1, 0, none⟩ (.int .i64 (p - 15))).heap[B + 1]? = some (.cells #[.int .i64 (p - 15), .slice none 0 0] 28 (0, 0))) := lh (q95 HFq.out _)
    have HA' : Hid ((wq.setCell ⟨B + 1, 0, none⟩ (.int .i64 (p - 15))).heap[B]? = some (.cells #[.int .i64 0, .slice none 0 0] 28 (0, 0))) := lh ((Below.heap_setCell _ _ _ _ (fun e => by have e : B = B + 1 := e; omega)).trans HAq.out)
    have HB' : Hid (Below B w (wq.setCell ⟨B + 1, 0, none⟩ (.int .i64 (p - 15)))) := lh (Below.setCell (p := ⟨B + 1, 0, none⟩) Hbq.out (by show B ≤ B + 1; omega) _)
    go_wp2
    go_roundg (pl.length - (k + 1))
    case measure => omega
    case rel => exact ⟨k + 1, hlt, rfl, by go_num, HB', by simpa [World.setCell] using hszq, HA', by rw [<- Ht.out, <- Hmx.out]; exact HF'⟩
   ·have ht : q03 (pl.take (k + 1)) = s := by
     rw [Hst.out, if_neg (by omega)]
    have Ht := lh ht
    have hgt : p - 15 ≤ s := by omega
    clear ht Hst
    go_upto_region 5 with fail
    go_big_quiet (fail)
    have hbq : Below wr.heap.size wr (wr.drewN nq) := qq (Below.refl _ _) nq
    obtain ⟨wq, hwq⟩ := nmm (wr.drewN nq)
    rw [<- hwq] at hbq ⊢
    have HFq := lh ((hbq.block _ (by omega)).trans HF.out)
    have HAq := lh ((hbq.block _ (by omega)).trans HA.out)
    have Hbq : Hid (Below B w wq) := lh (Hb.out.trans (hbq.mono (by omega)))
    have hszq : B + 2 ≤ wq.heap.size := Nat.le_trans hsz hbq.size
    have q0' := (hbq.cell (p := ⟨b, off + k, none⟩) lb).trans q0
    have lb' : b < wq.heap.size := Nat.lt_of_lt_of_le lb hbq.size
    clear hwq hbq f0 f1 fz fz1 lF q0 lb HF HA Hb hsz
    go_wp2
    go_roundg (pl.length - (k + 1))
    case measure => omega
    case rel => exact ⟨k + 1, hlt, rfl, by go_num, Hbq, hszq, HAq, by rw [Ht.out]; exact HFq⟩
  ·obtain rfl : k = pl.length := by omega
   have hpe : q03 pl = s := by rw [hs, List.take_length]
   rw [hpe] at HR
   have i2 : ¬ (pl.length : Int) < (pl.length : Int) := by omega
   clear hpe hs f0 f1 fz fz1 lF
   obtain ⟨wa, hwa⟩ := nmm (wr)
   rw [<- hwa] at Hb hsz HA HF ⊢
   clear hwa
   have hG0 : Hid (Grew (fun j => j = B + 1) wa wa) := lh (Grew.refl _ _)
   have HO0 : Hid (wa.ownsRow wa.heap.size 3 1 (.slice none 0 0) (q02 pl 6).length ((q02 pl 6).flatMap qf)) := lh (by rw [q7l]; exact World.ownsRow_nil _ _ _ _)
   go_wp2
   go_loopg [5] 8 (fun gh s6 wr => ∃ (r : Nat) (vs : Value), 6 ≤ r ∧ r ≤ 14 ∧ gh = 14 - r ∧ s6 = .int .i64 (r : Int) ∧ Hid (Grew (fun j => j = B + 1) wa wr) ∧ Hid (wr.heap[B + 1]? = some (.cells #[.int .i64 s, vs] 28 (0, 0))) ∧ Hid (wr.ownsRow wa.heap.size 3 1 vs (q02 pl r).length ((q02 pl r).flatMap qf)))
   case atStart => exact ⟨6, _, by omega, by omega, rfl, rfl, hG0, HF, HO0⟩
   case round =>
    clear hG0 HF HO0
    obtain ⟨r, vs, hr6, hr14, hg, rfl, HG, HF, HO⟩ := hrel
    have Hgh := lh hg
    have hzr := HG.out.size
    have r1 := nnn r
    have lF : B + 1 < wr.heap.size := qc HF.out
    obtain ⟨A1, c1, rfl⟩ := qn HO.out
    have f0 : wr.cell? ⟨B + 1, 0, none⟩ = some (.int .i64 s) := cqq HF.out
    have f1 : wr.cell? ⟨B + 1, 1, none⟩ = some (.slice A1 (q02 pl r).length c1) := cqq HF.out
    clear hg
    by_cases hlt : r < 14
    ·have r2 : (r : Int) < 14 := by omega
     have hpls : rpInt.SL wr wr.heap.size pl (.slice A pl.length c) := Hs.out.up ((Hb.out.trans (HG.out.below (B := B) (fun j hj e => by omega) (by omega))).mono (by rw [HBe.out]; exact Nat.le_refl _)) (by have := HBe.out; omega)
     have Hpls := lh hpls
     have hst := q6e pl r hr6
     have hll : (q02 pl r).length ≤ 100 := by
      unfold q02
      have h1 := List.length_filter_le (fun r : Int => decide (6 ≤ r)) (rowX (fun r => decide (r ∈ pl)) r)
      have h2 := q2k (fun r => decide (r ∈ pl)) r
      omega
     generalize hL1 : q02 pl r = L1 at *
     generalize hL2 : q02 pl (r + 1) = L2 at *
     obtain ⟨HL2, Hst, Hll⟩ := lh3 hL2 hst hll
     clear hL1 hL2 hst hll hpls
     go_wp2_with fail
     refine q42 pl _ (r : Int) _ Hpls.out _ ?_
     by_cases hin : (r : Int) ∈ pl
     ·rw [decide_eq_true hin]
      rw [if_pos hin] at Hst
      have fz : ∀ X : World, X.heap[B + 1]? = some (.cells #[.int .i64 s, .slice A1 L1.length c1] 28 (0, 0)) -> X.frozen? ⟨B + 1, 1, none⟩ = false := fun X hX => by simp [World.frozen?, hX]
      go_wp2_with (at_builtin; refine wpList_append_own _ rfl _ _ 26 rfl wa.heap.size 3 i0 _ 1 8 Tryz.underlying26 hi0 hz0 hz1 hz2 rfl (by decide) (.slice A1 L1.length c1) L1.length (L1.flatMap qf) rfl (HO.out.alloc _) ⟨wr.heap.size, 0, none⟩ 1 1 [.int .i64 (r : Int)] rfl rfl ?_ ?_ ?_ ?_ ?_ ?_)
      any_goals have hll := Hll.out
      any_goals first | exact World.news_of_block (cs := #[.int .i64 (r : Int)]) (t := 3) (fr := (0, 0)) (heap_alloc_new wr _) | (simp [Value.oneCell']; done) | (unfold maxLen; omega) | omega | (simp; done) | (simp; omega)
      intro v' w2 hown2 hgrow _
      have hown : ∀ j, some j = (Value.slice A1 L1.length c1).ownBlock -> wa.heap.size ≤ j := fun j e => (HO.out.lt j e.symm).1
      have hG2 : Grew (fun j => j = B + 1) wa w2 := (HG.out.alloc (Obj.cells #[.int .i64 (r : Int)] 3)).trans (Grew.of_grown hgrow) (fun j hj e => by have := hown j e.symm; omega)
      have hF2 : w2.heap[B + 1]? = some (.cells #[.int .i64 s, .slice A1 L1.length c1] 28 (0, 0)) := by
       rw [hgrow.block (B + 1) (by simp; omega) (fun e => by have := hown _ e; omega)]
       exact qh HF.out _
      have hO2 : w2.ownsRow wa.heap.size 3 1 v' L2.length (L2.flatMap qf) := by
       rw [Hst.out, List.length_append, List.flatMap_append]
       exact hown2
      obtain ⟨A2, c2, rfl⟩ := qn hO2
      have fz2 := fz w2 hF2
      have g1 : w2.cell? ⟨B + 1, 1, none⟩ = some (.slice A1 L1.length c1) := cqq hF2
      have l2 := qc hF2
      have HG2 := lh (hG2.setCell ⟨B + 1, 1, none⟩ (.inl rfl) (.slice A2 L2.length c2))
      have HF2 : Hid ((w2.setCell ⟨B + 1, 1, none⟩ (.slice A2 L2.length c2)).heap[B + 1]? = some (.cells #[.int .i64 s, .slice A2 L2.length c2] 28 (0, 0))) := lh (by apply q8q hF2)
      have HO2 := lh (qj hO2 (p := ⟨B + 1, 1, none⟩) (fun e => by have h1 := (hO2.lt (B + 1) e).1; omega) (.slice A2 L2.length c2))
      clear hown2 hgrow hown hG2 hF2 hO2 HG HF HO hll f0 f1 fz
      go_wp2
      go_roundg (14 - (r + 1))
      case measure => have := Hgh.out; omega
      case rel => exact ⟨r + 1, _, by omega, hlt, rfl, by go_num, HG2, HF2, by rw [HL2.out]; exact HO2⟩
     ·rw [decide_eq_false hin]
      rw [if_neg hin, List.append_nil] at Hst
      have HO2 : Hid (wr.ownsRow wa.heap.size 3 1 (.slice A1 L1.length c1) L2.length (L2.flatMap qf)) := lh (by rw [Hst.out]; exact HO.out)
      clear HO
      go_wp2
      go_roundg (14 - (r + 1))
      case measure => have := Hgh.out; omega
      case rel => exact ⟨r + 1, _, by omega, hlt, rfl, by go_num, HG, HF, by rw [HL2.out]; exact HO2⟩
    ·obtain rfl : r = 14 := by omega
     have hAr := (HG.out.block B (by omega) (by omega)).trans HA.out
     obtain ⟨g0, g1⟩ := qk hAr
     have lA : B < wr.heap.size := by omega
     have y0 := fzz hAr 0
     have y1 := fzz hAr 1
     have hbB : Below B w wr := Hb.out.trans (HG.out.below (B := B) (fun j hj e => by omega) (by omega))
     have hbl := qr hbB [(⟨B, 0, none⟩, .int .i64 s), (⟨B, 1, none⟩, .slice A1 (q02 pl 14).length c1)] (by simp)
     have hOz := qj (qj HO.out (p := ⟨B, 0, none⟩) (fun e => by have h1 := (HO.out.lt B e).1; omega) (.int .i64 s)) (p := ⟨B, 1, none⟩) (fun e => by have h1 := (HO.out.lt B e).1; omega) (.slice A1 (q02 pl 14).length c1)
     have Hbl : Hid (Below w.heap.size w ((wr.setCell ⟨B, 0, none⟩ (.int .i64 s)).setCell ⟨B, 1, none⟩ (.slice A1 (q02 pl 14).length c1))) := lh (by rw [<- HBe.out]; exact hbl)
     have HOz := lh (q0u (B' := w.heap.size) hOz (by have := HBe.out; omega))
     clear hbl hOz hAr hbB HO HG HF
     go_wp2
     refine bodyPost_ret (v := .agg #[.int .i64 s, .slice A1 (q02 pl 14).length c1]) (by simp [results, Tryz.results23, go_sem, g0, g1, lA]) rfl ?_
     exact HR.out _ _ Hbl.out HOz.out
theorem q2l (many : Int) (hm : 2 ≤ many ∧ many ≤ 14) (r : Int) (w : World) (R : Ending -> World -> Prop) (hR : R (.returned (.bool (q2p many r))) w) :
 Calls Tryz.prog 12 #[.int .i64 many, .int .i64 r] w R := by
 have HR := lh hR
 obtain ⟨c, hc⟩ := nmm (halfC many)
 have hd : q2p many r = decide ((0 ≤ r ∧ r < c) ∨ (6 ≤ r ∧ r < 6 + many - c)) := by rw [hc]; rfl
 rw [hd] at HR
 have hcc : c = if many / 2 + many % 2 > 6 then 6 else many / 2 + many % 2 := hc
 obtain ⟨h, hh⟩ : ∃ h, h = many / 2 + many % 2 := ⟨_, rfl⟩
 rw [<- hh] at hcc
 have e1 : many.tdiv 2 = many / 2 := by rw [Int.tdiv_eq_ediv_of_nonneg (by omega)]
 have e2 : many.tmod 2 = many % 2 := by rw [Int.tmod_eq_emod_of_nonneg (by omega)]
 have h1 : 1 ≤ h ∧ h ≤ 7 := by omega
 obtain ⟨m0, m1⟩ := hm
 obtain ⟨z, hz⟩ : ∃ z, z = decide ((0 ≤ r ∧ r < c) ∨ (6 ≤ r ∧ r < 6 + many - c)) := ⟨_, rfl⟩
 rw [<- hz] at HR
 have Hz := lh hz
 have hcb : c ≤ 6 ∧ 1 ≤ c := by split at hcc <;> omega
 have e3 : many / 2 + many % 2 = h := hh.symm
 have Hh := lh hh
 clear hR hc hd hz hh
 have hcase : (h > 6 ∧ c = 6) ∨ (¬ h > 6 ∧ c = h) := by
  by_cases h6 : h > 6
  ·rw [if_pos h6] at hcc; exact .inl ⟨h6, hcc⟩
  ·rw [if_neg h6] at hcc; exact .inr ⟨h6, hcc⟩
 have Hcb := lh hcb
 clear hcc hcb
 rcases hcase with ⟨h6, hc6⟩ | ⟨h6, hc6⟩
 ·subst hc6
  rcases (show (0 ≤ r ∧ r < 6) ∨ (0 ≤ r ∧ ¬ r < 6 ∧ 6 ≤ r ∧ r < 6 + many - 6) ∨ (0 ≤ r ∧ ¬ r < 6 ∧ 6 ≤ r ∧ ¬ r < 6 + many - 6) ∨ (¬ 0 ≤ r ∧ ¬ 6 ≤ r) by omega) with ⟨r1, r2⟩ | ⟨r1, r2, r3, r4⟩ | ⟨r1, r2, r3, r4⟩ | ⟨r1, r2⟩
  ·have hzz : z = true := by rw [Hz.out, decide_eq_true_eq]; omega
   subst hzz
   go_enter Tryz.func12, Tryz.ntmps12
   go_wp2
   exact HR.out
  ·have hzz : z = true := by rw [Hz.out, decide_eq_true_eq]; omega
   subst hzz
   go_enter Tryz.func12, Tryz.ntmps12
   go_wp2
   exact HR.out
  ·have hzz : z = false := by rw [Hz.out, decide_eq_false_iff_not]; omega
   subst hzz
   go_enter Tryz.func12, Tryz.ntmps12
   go_wp2
   exact HR.out
  ·have hzz : z = false := by rw [Hz.out, decide_eq_false_iff_not]; omega
   subst hzz
   go_enter Tryz.func12, Tryz.ntmps12
   go_wp2
   exact HR.out
 ·subst hc6
  rcases (show (0 ≤ r ∧ r < c) ∨ (0 ≤ r ∧ ¬ r < c ∧ 6 ≤ r ∧ r < 6 + many - c) ∨ (0 ≤ r ∧ ¬ r < c ∧ 6 ≤ r ∧ ¬ r < 6 + many - c) ∨ (0 ≤ r ∧ ¬ r < c ∧ ¬ 6 ≤ r) ∨ (¬ 0 ≤ r ∧ ¬ 6 ≤ r) by omega) with ⟨r1, r2⟩ | ⟨r1, r2, r3, r4⟩ | ⟨r1, r2, r3, r4⟩ | ⟨r1, r2, r3⟩ | ⟨r1, r2⟩
  ·have hzz : z = true := by rw [Hz.out, decide_eq_true_eq]; omega
   subst hzz
   go_enter Tryz.func12, Tryz.ntmps12
   go_wp2
   exact HR.out
  ·have hzz : z = true := by rw [Hz.out, decide_eq_true_eq]; omega
   subst hzz
   go_enter Tryz.func12, Tryz.ntmps12
   go_wp2
   exact HR.out
  ·have hzz : z = false := by rw [Hz.out, decide_eq_false_iff_not]; omega
   subst hzz
   go_enter Tryz.func12, Tryz.ntmps12
   go_wp2
   exact HR.out
  ·have hzz : z = false := by rw [Hz.out, decide_eq_false_iff_not]; omega
   subst hzz
   go_enter Tryz.func12, Tryz.ntmps12
   go_wp2
   exact HR.out
  ·have hzz : z = false := by rw [Hz.out, decide_eq_false_iff_not]; omega
   subst hzz
   go_enter Tryz.func12, Tryz.ntmps12
   go_wp2
   exact HR.out
end Go.Proofs.YtdanebboiekieaaGreatDoor
