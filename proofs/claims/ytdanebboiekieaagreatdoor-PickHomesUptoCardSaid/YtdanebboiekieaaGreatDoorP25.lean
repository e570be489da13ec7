/- The walks, part 25. -/
import Derived.Test.YtdanebboiekieaaGreatDoorP24
set_option linter.unusedSimpArgs false
set_option linter.unusedVariables false
set_option maxRecDepth 100000
set_option maxHeartbeats 16000000
namespace Go.Proofs.YtdanebboiekieaaGreatDoor
open Go.RowKit
theorem qbz (l : List Int) : ∀ k, (fstAt l k).1 = fst0 l := by
 induction l with
 | nil => exact fun k => rfl
 | cons x l ih =>
   intro k;unfold fstAt fst0
   by_cases h : x = 0
   ·rw [if_pos h, if_pos h, ih]
   ·rw [if_neg h, if_neg h]
theorem q6a (l : List Global) : ∀ m i s, q0n l m i s ≠ (0, 0) -> (q0n l m i s).1 ≠ 0
 | 0, i, s, h => absurd rfl h
 | m + 1, i, s, h => by
   unfold q0n at h ⊢
   cases hg : l[i]? with
   | none => rw [hg] at h; exact absurd rfl h
   | some g =>
     rw [hg] at h;dsimp only at h ⊢
     by_cases h1 : q1b g.name = false
     ·rw [if_pos h1]; simp
     rw [if_neg h1] at h ⊢
     by_cases h2 : (l.take i).any (fun o => decide (o.name = g.name)) = true
     ·rw [if_pos h2]; simp
     rw [if_neg h2] at h ⊢
     by_cases h3 : g.size < 1 ∨ 200 < g.size
     ·rw [if_pos h3]; simp
     rw [if_neg h3] at h ⊢
     by_cases h4 : g.size < g.init.length
     ·rw [if_pos h4]; simp
     rw [if_neg h4] at h ⊢
     by_cases h5 : 200 < s + g.size
     ·rw [if_pos h5]; simp
     rw [if_neg h5] at h ⊢;exact q6a l m _ _ h
theorem qdo {u : Unt} (h : qo u ≠ (0, 0)) : (qo u).1 ≠ 0 := by
 unfold qo at h ⊢
 by_cases h1 : 10 < u.globals.length ∨ 10 < u.funcs.length
 ·rw [if_pos h1]; simp
 rw [if_neg h1] at h ⊢
 by_cases h2 : q0n u.globals u.globals.length 0 0 ≠ (0, 0)
 ·rw [if_pos h2]; exact q6a _ _ _ _ h2
 rw [if_neg h2] at h ⊢
 by_cases h3 : fst0 (q2f u) ≠ 0
 ·rw [if_pos h3, qbz]; exact h3
 rw [if_neg h3] at h ⊢
 by_cases h4 : fst0 (q1q u) ≠ 0
 ·rw [if_pos h4, qbz]; exact h4
 rw [if_neg h4] at h ⊢
 cases h5 : u.funcs.findIdx? fun f => decide (f.name = mainU) with
 | none => simp
 | some i =>
   rw [h5] at h;dsimp only at h ⊢
   cases h6 : u.funcs[i]? with
   | none => simp
   | some f =>
     rw [h6] at h;dsimp only at h ⊢
     by_cases h7 : 0 < f.params
     ·rw [if_pos h7]; simp
     ·rw [if_neg h7] at h; exact absurd rfl h
theorem qdp {u : Unt} {k : Int} (h : q1l u k ≠ (0, 0)) : (q1l u k).1 ≠ 0 := by
 unfold q1l at h ⊢
 by_cases h1 : qo u ≠ (0, 0)
 ·rw [if_pos h1]; exact qdo h1
 rw [if_neg h1] at h ⊢
 by_cases h2 : ¬ (0 ≤ k ∧ k ≤ (u.funcs.length : Int) - 1)
 ·rw [if_pos h2]; simp
 rw [if_neg h2] at h ⊢
 cases h3 : u.funcs[k.toNat]? with
 | none => rw [h3] at h; exact absurd rfl h
 | some f =>
   rw [h3] at h;dsimp only at h ⊢
   by_cases h4 : f.blocks.any q3f = true
   ·rw [if_pos h4]; simp
   ·rw [if_neg h4] at h; exact absurd rfl h
theorem q8b {u : Unt} {k : Int} (h : q1l u k = (0, 0)) : qo u = (0, 0) ∧ ∃ (j : Nat) (f : UFun), k = (j : Int) ∧ u.funcs[j]? = some f ∧ (∀ b ∈ f.blocks, b.phis = []) := by
 unfold q1l at h
 by_cases h1 : qo u ≠ (0, 0)
 ·rw [if_pos h1] at h; exact absurd h h1
 rw [if_neg h1] at h
 by_cases h2 : ¬ (0 ≤ k ∧ k ≤ (u.funcs.length : Int) - 1)
 ·rw [if_pos h2] at h; cases h
 rw [if_neg h2] at h;obtain ⟨j, rfl⟩ : ∃ j : Nat, k = (j : Int) := ⟨k.toNat, by omega⟩;have hj : j < u.funcs.length := by omega
 rw [Int.toNat_natCast, List.getElem?_eq_getElem hj] at h;dsimp only at h;refine ⟨Classical.byContradiction h1, j, u.funcs[j], rfl, List.getElem?_eq_getElem hj, fun b hb => ?_⟩
 by_cases h4 : u.funcs[j].blocks.any q3f = true
 ·rw [if_pos h4] at h; cases h
 ·apply List.eq_nil_of_length_eq_zero;apply Classical.byContradiction;intro hn;exact h4 (List.any_eq_true.2 ⟨b, hb, by unfold q3f; rw [decide_eq_true_eq]; omega⟩)
structure EndOk (regs : Int) (nb : Nat) (e : UEnd) : Prop where
 kind : 1 ≤ e.kind ∧ e.kind ≤ 3
 len : (e.to.length : Int) = e.kind - 1
 tos : ∀ t ∈ e.to, 1 ≤ t ∧ t < (nb : Int)
 two : e.kind = 3 -> e.to[0]? ≠ e.to[1]?
 jump : e.kind = 2 -> isZ e.on = true
 on : ValOk regs e.on
theorem qmx {nb : Nat} {regs : Int} {e : UEnd} (h : endF nb regs e = 0) : EndOk regs nb e := by
 have h0 := q68 h;unfold endF at h
 split at h
 ·simp at h
 rename_i h1
 split at h
 ·simp at h
 rename_i h2
 split at h
 ·simp at h
 split at h
 ·simp at h
 rename_i h4;refine ⟨Classical.byContradiction h1, Classical.byContradiction h2, h0.1, fun hk he => h4 (.inl ⟨hk, he⟩), fun hk => ?_, h0.2⟩
 cases hz : isZ e.on
 ·exact absurd (.inr ⟨hk, hz⟩) h4
 ·rfl
theorem endOk {u : Unt} (h : qo u = (0, 0)) {k : Nat} {f : UFun} (hf : u.funcs[k]? = some f) : ∀ b ∈ f.blocks, EndOk f.regs f.blocks.length b.end_ := by
 intro b hb;have h1 := (q4p h).2.2.2;rw [fst0_zero] at h1;have h2 := h1 (bodyF u f) (List.mem_map.2 ⟨f, List.mem_of_getElem? hf, rfl⟩);unfold bodyF at h2
 by_cases h3 : fst0 (f.blocks.map fun b => endF f.blocks.length f.regs b.end_) ≠ 0
 ·rw [if_pos h3] at h2;exact absurd h2 h3
 ·have h4 := Classical.not_not.1 h3;rw [fst0_zero] at h4;exact qmx (h4 _ (List.mem_map.2 ⟨b, hb, rfl⟩))
theorem qey {u : Unt} (h : qo u = (0, 0)) {k : Nat} {f : UFun} (hf : u.funcs[k]? = some f) : ∀ b ∈ f.blocks, b.end_.to.length ≤ 2 := fun b hb => by
 have h1 := endOk h hf b hb;have := h1.kind;have := h1.len;omega
structure ColOk (u : Unt) (k : Nat) (f : UFun) (n : Nat) (many : Int) (C : Int -> Int -> Bool) (A : Int -> Bool) (L : Nat -> Nat -> Int -> Bool) : Prop where
 ok : qo u = (0, 0)
 fn : u.funcs[k]? = some f
 np : ∀ b ∈ f.blocks, b.phis = []
 tos : ∀ b ∈ f.blocks, b.end_.to.length ≤ 2
 regs : f.regs = (n : Int)
 many : 2 ≤ many ∧ many ≤ 14
 hL : ∀ i k r, L i k r = true ↔ LvI f r i k
 hC : ∀ a b, C a b = true ↔ Clash f a b
 hA : ∀ z, A z = true ↔ q9f f z
def ColIs (u : Unt) (k many : Int) (pl : List Int) (fl : Int × Int) : Prop :=
 (q1l u k ≠ (0, 0) ∧ pl = [] ∧ fl = q1l u k) ∨
 (q1l u k = (0, 0) ∧ ¬ (2 ≤ many ∧ many ≤ 14) ∧ pl = [] ∧ fl = (3, -1)) ∨
 (∃ j f n C A L, k = ((j : Nat) : Int) ∧ ColOk u j f n many C A L ∧ pl = qy f n many C A (L 0 0) ∧ fl = (0, 0))
theorem q8a {α : Type} (P : α -> Prop) : ∃ b : α -> Bool, ∀ x, b x = true ↔ P x := by
 have : ∀ x, ∃ b : Bool, b = true ↔ P x := fun x => by
  by_cases h : P x
  ·exact ⟨true, by simp [h]⟩
  ·exact ⟨false, by simp [h]⟩
 exact ⟨fun x => Classical.choose (this x), fun x => Classical.choose_spec (this x)⟩
theorem ql7 (u : Unt) (k many : Int) : ∃ pl fl, ColIs u k many pl fl := by
 by_cases h1 : q1l u k = (0, 0)
 ·by_cases h2 : 2 ≤ many ∧ many ≤ 14
  ·obtain ⟨hok, j, f, rfl, hf, hnp⟩ := q8b h1;obtain ⟨L, hL⟩ := q8a (fun p : Nat × Nat × Int => LvI f p.2.2 p.1 p.2.1);obtain ⟨C, hC⟩ := q8a (fun p : Int × Int => Clash f p.1 p.2);obtain ⟨A, hA⟩ := q8a (fun z : Int => q9f f z);have hfo := funOk hok hf;obtain ⟨n, hn⟩ : ∃ n : Nat, f.regs = (n : Int) := ⟨f.regs.toNat, by have := hfo.regs; have := hfo.params; omega⟩;exact ⟨_, _, .inr (.inr ⟨j, f, n, fun a b => C (a, b), A, fun i k r => L (i, k, r), rfl, ⟨hok, hf, hnp, qey hok hf, hn, h2, fun i k r => hL (i, k, r), fun a b => hC (a, b), hA⟩, rfl, rfl⟩)⟩
  ·exact ⟨_, _, .inr (.inl ⟨h1, h2, rfl, rfl⟩)⟩
 ·exact ⟨_, _, .inl ⟨h1, rfl, rfl⟩⟩
theorem ColIs.code {u : Unt} {k many : Int} {pl : List Int} {fl : Int × Int} (h : ColIs u k many pl fl) : fl = (0, 0) ∨ (fl.1 ≠ 0 ∧ pl = []) := by
 rcases h with ⟨h1, h2, h3⟩ | ⟨h1, h2, h3, h4⟩ | ⟨_, _, _, _, _, _, _, _, _, h4⟩
 ·right
  rw [h3];exact ⟨qdp h1, h2⟩
 ·right
  rw [h4];exact ⟨by decide, h3⟩
 ·exact .inl h4
theorem q3c {f : UFun} {n : Nat} {many : Int} {C : Int -> Int -> Bool} {A L : Int -> Bool} : (qy f n many C A L).length = n := by
 have hfl : ∀ (xs : List Int) (pl : List Int), (xs.foldl (q4j f many A (rowsC C n)) pl).length = pl.length := fun xs => by
  induction xs with
  | nil => exact fun pl => rfl
  | cons x xs ih => exact fun pl => by rw [List.foldl_cons, ih]; unfold q4j; rw [List.length_set]
 unfold qy;rw [hfl, List.length_replicate]
theorem q7y {u : Unt} (hu : UntI u) {k many : Int} {pl : List Int} {fl : Int × Int} (h : ColIs u k many pl fl) (gA fA : Option Addr) (gn gc fn fc : Nat) (w : World) (hW : Ways w) (hg : rpGlobal.SL w w.heap.size u.globals (.slice gA gn gc)) (hf : rpFun.SL w w.heap.size u.funcs (.slice fA fn fc)) (R : Ending -> World -> Prop)
 (hR : ∀ w' v, Below w.heap.size w w' -> rpInt.SLF w' w.heap.size w'.heap.size pl v -> R (.returned (.tuple #[v, (.agg #[.int .i64 (fl).1, .int .i64 (fl).2])])) w') :
 Calls Tryz.prog 20 #[.agg #[.slice gA gn gc, .slice fA fn fc], .int .i64 k, .int .i64 many] w R := by
 have e2 := hf.len;subst e2
 rcases h with ⟨h1, rfl, rfl⟩ | ⟨h1, h2, rfl, rfl⟩ | ⟨j, f, n, C, A, L, rfl, hc, rfl, rfl⟩
 ·obtain ⟨⟨c, a⟩, hca⟩ : ∃ p, p = q1l u k := ⟨_, rfl⟩;rw [<- hca] at hR h1;exact q7z u hu k many c a hca.symm (fun e => h1 (by rw [e.1, e.2])) _ _ _ _ _ _ w hW hg hf R (fun w' hb => hR w' _ hb (Rp.SLF.nil _ _ _ _))
 ·obtain ⟨hok, j, f, rfl, hfj, hnp⟩ := q8b h1;obtain ⟨L, hL⟩ := q8a (fun p : Nat × Nat × Int => LvI f p.2.2 p.1 p.2.1);obtain ⟨C, hC⟩ := q8a (fun p : Int × Int => Clash f p.1 p.2);have hfo := funOk hok hfj;obtain ⟨n, hn⟩ : ∃ n : Nat, f.regs = (n : Int) := ⟨f.regs.toNat, by have := hfo.regs; have := hfo.params; omega⟩;exact q7j (fun a b => C (a, b)) (fun i k r => L (i, k, r)) u hu hok j f hfj hnp (qey hok hfj) n hn (fun i k r => hL (i, k, r)) (fun a b => hC (a, b)) many h2 _ _ _ _ _ w hW hg hf R (fun w' hb => hR w' _ hb (Rp.SLF.nil _ _ _ _))
 ·refine qb8 C L A u hu hc.ok j f hc.fn hc.np hc.tos n hc.regs hc.hL hc.hC hc.hA many hc.many _ _ _ _ _ w hW hg hf R (fun w' g hb hg hI => ?_);have hn1 : n ≤ 100 := by have := (funOk hc.ok hc.fn).regs.2; have := hc.regs; omega
  have hl : (qy f n many C A (L 0 0)).length = n := q3c;refine hR w' _ hb ?_
  have hI' : IntAt g (qy f n many C A (L 0 0)) (only w' fun k => decide (w.heap.size ≤ k)) := by
   obtain ⟨A, h1, h2⟩ := hI;exact ⟨A, (q46 _ _ _ (decide_eq_true hg)).trans h1, h2⟩
  have := hI'.SL (cp := n) (by rw [hl]; unfold maxLen; omega) (by rw [hl]; exact Nat.le_refl _);rw [hl] at this;have h3 := Rp.SL.more this (B' := w'.heap.size) (by simp [only]);exact h3
def qaw (many p : Int) : Prop := p = -1 ∨ q2e many p = true ∨ (16 ≤ p ∧ p ≤ 116)
theorem qme (t : Int -> Bool) : 16 ≤ slotP t ∧ slotP t ≤ 116 := by
 unfold slotP
 cases hx : (List.range 101).find? fun i : Nat => !t (16 + (i : Int)) with
 | none => simp
 | some j =>
   have := List.mem_of_find?_eq_some hx;rw [List.mem_range] at this;simp only [Option.getD_some];omega
theorem qcm (f : UFun) (many : Int) (ac : Bool) (row pl : List Int) (r : Int) : q2e many (q5f f many ac row pl r) = true ∨ (16 ≤ q5f f many ac row pl r ∧ q5f f many ac row pl r ≤ 116) := by
 unfold q5f
 cases hx : (asksF f pl r ++ q2c many).find? (freeB many ac row pl) with
 | none => exact .inr (qme _)
 | some p =>
   left
   have := List.find?_some hx;unfold freeB at this;rw [Bool.and_eq_true, Bool.and_eq_true] at this;exact this.1.1
theorem q56 {f : UFun} {n : Nat} {many : Int} {C : Int -> Int -> Bool} {A L : Int -> Bool} : ∀ p ∈ qy f n many C A L, qaw many p := by
 have hfl : ∀ (xs : List Int) (pl : List Int), (∀ p ∈ pl, qaw many p) -> ∀ p ∈ xs.foldl (q4j f many A (rowsC C n)) pl, qaw many p := fun xs => by
  induction xs with
  | nil => exact fun pl h => h
  | cons x xs ih =>
    intro pl h;rw [List.foldl_cons];refine ih _ (fun p hp => ?_);unfold q4j at hp
    rcases List.mem_or_eq_of_mem_set hp with h1 | h1
    ·exact h p h1
    ·rw [h1];exact .inr (qcm _ _ _ _ _ _)
 unfold qy;refine hfl _ _ (fun p hp => ?_);rw [List.mem_replicate] at hp;exact .inl hp.2
theorem q69 {many p : Int} (h : q2e many p = true) (hm : 2 ≤ many ∧ many ≤ 14) : 0 ≤ p ∧ p < 14 := by
 unfold q2e halfC at h;rw [decide_eq_true_eq] at h
 split at h <;> omega
theorem q65 {u : Unt} {k many : Int} {pl : List Int} {fl : Int × Int} (h : ColIs u k many pl fl) : ∀ p ∈ pl, -1 ≤ p ∧ p ≤ 116 := by
 rcases h with ⟨h1, rfl, rfl⟩ | ⟨h1, h2, rfl, rfl⟩ | ⟨j, f, n, C, A, L, rfl, hc, rfl, rfl⟩
 ·intro p hp; cases hp
 ·intro p hp; cases hp
 ·intro p hp
  rcases q56 p hp with h | h | h
  ·omega
  ·have := q69 h hc.many;omega
  ·omega
structure PiK where
 PB : Nat
 base : Nat
 a0 : Value
 a1 : Value
 a2 : Value
 a3 : Value
 a4 : Value
 a5 : Value
 a6 : Value
 a8 : Value
 hlt : PB < base
structure PiS (K : PiK) (code : List Mac) (vc : Value) (w : World) : Prop where
 blk : w.heap[K.PB]? = some (.cells #[K.a0, K.a1, K.a2, K.a3, K.a4, K.a5, K.a6, vc, K.a8] 58 (0, 0))
 own : w.ownsRow K.base 45 5 vc code.length (code.flatMap Mac.cells)
 base : K.base ≤ w.heap.size
structure PiG (K : PiK) (w : World) (vc : Value) (w' : World) (vc' : Value) : Prop where
 grew : Grew (fun k => k = K.PB ∨ vc.ownBlock = some k) w w'
 came : ∀ k, vc'.ownBlock = some k -> vc.ownBlock = some k ∨ w.heap.size ≤ k
theorem PiG.refl (K : PiK) (w : World) (vc : Value) : PiG K w vc w vc := ⟨Grew.refl _ _, fun k h => .inl h⟩
theorem PiG.trans {K : PiK} {w w' w'' : World} {vc vc' vc'' : Value} (h : PiG K w vc w' vc') (k : PiG K w' vc' w'' vc'') : PiG K w vc w'' vc'' where
 grew := h.grew.trans k.grew fun j hj e => by
  rcases e with e | e
  ·exact .inl e
  ·rcases h.came j e with h1 | h1
   ·exact .inr h1
   ·omega
 came := fun j e => by
  rcases k.came j e with h1 | h1
  ·exact h.came j h1
  ·exact .inr (Nat.le_trans h.grew.size h1)
theorem PiG.below {K : PiK} {B : Nat} {code : List Mac} {w w' : World} {vc vc' : Value} (h : PiG K w vc w' vc') (hs : PiS K code vc w) (hB : B ≤ K.PB) : Below B w w' :=
 h.grew.below (fun k hk e => by
  rcases e with e | e
  ·omega
  ·have := (hs.own.lt k e).1;have := K.hlt;omega) (by have := K.hlt; have := hs.base; omega)
theorem PiS.below {K : PiK} {code : List Mac} {w w' : World} {vc : Value} (h : PiS K code vc w) (hb : Below w.heap.size w w') : PiS K code vc w' where
 blk := (hb.block _ (qa h.blk)).trans h.blk
 own := q0d h.own hb
 base := Nat.le_trans h.base hb.size
theorem PiG.of_below {K : PiK} {w w' : World} {vc : Value} (hb : Below w.heap.size w w') : PiG K w vc w' vc := ⟨Grew.of_below hb (fun k h1 h2 => absurd h1 (by omega)), fun k h => .inl h⟩
theorem q0x {w : World} {b : Nat} {v0 v1 v2 v3 v4 v5 v6 v7 v8 : Value} {T : TypeId} (h : w.heap[b]? = some (.cells #[v0, v1, v2, v3, v4, v5, v6, v7, v8] T (0, 0))) :
 w.cell? ⟨b, 0, none⟩ = some v0 ∧ w.cell? ⟨b, 1, none⟩ = some v1 ∧ w.cell? ⟨b, 2, none⟩ = some v2 ∧ w.cell? ⟨b, 3, none⟩ = some v3 ∧ w.cell? ⟨b, 4, none⟩ = some v4 ∧ w.cell? ⟨b, 5, none⟩ = some v5 ∧ w.cell? ⟨b, 6, none⟩ = some v6 ∧ w.cell? ⟨b, 7, none⟩ = some v7 ∧ w.cell? ⟨b, 8, none⟩ = some v8 := by
 refine ⟨?_, ?_, ?_, ?_, ?_, ?_, ?_, ?_, ?_⟩ <;> (rw [qb h]; rfl)
theorem qjl {w : World} {b : Nat} {v0 v1 v2 v3 v4 v5 v6 v7 v8 : Value} {T : TypeId} (h : w.heap[b]? = some (.cells #[v0, v1, v2, v3, v4, v5, v6, v7, v8] T (0, 0))) (u : Value) :
 (w.setCell ⟨b, 7, none⟩ u).heap[b]? = some (.cells #[v0, v1, v2, v3, v4, v5, v6, u, v8] T (0, 0)) := by
 rw [q0h h];rfl
theorem q00 (K : PiK) (code : List Mac) (vc : Value) (m : Mac) (w : World) (h : PiS K code vc w) (hc : code.length ≤ 100000) (R : Ending -> World -> Prop)
 (hR : ∀ w' vc', PiS K (code ++ [m]) vc' w' -> PiG K w vc w' vc' -> R (.returned (.tuple #[])) w') :
 Calls Tryz.prog 55 #[.pointer (some ⟨K.PB, 0, none⟩), .agg #[.int .i64 m.op, .int .i64 m.dst, .int .i64 m.a, .int .i64 m.b, .int .i64 m.n]] w R := by
 obtain ⟨i0, hi0, hz0, hz1, hz2⟩ := info_parts q7o;obtain ⟨HR, HS⟩ := lh2 hR h;have hlt := K.hlt;have hbs := h.base;obtain ⟨A, c, hv⟩ := qj h.own;subst hv;obtain ⟨k0, k1, k2, k3, k4, k5, k6, k7, k8⟩ := q0x h.blk;have lP := qa h.blk;have fP : ∀ W : World, Below w.heap.size w W -> W.frozen? ⟨K.PB, 7, none⟩ = false := fun W hW => by simp [World.frozen?, (hW.block _ (qa HS.out.blk)).trans HS.out.blk]
 have HfP := lh fP;clear hR h fP k0 k1 k2 k3 k4 k5 k6 k8
 have HX : Hid (((w.alloc (Obj.cells #[.int .i64 m.op, .int .i64 m.dst, .int .i64 m.a, .int .i64 m.b, .int .i64 m.n] 45)).alloc (Obj.cells #[.int .i64 m.op, .int .i64 m.dst, .int .i64 m.a, .int .i64 m.b, .int .i64 m.n] 45)).heap[w.heap.size + 1]? = some (.cells #[.int .i64 m.op, .int .i64 m.dst, .int .i64 m.a, .int .i64 m.b, .int .i64 m.n] 45 (0, 0))) := lh (by
  have h0 := heap_alloc_new (w.alloc (Obj.cells #[.int .i64 m.op, .int .i64 m.dst, .int .i64 m.a, .int .i64 m.b, .int .i64 m.n] 45)) (Obj.cells #[.int .i64 m.op, .int .i64 m.dst, .int .i64 m.a, .int .i64 m.b, .int .i64 m.n] 45);simpa using h0)
 go_enter Tryz.func55, Tryz.ntmps55
 go_upto_region 1 with fail
 go_region_law ((refine step_append_lies _ rfl (.tmp 8) (.tmp 10) 35 rfl K.base 45 i0 _ 5 40 Tryz.underlying35 hi0 hz0 hz1 hz2 rfl (by decide) (.slice A code.length c) code.length (code.flatMap Mac.cells) (by simp [Act.eval, Act.put]) (q0d HS.out.own (by exact bl0)) ⟨w.heap.size + 1, 0, none⟩ 1 1 m.cells (by simp [Act.eval, Act.put]) rfl (World.news_of_block (cs := #[.int .i64 m.op, .int .i64 m.dst, .int .i64 m.a, .int .i64 m.b, .int .i64 m.n]) (t := 45) (fr := (0, 0)) (by exact HX.out)) (by simp [Mac.cells, Value.oneCell']) (by decide) (by unfold maxLen; omega) (by omega) (by simp; omega) _ rfl ?_; intro g1 cap1 w1 hown1 hgrow1 hat1 hlt1; have hP1 : w1.heap[K.PB]? = some (.cells #[K.a0, K.a1, K.a2, K.a3, K.a4, K.a5, K.a6, .slice A code.length c, K.a8] 58 (0, 0)) := (hgrow1.block K.PB (by simp; omega) (fun e => by have h9 := (HS.out.own.lt _ e.symm).1; omega)).trans ((Below.block (by exact bl0 : Below w.heap.size w _) _ lP).trans HS.out.blk); have c7 : w1.cell? ⟨K.PB, 7, none⟩ = some (.slice A code.length c) := (by rw [qb hP1]; rfl); have f7 : w1.frozen? ⟨K.PB, 7, none⟩ = false := (by simp [World.frozen?, hP1]); have l7 := qa hP1))
 all_goals
  have hlf : ∀ k, (Value.slice A code.length c).ownBlock = some k -> K.base ≤ k := fun k e => (HS.out.own.lt k e).1;have hg1 : Grew (fun k => k = K.PB ∨ (Value.slice A code.length c).ownBlock = some k) w w1 := (Grew.of_below (by exact bl0 : Below w.heap.size w _) (fun k h1 h2 => absurd h1 (by omega))).trans (Grew.of_grown hgrow1) (fun j hj e => .inr e);have hg2 := hg1.setCell ⟨K.PB, 7, none⟩ (.inl (.inl rfl)) (.slice (some ⟨g1, 0, none⟩) (code.length + 1) cap1);have hP2 := qjl hP1 (.slice (some ⟨g1, 0, none⟩) (code.length + 1) cap1)
  have hO1 : w1.ownsRow K.base 45 5 (.slice (some ⟨g1, 0, none⟩) (code.length + 1) cap1) (code ++ [m]).length ((code ++ [m]).flatMap Mac.cells) := by
   rw [List.length_append, List.flatMap_append];simpa using hown1
  have hO2 := ql hO1 (p := ⟨K.PB, 7, none⟩) (fun e => by have h9 : K.base ≤ K.PB := (hO1.lt _ e).1; omega) (.slice (some ⟨g1, 0, none⟩) (code.length + 1) cap1)
  have hcm : ∀ k, (Value.slice (some ⟨g1, 0, none⟩) (code.length + 1) cap1).ownBlock = some k -> (Value.slice A code.length c).ownBlock = some k ∨ w.heap.size ≤ k := fun k e => by
   have e1 : g1 = k := by injection e
   rcases hat1 with h9 | h9
   ·exact .inl (by rw [h9, e1])
   ·refine .inr ?_;rw [<- e1, h9];simp;omega
  have hz2 : K.base ≤ (w1.setCell ⟨K.PB, 7, none⟩ (.slice (some ⟨g1, 0, none⟩) (code.length + 1) cap1)).heap.size := Nat.le_trans hbs hg2.size;have HF := lh (HR.out _ _ ⟨hP2, hO2, hz2⟩ ⟨hg2, hcm⟩);clear hP2 hO2 hz2 hg2 hcm hO1 hg1 hgrow1 hat1 hown1 hP1;refine bodyPost_ret (results_none rfl _ _ _) rfl ?_;exact HF.out
def q0k (t f : Int) : List Mac :=
 if t = f then [] else if t < 16 ∧ f < 16 then [⟨2, t, f, 0, 0⟩] else if t < 16 then [⟨35, t, 0, 0, f - 16⟩] else if f < 16 then [⟨36, 0, f, 0, t - 16⟩] else [⟨35, 14, 0, 0, f - 16⟩, ⟨36, 0, 14, 0, t - 16⟩]
theorem q59 (t f : Int) : (q0k t f).length ≤ 2 := by
 unfold q0k
 repeat' split
 all_goals simp
theorem q0u (p : Int) (hp : -1000000 ≤ p ∧ p ≤ 1000000) (w : World) (R : Ending -> World -> Prop) (hR : R (.returned (.tuple #[.int .i64 (p - 16), .bool (decide (16 ≤ p))])) w) :
 Calls Tryz.prog 92 #[.int .i64 p] w R := by
 have HR := lh hR;obtain ⟨p1, p2⟩ := hp;clear hR
 by_cases h : 16 ≤ p
 ·have h' : p ≥ 16 := h;rw [decide_eq_true h] at HR
  go_enter Tryz.func92, Tryz.ntmps92
  go_wp2;exact HR.out
 ·have h' : ¬ p ≥ 16 := h;rw [decide_eq_false h] at HR
  go_enter Tryz.func92, Tryz.ntmps92
  go_wp2;exact HR.out
theorem q4b (K : PiK) (code : List Mac) (vc : Value) (t f : Int) (ht : -1000000 ≤ t ∧ t ≤ 1000000) (hf : -1000000 ≤ f ∧ f ≤ 1000000) (w : World) (h : PiS K code vc w) (hc : code.length ≤ 99000) (R : Ending -> World -> Prop)
 (hR : ∀ w' vc', PiS K (code ++ q0k t f) vc' w' -> PiG K w vc w' vc' -> R (.returned (.tuple #[])) w') :
 Calls Tryz.prog 57 #[.pointer (some ⟨K.PB, 0, none⟩), .int .i64 t, .int .i64 f] w R := by
 obtain ⟨HR, HS, Ht, Hf⟩ := lh4 hR h ht hf;obtain ⟨t1, t2⟩ := ht;obtain ⟨f1, f2⟩ := hf;have lP : K.PB < w.heap.size := qa h.blk;clear hR h
 by_cases htf : t = f
 ·rw [q0k, if_pos htf, List.append_nil] at HR;subst htf;obtain ⟨b, hb⟩ : ∃ b, b = decide (16 ≤ t) := ⟨_, rfl⟩;have Hb := lh hb;clear hb
  go_enter Tryz.func57, Tryz.ntmps57
  go_wp2_with fail
  refine q0u t Ht.out _ _ ?_;rw [<- Hb.out]
  go_wp2_with fail
  refine q0u t Ht.out _ _ ?_;rw [<- Hb.out];go_wp2;refine bodyPost_ret (results_none rfl _ _ _) rfl ?_;exact HR.out _ _ HS.out (PiG.refl _ _ _)
 have e16 : ∀ x : Int, (¬ 16 ≤ x) = (x < 16) := fun x => by rw [Int.not_le]
 by_cases ht : 16 ≤ t
 ·have dt := decide_eq_true ht;have Hdt := lh dt;clear dt
  by_cases hf : 16 ≤ f
  ·have hdf := lh (decide_eq_true hf);have e : q0k t f = [⟨35, 14, 0, 0, f - 16⟩, ⟨36, 0, 14, 0, t - 16⟩] := by rw [q0k, if_neg htf, if_neg (by omega), if_neg (by omega), if_neg (by omega)]
   rw [e] at HR;clear e ht hf e16
   go_enter Tryz.func57, Tryz.ntmps57
   go_wp2_with fail
   refine q0u t Ht.out _ _ ?_;rw [Hdt.out]
   go_wp2_with fail
   refine q0u f Hf.out _ _ ?_;rw [hdf.out]
   go_wp2_with fail
   refine q00 K code vc ⟨35, 14, 0, 0, f - 16⟩ _ HS.out (by omega) _ (fun w1 v1 hs1 hg1 => ?_);obtain ⟨HS1, HG1⟩ := lh2 hs1 hg1;clear hs1 hg1
   go_wp2_with fail
   refine q00 K _ v1 ⟨36, 0, 14, 0, t - 16⟩ _ HS1.out (by rw [List.length_append, List.length_singleton]; omega) _ (fun w2 v2 hs2 hg2 => ?_);have HF := lh (HR.out w2 v2 (by have h1 := hs2; rw [List.append_assoc] at h1; exact h1) (HG1.out.trans hg2));clear hs2 hg2;go_wp2;refine bodyPost_ret (results_none rfl _ _ _) rfl ?_;exact HF.out
  ·have hdf := lh (decide_eq_false hf);have e : q0k t f = [⟨36, 0, f, 0, t - 16⟩] := by rw [q0k, if_neg htf, if_neg (by omega), if_neg (by omega), if_pos (by omega)]
   rw [e] at HR;clear e ht hf e16
   go_enter Tryz.func57, Tryz.ntmps57
   go_wp2_with fail
   refine q0u t Ht.out _ _ ?_;rw [Hdt.out]
   go_wp2_with fail
   refine q0u f Hf.out _ _ ?_;rw [hdf.out]
   go_wp2_with fail
   refine q00 K code vc ⟨36, 0, f, 0, t - 16⟩ _ HS.out (by omega) _ (fun w1 v1 hs1 hg1 => ?_);have HF := lh (HR.out w1 v1 hs1 hg1);clear hs1 hg1;go_wp2;refine bodyPost_ret (results_none rfl _ _ _) rfl ?_;exact HF.out
 ·have Hdt := lh (decide_eq_false ht)
  by_cases hf : 16 ≤ f
  ·have hdf := lh (decide_eq_true hf);have e : q0k t f = [⟨35, t, 0, 0, f - 16⟩] := by rw [q0k, if_neg htf, if_neg (by omega), if_pos (by omega)]
   rw [e] at HR;clear e ht hf e16
   go_enter Tryz.func57, Tryz.ntmps57
   go_wp2_with fail
   refine q0u t Ht.out _ _ ?_;rw [Hdt.out]
   go_wp2_with fail
   refine q0u f Hf.out _ _ ?_;rw [hdf.out]
   go_wp2_with fail
   refine q00 K code vc ⟨35, t, 0, 0, f - 16⟩ _ HS.out (by omega) _ (fun w1 v1 hs1 hg1 => ?_);have HF := lh (HR.out w1 v1 hs1 hg1);clear hs1 hg1;go_wp2;refine bodyPost_ret (results_none rfl _ _ _) rfl ?_;exact HF.out
  ·have hdf := lh (decide_eq_false hf);have e : q0k t f = [⟨2, t, f, 0, 0⟩] := by rw [q0k, if_neg htf, if_pos (by omega)]
   rw [e] at HR;clear e ht hf e16
   go_enter Tryz.func57, Tryz.ntmps57
   go_wp2_with fail
   refine q0u t Ht.out _ _ ?_;rw [Hdt.out]
   go_wp2_with fail
   refine q0u f Hf.out _ _ ?_;rw [hdf.out]
   go_wp2_with fail
   refine q00 K code vc ⟨2, t, f, 0, 0⟩ _ HS.out (by omega) _ (fun w1 v1 hs1 hg1 => ?_);have HF := lh (HR.out w1 v1 hs1 hg1);clear hs1 hg1;go_wp2;refine bodyPost_ret (results_none rfl _ _ _) rfl ?_;exact HF.out
def plAt (pl : List Int) (r : Int) : Int := pl.getD r.toNat 0
def heldL (pl : List Int) (v : UVal) (h : Int) : List Mac × Int :=
 if v.reg = false then ([⟨1, h, 0, 0, v.n⟩], h) else if plAt pl v.n < 16 then ([], plAt pl v.n) else ([⟨35, h, 0, 0, plAt pl v.n - 16⟩], h)
theorem q0y (pl : List Int) (v : UVal) (h : Int) : (heldL pl v h).1.length ≤ 1 := by
 unfold heldL
 repeat' split
 all_goals simp
structure PiP (K : PiK) (pl : List Int) (w : World) : Prop where
 at_ : rpInt.SL w K.PB pl K.a4
 small : ∀ p ∈ pl, -1 ≤ p ∧ p ≤ 1000
theorem PiP.below {K : PiK} {pl : List Int} {w w' : World} (h : PiP K pl w) (hb : Below K.PB w w') : PiP K pl w' := ⟨h.at_.mono fun p u hp hc => (hb.cell hp).trans hc, h.small⟩
theorem PiP.step {K : PiK} {pl : List Int} {code : List Mac} {w w' : World} {vc vc' : Value} (h : PiP K pl w) (hs : PiS K code vc w) (hg : PiG K w vc w' vc') : PiP K pl w' := h.below (hg.below hs (Nat.le_refl _))
theorem PiP.cell {K : PiK} {pl : List Int} {w : World} (h : PiP K pl w) {r : Int} (h0 : 0 ≤ r) (h1 : r < (pl.length : Int)) : ∃ b off c k, K.a4 = .slice (some ⟨b, off, none⟩) pl.length c ∧ b < K.PB ∧ r = ((k : Nat) : Int) ∧ w.cell? ⟨b, off + k, none⟩ = some (.int .i64 (plAt pl r)) ∧ (-1 ≤ plAt pl r ∧ plAt pl r ≤ 1000) := by
 obtain ⟨A, c, hv, hm, hc, hs⟩ := h.at_.cases_;obtain ⟨k, rfl⟩ : ∃ k : Nat, r = (k : Int) := ⟨r.toNat, by omega⟩;have hk : k < pl.length := by omega
 obtain ⟨b, off, rfl, hb, hcell⟩ := hs.int_at hk;refine ⟨b, off, c, k, hv, hb, rfl, hcell, ?_⟩
 have e : plAt pl (k : Int) = pl[k] := by
  unfold plAt;rw [Int.toNat_natCast, List.getD_eq_getElem?_getD, List.getElem?_eq_getElem hk];rfl
 rw [e];exact h.small _ (List.getElem_mem hk)
theorem q2o (K : PiK) (code : List Mac) (vc : Value) (pl : List Int) (v : UVal) (hp : Int) (w : World) (h : PiS K code vc w) (hP : PiP K pl w) (hv : v.reg = true -> 0 ≤ v.n ∧ v.n < (pl.length : Int)) (hc : code.length ≤ 99000) (R : Ending -> World -> Prop)
 (hR : ∀ w' vc', PiS K (code ++ (heldL pl v hp).1) vc' w' -> PiG K w vc w' vc' -> R (.returned (.int .i64 (heldL pl v hp).2)) w') :
 Calls Tryz.prog 59 #[.pointer (some ⟨K.PB, 0, none⟩), .agg #[.bool v.reg, .int .i64 v.n], .int .i64 hp] w R := by
 obtain ⟨HR, HS, HP, Hv⟩ := lh4 hR h hP hv;have lP : K.PB < w.heap.size := qa h.blk;clear hR h hP hv
 cases hr : v.reg with
 | false =>
   have e : heldL pl v hp = ([⟨1, hp, 0, 0, v.n⟩], hp) := by rw [heldL, if_pos hr]
   rw [e] at HR;dsimp only at HR;clear e
   go_enter Tryz.func59, Tryz.ntmps59
   go_wp2_with fail
   have hb0 : Below w.heap.size w (w.alloc (Obj.cells #[.bool false, .int .i64 v.n] 64)) := by exact bl0
   refine q00 K code vc ⟨1, hp, 0, 0, v.n⟩ _ (HS.out.below hb0) (by omega) _ (fun w1 v1 hs1 hg1 => ?_);have HF := lh (HR.out w1 v1 hs1 ((PiG.of_below hb0).trans hg1));clear hs1 hg1 hb0;go_wp2;exact HF.out
 | true =>
   obtain ⟨n0, n1⟩ := Hv.out hr;obtain ⟨b, off, c, k, ha4, hb, hk, hcell, hp0, hp1⟩ := HP.out.cell n0 n1;have hS := (q0x HS.out.blk).2.2.2.2.1;rw [ha4] at hS;have lb : b < w.heap.size := Nat.lt_trans hb lP;obtain ⟨x, hx⟩ := nmm (plAt pl v.n);have hw := q0u x (by rw [hx]; omega);rw [<- hx] at hcell;obtain ⟨Hx, Hw, Hr⟩ := lh3 hx hw hr;rw [hk] at n0 n1 ⊢;have Hk := lh hk;clear hw hk hx ha4 hp0 hp1 hr
   by_cases h16 : x < 16
   ·have e : heldL pl v hp = ([], x) := by rw [heldL, if_neg (by rw [Hr.out]; decide), if_pos (by rw [<- Hx.out]; exact h16), <- Hx.out]
    have Hd := lh (decide_eq_false (show ¬ 16 ≤ x by omega));rw [e] at HR;dsimp only at HR;rw [List.append_nil] at HR;clear e h16
    go_enter Tryz.func59, Tryz.ntmps59
    go_upto_region 4 with fail
    go_big_quiet (fail)
    have Hb0 : Hid (Below w.heap.size w _) := lh (qm (by exact bl0 : Below w.heap.size w (w.alloc (Obj.cells #[.bool true, .int .i64 (k : Int)] 64))) nq)
    go_wp2_with fail
    refine Hw.out _ _ ?_;rw [Hd.out];have HF := lh (HR.out _ _ (HS.out.below Hb0.out) (PiG.of_below Hb0.out));go_wp2;exact HF.out
   ·have e : heldL pl v hp = ([⟨35, hp, 0, 0, x - 16⟩], hp) := by rw [heldL, if_neg (by rw [Hr.out]; decide), if_neg (by rw [<- Hx.out]; exact h16), <- Hx.out]
    have Hd := lh (decide_eq_true (show 16 ≤ x by omega));rw [e] at HR;dsimp only at HR;clear e h16
    go_enter Tryz.func59, Tryz.ntmps59
    go_upto_region 4 with fail
    go_big_quiet (fail)
    have Hb0 : Hid (Below w.heap.size w _) := lh (qm (by exact bl0 : Below w.heap.size w (w.alloc (Obj.cells #[.bool true, .int .i64 (k : Int)] 64))) nq)
    go_wp2_with fail
    refine Hw.out _ _ ?_;rw [Hd.out]
    go_wp2_with fail
    refine q00 K code vc ⟨35, hp, 0, 0, x - 16⟩ _ (HS.out.below Hb0.out) (by omega) _ (fun w1 v1 hs1 hg1 => ?_);have HF := lh (HR.out w1 v1 hs1 ((PiG.of_below Hb0.out).trans hg1));clear hs1 hg1;go_wp2;exact HF.out
def toldL (pl : List Int) (m : Mac) (r : Int) : List Mac :=
 if plAt pl r < 16 then [⟨m.op, plAt pl r, m.a, m.b, m.n⟩] else [⟨m.op, 14, m.a, m.b, m.n⟩, ⟨36, 0, 14, 0, plAt pl r - 16⟩]
theorem qkl (pl : List Int) (m : Mac) (r : Int) : (toldL pl m r).length ≤ 2 := by
 unfold toldL
 split
 all_goals simp
theorem q2m (K : PiK) (code : List Mac) (vc : Value) (pl : List Int) (m : Mac) (r : Int) (w : World) (h : PiS K code vc w) (hP : PiP K pl w) (n0 : 0 ≤ r) (n1 : r < (pl.length : Int)) (hc : code.length ≤ 99000) (R : Ending -> World -> Prop)
 (hR : ∀ w' vc', PiS K (code ++ toldL pl m r) vc' w' -> PiG K w vc w' vc' -> R (.returned (.tuple #[])) w') :
 Calls Tryz.prog 58 #[.pointer (some ⟨K.PB, 0, none⟩), .agg #[.int .i64 m.op, .int .i64 m.dst, .int .i64 m.a, .int .i64 m.b, .int .i64 m.n], .int .i64 r] w R := by
 obtain ⟨HR, HS⟩ := lh2 hR h;have lP : K.PB < w.heap.size := qa h.blk;obtain ⟨b, off, c, k, ha4, hb, hk, hcell, hp0, hp1⟩ := hP.cell n0 n1;have hS := (q0x h.blk).2.2.2.2.1;rw [ha4] at hS;have lb : b < w.heap.size := Nat.lt_trans hb lP;obtain ⟨x, hx⟩ := nmm (plAt pl r);have hw := q0u x (by rw [hx]; omega);rw [<- hx] at hcell;obtain ⟨Hx, Hw⟩ := lh2 hx hw;have Hb1 : ∀ u : Value, Hid (Below w.heap.size w (w.alloc (Obj.cells #[.int .i64 m.op, u, .int .i64 m.a, .int .i64 m.b, .int .i64 m.n] 45))) := fun u => lh (by exact bl0);subst hk;clear hw hx ha4 hp0 hp1 hR h hP
 by_cases h16 : x < 16
 ·have e : toldL pl m (k : Int) = [⟨m.op, x, m.a, m.b, m.n⟩] := by rw [toldL, if_pos (by rw [<- Hx.out]; exact h16), <- Hx.out]
  have Hd := lh (decide_eq_false (show ¬ 16 ≤ x by omega));rw [e] at HR;clear e h16
  go_enter Tryz.func58, Tryz.ntmps58
  go_wp2_with fail
  refine Hw.out _ _ ?_;rw [Hd.out]
  go_wp2_with fail
  refine q00 K code vc ⟨m.op, x, m.a, m.b, m.n⟩ _ (HS.out.below (Hb1 _).out) (by omega) _ (fun w1 v1 hs1 hg1 => ?_);have HF := lh (HR.out w1 v1 hs1 ((PiG.of_below (Hb1 _).out).trans hg1));clear hs1 hg1;go_wp2;refine bodyPost_ret (results_none rfl _ _ _) rfl ?_;exact HF.out
 ·have e : toldL pl m (k : Int) = [⟨m.op, 14, m.a, m.b, m.n⟩, ⟨36, 0, 14, 0, x - 16⟩] := by rw [toldL, if_neg (by rw [<- Hx.out]; exact h16), <- Hx.out]
  have Hd := lh (decide_eq_true (show 16 ≤ x by omega));rw [e] at HR;clear e h16
  go_enter Tryz.func58, Tryz.ntmps58
  go_wp2_with fail
  refine Hw.out _ _ ?_;rw [Hd.out]
  go_wp2_with fail
  refine q00 K code vc ⟨m.op, 14, m.a, m.b, m.n⟩ _ (HS.out.below (Hb1 _).out) (by omega) _ (fun w1 v1 hs1 hg1 => ?_);have HS1 := lh hs1;have HG1 := lh ((PiG.of_below (Hb1 _).out).trans hg1);clear hs1 hg1
  go_wp2_with fail
  refine q00 K _ v1 ⟨36, 0, 14, 0, x - 16⟩ _ HS1.out (by rw [List.length_append, List.length_singleton]; omega) _ (fun w2 v2 hs2 hg2 => ?_);have HF := lh (HR.out w2 v2 (by have h1 := hs2; rw [List.append_assoc] at h1; exact h1) (HG1.out.trans hg2));clear hs2 hg2;go_wp2;refine bodyPost_ret (results_none rfl _ _ _) rfl ?_;exact HF.out
theorem PiG.keep {K : PiK} {w w' : World} {vc vc' : Value} (h : PiG K w vc w' vc') {k : Nat} (hk : k < w.heap.size) (h1 : k ≠ K.PB) (h2 : vc.ownBlock ≠ some k) : w'.heap[k]? = w.heap[k]? :=
 h.grew.block k hk (fun e => by
  rcases e with e | e
  ·exact h1 e
  ·exact h2 e)
theorem PiG.apart {K : PiK} {w w' : World} {vc vc' : Value} (h : PiG K w vc w' vc') {k : Nat} (hk : k < w.heap.size) (h2 : vc.ownBlock ≠ some k) : vc'.ownBlock ≠ some k := fun e => by
 rcases h.came k e with h3 | h3
 ·exact h2 h3
 ·omega
theorem PiS.apart {K : PiK} {code : List Mac} {w : World} {vc : Value} (h : PiS K code vc w) {k : Nat} (hk : w.heap.size ≤ k) : vc.ownBlock ≠ some k := fun e => by
 have := (h.own.lt k e).2;omega
def twoL (pl : List Int) (x : UIns) : List Mac :=
 (heldL pl x.a 14).1 ++ (if x.b.reg = false then toldL pl ⟨x.op + 17, 0, (heldL pl x.a 14).2, 0, x.b.n⟩ x.dst else (heldL pl x.b 15).1 ++ toldL pl ⟨x.op + 3, 0, (heldL pl x.a 14).2, (heldL pl x.b 15).2, 0⟩ x.dst)
theorem qkm (K : PiK) (code : List Mac) (vc : Value) (pl : List Int) (x : UIns) (va : Value) (w : World) (h : PiS K code vc w) (hP : PiP K pl w) (ha : x.a.reg = true -> 0 ≤ x.a.n ∧ x.a.n < (pl.length : Int)) (hb : x.b.reg = true -> 0 ≤ x.b.n ∧ x.b.n < (pl.length : Int)) (hd : 0 ≤ x.dst ∧ x.dst < (pl.length : Int)) (hop : 0 ≤ x.op ∧ x.op ≤ 1000) (hc : code.length ≤ 98000) (R : Ending -> World -> Prop)
 (hR : ∀ w' vc', PiS K (code ++ twoL pl x) vc' w' -> PiG K w vc w' vc' -> R (.returned (.tuple #[])) w') :
 Calls Tryz.prog 61 #[.pointer (some ⟨K.PB, 0, none⟩), .agg #[.int .i64 x.op, .int .i64 x.dst, .bool x.a.reg, .int .i64 x.a.n, .bool x.b.reg, .int .i64 x.b.n, .int .i64 x.fn, va]] w R := by
 obtain ⟨HR, HS, HP, Ha, Hb, Hd⟩ := lh6 hR h hP ha hb hd;have lP : K.PB < w.heap.size := qa h.blk;have hbase := h.base;have hlt := K.hlt;obtain ⟨o0, o1⟩ := hop;clear hR h hP ha hb hd
 go_enter Tryz.func61, Tryz.ntmps61
 go_upto_region 1 with fail
 obtain ⟨W0, hW0, hb0, hX0⟩ := box1 w (.cells #[.int .i64 x.op, .int .i64 x.dst, .bool x.a.reg, .int .i64 x.a.n, .bool x.b.reg, .int .i64 x.b.n, .int .i64 x.fn, va] 71) rfl;rw [<- hW0];have HS0 := lh (HS.out.below hb0);have HP0 := lh (HP.out.below (hb0.mono (Nat.le_of_lt lP)));have hap0 := HS.out.apart (Nat.le_refl w.heap.size);have HG0 := lh (PiG.of_below (K := K) (vc := vc) hb0);have HX0 := lh hX0;have lX := qa hX0;obtain ⟨x0, x1, x2, x3, x4, x5, x6, x7⟩ := qe hX0;have hne : w.heap.size ≠ K.PB := by omega
 clear hW0 hb0 hX0
 go_wp2_with fail
 refine q2o K code vc pl x.a 14 _ HS0.out HP0.out Ha.out (by omega) _ (fun w1 v1 hs1 hg1 => ?_);have HX1 := lh ((hg1.keep lX hne hap0).trans HX0.out);have hap1 := hg1.apart lX hap0;have HP1 := lh (HP0.out.step HS0.out hg1);have HG1 := lh (HG0.out.trans hg1);have HS1 := lh hs1;have hl1 := q0y pl x.a 14;obtain ⟨ca, hca⟩ : ∃ ca, ca = (heldL pl x.a 14).1 := ⟨_, rfl⟩;obtain ⟨a, haa⟩ : ∃ a, a = (heldL pl x.a 14).2 := ⟨_, rfl⟩;rw [<- hca] at HS1 hl1;rw [<- haa];obtain ⟨HCA, HAA⟩ := lh2 hca haa;clear hs1 hg1 x0 x1 x2 x3 x4 x5 x6 x7 lX hca haa;obtain ⟨x0, x1, x2, x3, x4, x5, x6, x7⟩ := qe HX1.out;have lX := qa HX1.out;have ew1 : IntKind.i64.wrap (x.op - 2 + 19) = x.op + 17 := (IntWalk.i64_in _ (by omega)).trans (by omega);have ew2 : IntKind.i64.wrap (x.op - 2 + 5) = x.op + 3 := (IntWalk.i64_in _ (by omega)).trans (by omega)
 cases hbr : x.b.reg with
 | false =>
   have e : twoL pl x = ca ++ toldL pl ⟨x.op + 17, 0, a, 0, x.b.n⟩ x.dst := by rw [twoL, if_pos hbr, <- HCA.out, <- HAA.out]
   rw [e] at HR;rw [hbr] at x4;clear e hbr
   go_wp2_with fail
   refine q2m K _ v1 pl ⟨x.op + 17, 0, a, 0, x.b.n⟩ x.dst _ HS1.out HP1.out Hd.out.1 Hd.out.2 (by rw [List.length_append]; omega) _ (fun w2 v2 hs2 hg2 => ?_);have HF := lh (HR.out w2 v2 (by have h1 := hs2; rw [List.append_assoc] at h1; exact h1) (HG1.out.trans hg2));clear hs2 hg2;go_wp2;refine bodyPost_ret (results_none rfl _ _ _) rfl ?_;exact HF.out
 | true =>
   obtain ⟨cb, hcb⟩ : ∃ cb, cb = (heldL pl x.b 15).1 := ⟨_, rfl⟩;obtain ⟨b, hbb⟩ : ∃ b, b = (heldL pl x.b 15).2 := ⟨_, rfl⟩;have e : twoL pl x = ca ++ (cb ++ toldL pl ⟨x.op + 3, 0, a, b, 0⟩ x.dst) := by rw [twoL, if_neg (by rw [hbr]; decide), <- HCA.out, <- HAA.out, <- hcb, <- hbb]
   rw [e] at HR;have hl2 := q0y pl x.b 15;have hin := q2o K (code ++ ca) v1 pl x.b 15 w1 HS1.out HP1.out Hb.out (by rw [List.length_append]; omega);rw [<- hcb, <- hbb, hbr] at hin;rw [<- hcb] at hl2;rw [hbr] at x4;have Hin := lh hin;clear e hbr hcb hbb hin
   go_wp2_with fail
   refine Hin.out _ (fun w2 v2 hs2 hg2 => ?_);have HX2 := lh ((hg2.keep lX hne hap1).trans HX1.out);have HP2 := lh (HP1.out.step HS1.out hg2);have HG2 := lh (HG1.out.trans hg2);have HS2 := lh hs2;clear hs2 hg2 x0 x1 x2 x3 x4 x5 x6 x7 lX Hin;obtain ⟨x0, x1, x2, x3, x4, x5, x6, x7⟩ := qe HX2.out;have lX := qa HX2.out
   go_wp2_with fail
   refine q2m K _ v2 pl ⟨x.op + 3, 0, a, b, 0⟩ x.dst _ HS2.out HP2.out Hd.out.1 Hd.out.2 (by rw [List.length_append, List.length_append]; omega) _ (fun w3 v3 hs3 hg3 => ?_);have HF := lh (HR.out w3 v3 (by have h1 := hs3; rw [List.append_assoc, List.append_assoc] at h1; exact h1) (HG2.out.trans hg3));clear hs3 hg3;go_wp2;refine bodyPost_ret (results_none rfl _ _ _) rfl ?_;exact HF.out
theorem q58 (K : PiK) (code : List Mac) (vc : Value) (t nx : Int) (w : World) (h : PiS K code vc w) (hc : code.length ≤ 99000) (R : Ending -> World -> Prop)
 (hR : ∀ w' vc', PiS K (code ++ if t = nx then [] else [⟨37, 0, 0, 0, t⟩]) vc' w' -> PiG K w vc w' vc' -> R (.returned (.tuple #[])) w') :
 Calls Tryz.prog 62 #[.pointer (some ⟨K.PB, 0, none⟩), .int .i64 t, .int .i64 nx] w R := by
 obtain ⟨HR, HS⟩ := lh2 hR h;clear hR h
 by_cases hq : t = nx
 ·rw [if_pos hq, List.append_nil] at HR;subst hq
  go_enter Tryz.func62, Tryz.ntmps62
  go_wp2;refine bodyPost_ret (results_none rfl _ _ _) rfl ?_;exact HR.out _ _ HS.out (PiG.refl _ _ _)
 ·rw [if_neg hq] at HR
  go_enter Tryz.func62, Tryz.ntmps62
  go_wp2_with fail
  refine q00 K code vc ⟨37, 0, 0, 0, t⟩ _ HS.out (by omega) _ (fun w1 v1 hs1 hg1 => ?_);have HF := lh (HR.out w1 v1 hs1 hg1);clear hs1 hg1;go_wp2;refine bodyPost_ret (results_none rfl _ _ _) rfl ?_;exact HF.out
def q0c (l : List Move) : List Mac := (row 15 l).flatMap fun m => q0k m.to m.src
theorem qb0 (spare : Int) : ∀ (n : Nat) (l : List Move), (rowN spare n l).length ≤ n
 | 0, l => Nat.le_refl _
 | n + 1, l => by
   unfold rowN
   split
   ·rw [List.length_cons];have := qb0 spare n (l.eraseIdx ‹_›);omega
   ·split
    ·exact Nat.zero_le _
    ·rw [List.length_cons];have := qb0 spare n (q03 spare (l.getD 0 Move.zero).src l);omega
def MvB (l : List Move) : Prop := ∀ m ∈ l, (-1000 ≤ m.to ∧ m.to ≤ 1000) ∧ (-1000 ≤ m.src ∧ m.src ≤ 1000)
theorem MvB.getD {l : List Move} (h : MvB l) (i : Nat) : (-1000 ≤ (l.getD i Move.zero).to ∧ (l.getD i Move.zero).to ≤ 1000) ∧ (-1000 ≤ (l.getD i Move.zero).src ∧ (l.getD i Move.zero).src ≤ 1000) := by
 rw [List.getD_eq_getElem?_getD]
 cases hx : l[i]? with
 | none => simp [Move.zero]
 | some m => exact h m (List.mem_of_getElem? hx)
theorem q74 {spare : Int} (hs : -1000 ≤ spare ∧ spare ≤ 1000) : ∀ (n : Nat) (l : List Move), MvB l -> MvB (rowN spare n l)
 | 0, l, _ => fun m hm => by cases hm
 | n + 1, l, h => by
   unfold rowN
   split
   ·rename_i i hi;intro m hm
    rcases List.mem_cons.1 hm with h1 | h1
    ·rw [h1]; exact h.getD i
    ·exact q74 hs n _ (fun m hm => h m ((List.eraseIdx_sublist l i).subset hm)) m h1
   ·split
    ·intro m hm; cases hm
    ·intro m hm
     rcases List.mem_cons.1 hm with h1 | h1
     ·rw [h1]; exact ⟨hs, (h.getD 0).2⟩
     ·refine q74 hs n _ (fun m hm => ?_) m h1;unfold q03 at hm;obtain ⟨o, ho, rfl⟩ := List.mem_map.1 hm;have := h o ho
      split
      ·exact ⟨this.1, hs⟩
      ·exact this
theorem q9y {l : List Move} {m : Move} (h : m ∈ q3t l) : m ∈ l := (List.mem_filter.1 h).1
theorem qjt {l : List Move} (h : MvB l) : MvB (row 15 l) := q74 (by decide) _ _ fun m hm => h m (q9y hm)
theorem q8u (l : List Move) : (row 15 l).length ≤ 2 * l.length + 1 := by
 have h1 := qb0 15 (mu (q3t l)) (q3t l);have h2 : mu (q3t l) ≤ 2 * (q3t l).length + 1 := by unfold mu; split <;> omega
 have h3 : (q3t l).length ≤ l.length := List.length_filter_le _ _;unfold row;omega
theorem q4t (l : List Move) : (q0c l).length ≤ 2 * (row 15 l).length := by
 unfold q0c;generalize row 15 l = L
 induction L with
 | nil => exact Nat.le_refl _
 | cons m L ih =>
   rw [List.flatMap_cons, List.length_append, List.length_cons];have := q59 m.to m.src;omega
theorem qaj (L : List Move) (i : Nat) : ((L.take i).flatMap fun m => q0k m.to m.src).length ≤ 2 * i := by
 have : ∀ l : List Move, (l.flatMap fun m => q0k m.to m.src).length ≤ 2 * l.length := fun l => by
  induction l with
  | nil => exact Nat.le_refl _
  | cons m l ih =>
    rw [List.flatMap_cons, List.length_append, List.length_cons];have := q59 m.to m.src;omega
 have h1 := this (L.take i);rw [List.length_take] at h1;omega
theorem q8o {X : Nat -> Prop} {w w' : World} {base : Nat} {e : TypeId} {size n : Nat} {v : Value} {xs : List Value} (h : w.ownsRow base e size v n xs) (hg : Grew X w w') (hX : ∀ k, v.ownBlock = some k -> ¬ X k) : w'.ownsRow base e size v n xs := by
 have hl := h.lt;obtain ⟨h1, h2⟩ := h;refine ⟨h1, ?_⟩
 rcases h2 with h2 | ⟨g, cap, cur, hv, hb, hh, r⟩
 ·exact .inl h2
 ·have e : v.ownBlock = some g := by rw [hv]; rfl
  exact .inr ⟨g, cap, cur, hv, hb, (hg.block g (hl g e).2 (hX g e)).trans hh, r⟩
theorem q5j (K : PiK) (code : List Mac) (vc : Value) (l : List Move) (vl : Value) (w : World) (h : PiS K code vc w) (hl : rpMove.SL w w.heap.size l vl) (hn : l.length ≤ 200) (hf : Fine 15 (q3t l)) (hb : MvB l) (hc : code.length ≤ 90000) (R : Ending -> World -> Prop)
 (hR : ∀ w' vc', PiS K (code ++ q0c l) vc' w' -> PiG K w vc w' vc' -> R (.returned (.tuple #[])) w') :
 Calls Tryz.prog 54 #[.pointer (some ⟨K.PB, 0, none⟩), vl] w R := by
 obtain ⟨HR, HS, Hl, Hf⟩ := lh4 hR h hl hf;have hrl := q8u l;have hrb := qjt hb;have lP : K.PB < w.heap.size := qa h.blk;obtain ⟨A, c, rfl, hmx, hcap, _⟩ := hl.cases_;clear hR h hl hf hb
 go_enter Tryz.func54, Tryz.ntmps54
 go_wp2_with fail
 refine qab _ l 15 _ Hl.out (by omega) Hf.out _ (fun w1 v1 n hmu hb1 ho1 => ?_);have e : rowN 15 n (l.filter fun m => !(m.to == m.src)) = row 15 l := qm3 Hf.out n hmu;rw [e] at ho1;obtain ⟨L, hL⟩ := nmm (row 15 l);have e2 : q0c l = L.flatMap fun m => q0k m.to m.src := by rw [hL]; rfl
 rw [e2] at HR;rw [<- hL] at ho1 hrl hrb;obtain ⟨A1, c1, hv1⟩ := qj ho1;subst hv1;obtain ⟨HO1, HB⟩ := lh2 ho1 hrb;have HS1 := lh (HS.out.below hb1);have HG1 := lh (PiG.of_below (K := K) (vc := vc) hb1)
 have Hap : Hid (∀ k, (Value.slice A1 L.length c1).ownBlock = some k -> ¬ (k = K.PB ∨ vc.ownBlock = some k)) := lh fun k hk e => by
  have h1 := (ho1.lt k hk).1
  rcases e with e | e
  ·omega
  ·have := (HS.out.own.lt k e).2;omega
 clear e e2 hL ho1 hb1 hrb hmu;go_wp2
 go_loopg [9] L.length (fun gh s9 wr => ∃ (i : Nat) (vr : Value), i ≤ L.length ∧ gh = L.length - i ∧ s9 = .int .i64 (i : Int) ∧ Hid (PiS K (code ++ (L.take i).flatMap fun m => q0k m.to m.src) vr wr) ∧ Hid (PiG K w1 vc wr vr))
 case atStart => exact ⟨0, vc, Nat.zero_le _, rfl, rfl, lh (by simpa using HS1.out), lh (PiG.refl _ _ _)⟩
 case round =>
  obtain ⟨i, vr, hi, rfl, rfl, HSr, HGr⟩ := hrel;have i0 := nnn i
  by_cases hlt : i < L.length
  ·have i1 : (i : Int) < (L.length : Int) := Int.ofNat_lt.2 hlt;have hor := q8o HO1.out HGr.out.grew Hap.out;obtain ⟨b, off, m, hA1, hb, hm, p0, p1⟩ := (q1h hor (Nat.le_refl _)).move_at hlt;subst hA1;have hmb := HB.out m (List.mem_of_getElem? hm);have lb : b < wr.heap.size := hb
   have hst : L.take (i + 1) = L.take i ++ [m] := by
    rw [List.take_succ_eq_append_getElem hlt];rw [List.getElem?_eq_getElem hlt] at hm;rw [Option.some.inj hm]
   have Hst := lh hst;have hfl := qaj L i;clear hor hm hst hb;obtain ⟨W2, hW2, hb2, hX2⟩ := box1 wr (.cells #[.int .i64 m.to, .int .i64 m.src] 81) rfl;have HW2 := lh hW2.symm;have HS2 := lh (HSr.out.below hb2);have HG2 := lh (HGr.out.trans (PiG.of_below (K := K) (vc := vr) hb2));clear hW2 hb2
   go_upto_region 3 with fail
   rw [HW2.out];obtain ⟨x0, x1, lX⟩ := cbl hX2;clear hX2
   go_wp2_with fail
   refine q4b K _ vr m.to m.src (by omega) (by omega) _ HS2.out (by rw [List.length_append]; omega) _ (fun w3 v3 hs3 hg3 => ?_)
   have HS3 : Hid (PiS K (code ++ (L.take (i + 1)).flatMap fun m => q0k m.to m.src) v3 w3) := lh (by
    rw [Hst.out, List.flatMap_append, <- List.append_assoc];simpa using hs3)
   have HG3 := lh (HG2.out.trans hg3);clear hs3 hg3 x0 x1 lX;go_wp2
   go_roundg (L.length - (i + 1))
   case measure => omega
   case rel => exact ⟨i + 1, v3, hlt, rfl, by go_num, HS3, HG3⟩
  ·obtain rfl : i = L.length := by omega
   have i1 : ¬ (L.length : Int) < (L.length : Int) := by omega
   have HF := lh (HR.out wr vr (by have h1 := HSr.out; rwa [List.take_length] at h1) (HG1.out.trans HGr.out));go_wp2;refine bodyPost_ret (results_none rfl _ _ _) rfl ?_;exact HF.out
def argMv (pl : List Int) (xs : List UVal) : Nat -> List Move
 | 0 => []
 | k + 1 => argMv pl xs k ++ match xs[k]? with
   | some v => if v.reg = true then [⟨(k : Int), plAt pl v.n⟩] else []
   | none => []
def argSt (xs : List UVal) : Nat -> List Mac
 | 0 => []
 | k + 1 => argSt xs k ++ match xs[k]? with
   | some v => if v.reg = true then [] else [⟨1, (k : Int), 0, 0, v.n⟩]
   | none => []
theorem qbh (pl : List Int) (xs : List UVal) : ∀ k, (argMv pl xs k).length ≤ k
 | 0 => Nat.le_refl _
 | k + 1 => by
   have := qbh pl xs k;rw [argMv, List.length_append]
   cases xs[k]? with
   | none => simp; omega
   | some v =>
     dsimp only
     split <;> simp <;> omega
theorem qbi (xs : List UVal) : ∀ k, (argSt xs k).length ≤ k
 | 0 => Nat.le_refl _
 | k + 1 => by
   have := qbi xs k;rw [argSt, List.length_append]
   cases xs[k]? with
   | none => simp; omega
   | some v =>
     dsimp only
     split <;> simp <;> omega
theorem q62 (pl : List Int) (xs : List UVal) : ∀ k, ∀ m ∈ argMv pl xs k, 0 ≤ m.to ∧ m.to < (k : Int)
 | 0, m, h => by cases h
 | k + 1, m, h => by
   rw [argMv, List.mem_append] at h
   rcases h with h | h
   ·have := q62 pl xs k m h;omega
   ·cases hx : xs[k]? with
    | none => rw [hx] at h; cases h
    | some v =>
      rw [hx] at h;dsimp only at h
      split at h
      ·rw [List.mem_singleton] at h;rw [h];dsimp only;omega
      ·cases h
theorem q84 (pl : List Int) (xs : List UVal) : ∀ k, ((argMv pl xs k).map Move.to).Nodup
 | 0 => List.nodup_nil
 | k + 1 => by
   rw [argMv, List.map_append, List.nodup_append];refine ⟨q84 pl xs k, ?_, fun a ha b hb => ?_⟩
   ·cases xs[k]? with
    | none => exact List.nodup_nil
    | some v => dsimp only; split <;> simp
   ·obtain ⟨m, hm, rfl⟩ := List.mem_map.1 ha;have h1 := q62 pl xs k m hm
    cases hx : xs[k]? with
    | none => rw [hx] at hb; cases hb
    | some v =>
      rw [hx] at hb;dsimp only at hb
      split at hb
      ·simp at hb;omega
      ·cases hb
theorem q83 {pl : List Int} (hp : ∀ p ∈ pl, -1 ≤ p ∧ p ≤ 1000) (xs : List UVal) : ∀ k, k ≤ 900 -> MvB (argMv pl xs k)
 | 0, _ => fun m h => by cases h
 | k + 1, hk => by
   intro m h;have h0 := q62 pl xs (k + 1) m h;rw [argMv, List.mem_append] at h
   rcases h with h | h
   ·exact q83 hp xs k (by omega) m h
   ·refine ⟨by omega, ?_⟩
    cases hx : xs[k]? with
    | none => rw [hx] at h; cases h
    | some v =>
      rw [hx] at h;dsimp only at h
      split at h
      ·rw [List.mem_singleton] at h;rw [h];dsimp only;unfold plAt;rw [List.getD_eq_getElem?_getD]
       cases hz : pl[v.n.toNat]? with
       | none => simp
       | some p =>
         have := hp p (List.mem_of_getElem? hz);simp only [Option.getD_some];omega
      ·cases h
theorem qg6 (pl : List Int) (xs : List UVal) {k : Nat} (hk : k ≤ 15) : Fine 15 (q3t (argMv pl xs k)) :=
 q8e ⟨q84 pl xs k, fun m hm => by have := q62 pl xs k m hm; omega⟩
def callL (pl : List Int) (x : UIns) : List Mac :=
 q0c (argMv pl x.args x.args.length) ++ argSt x.args x.args.length ++ [⟨44, 0, 0, 0, x.fn⟩] ++ (if 0 ≤ x.dst then q0k (plAt pl x.dst) 0 else [])
end Go.Proofs.YtdanebboiekieaaGreatDoor
