/- The walks, part 29. -/
import Derived.Test.YtdanebboiekieaaGreatDoorP28
set_option linter.unusedSimpArgs false
set_option linter.unusedVariables false
set_option maxRecDepth 100000
set_option maxHeartbeats 16000000
namespace Go.Proofs.YtdanebboiekieaaGreatDoor
open Go.RowKit
theorem qj0 {f : UFun} {pl : List Int} {n : Nat} (hl : pl.length = n) (hx : ∀ b ∈ f.blocks, ∀ x ∈ b.list, x.op = 1 -> x.a.reg = true -> (0 ≤ x.dst ∧ x.dst < (n : Int)) ∧ (0 ≤ x.a.n ∧ x.a.n < (n : Int))) (r : Int) : askR f pl r = asksF f pl r ++ ints 14 := by
 unfold askR asksF
 congr 2
 refine q1a (fun b hb => ?_)
 unfold asksJ asksB
 exact q1a fun x hx' => qc6 hl (hx b hb x hx') _
theorem qdt {f : UFun} {pl : List Int} {n : Nat} (hl : pl.length = n) (hx : ∀ b ∈ f.blocks, ∀ x ∈ b.list, x.op = 1 -> x.a.reg = true -> (0 ≤ x.dst ∧ x.dst < (n : Int)) ∧ (0 ≤ x.a.n ∧ x.a.n < (n : Int))) {many : Int} (hm : 2 ≤ many ∧ many ≤ 14) (ac : Bool) (row : List Int) (r : Int) :
 q4q f many ac row pl r = match (askR f pl r).find? (freeB many ac row pl) with
  | some p => p
  | none => slotP (q1e row pl) := by
 unfold q4q
 rw [qj0 hl hx, qdc hm]
 rfl
def BestI (W : Int -> Int) (left : List Int) (b i : Nat) : Prop := b < i ∧ ∀ j, j < i -> (j < b -> W (iAt left j) < W (iAt left b)) ∧ (b ≤ j -> W (iAt left j) ≤ W (iAt left b))
theorem BestI.step {W : Int -> Int} {left : List Int} {b i : Nat} (h : BestI W left b i) : (W (iAt left b) < W (iAt left i) -> BestI W left i (i + 1)) ∧ (¬ W (iAt left b) < W (iAt left i) -> BestI W left b (i + 1)) := by
 refine ⟨fun hx => ⟨Nat.lt_succ_self _, fun j hj => ⟨fun hji => ?_, fun hij => ?_⟩⟩, fun hx => ⟨Nat.lt_succ_of_lt h.1, fun j hj => ?_⟩⟩
 ·have := h.2 j hji
  rcases Nat.lt_or_ge j b with h1 | h1
  ·exact Int.lt_trans (this.1 h1) hx
  ·exact Int.lt_of_le_of_lt (this.2 h1) hx
 ·have : j = i := by omega
  subst this
  exact Int.le_refl _
 ·rcases Nat.lt_or_ge j i with h1 | h1
  ·exact h.2 j h1
  ·have : j = i := by omega
   subst this
   exact ⟨fun h2 => absurd h.1 (by omega), fun _ => by omega⟩
theorem BestI.first {W : Int -> Int} {left : List Int} : BestI W left 0 1 := by
 refine ⟨by decide, fun j hj => ⟨fun h => absurd h (Nat.not_lt_zero _), fun _ => ?_⟩⟩
 have e : j = 0 := by omega
 subst e
 exact Int.le_refl _
theorem BestI.sort {W : Int -> Int} {left : List Int} {b : Nat} (h : BestI W left b left.length) (hs : left.Pairwise (· < ·)) : sortW W left = iAt left b :: sortW W (left.eraseIdx b) := by
 have h0 : b < left.length := h.1
 refine qe9 (by rw [List.getElem?_eq_getElem h0]; exact congrArg some (q2f h0).symm) (fun x hx => ?_)
 obtain ⟨j, hj, rfl⟩ := List.getElem_of_mem hx
 have h1 := h.2 j hj
 rw [q2f hj] at h1
 unfold q01
 rw [decide_eq_true_eq]
 rcases Nat.lt_or_ge j b with h2 | h2
 ·exact .inl (h1.1 h2)
 ·have h3 := h1.2 h2
  rcases Int.lt_or_le (W left[j]) (W (iAt left b)) with h4 | h4
  ·exact .inl h4
  ·right
   refine ⟨by omega, ?_⟩
   rcases Nat.lt_or_ge b j with h5 | h5
   ·have := List.pairwise_iff_getElem.1 hs b j h0 hj h5
    rw [q2f h0]
    omega
   ·have : j = b := by omega
    subst this
    rw [q2f hj]
    exact Int.le_refl _
theorem qae {W : World} {gl off : Nat} {xs : List Int} (h : ∀ j, j < xs.length -> W.cell? ⟨gl, off + j, none⟩ = some (.int .i64 (iAt xs j))) : ∀ j u, (xs.flatMap qf)[j]? = some u -> W.cell? ((⟨gl, off, none⟩ : Addr).add j) = some u := by
 intro j u hj
 rw [q1h, List.getElem?_map] at hj
 cases hx : xs[j]? with
 | none => rw [hx] at hj; cases hj
 | some x =>
   rw [hx] at hj
   have hj : Value.int .i64 x = u := Option.some.inj hj
   obtain ⟨h1, h2⟩ := List.getElem?_eq_some_iff.1 hx
   rw [Addr.add_lit, h j h1, q2f h1, h2, hj]
theorem qcs (xs : List Int) : ∀ u ∈ xs.flatMap qf, u.oneCell' = true := by
 intro u hu
 rw [q1h] at hu
 obtain ⟨x, _, rfl⟩ := List.mem_map.1 hu
 rfl
theorem qch (xs : List Int) : (xs.flatMap qf).length = xs.length * 1 := by
 rw [q1h, List.length_map, Nat.mul_one]
theorem qjf {Wl : List Int} {fr : Int -> Bool} {i : Nat} (h : i < Wl.length) (hn : ∀ x ∈ Wl.take i, fr x = false) (hz : fr (iAt Wl i) = false) : ∀ x ∈ Wl.take (i + 1), fr x = false := by
 intro x hx
 rw [List.take_succ_eq_append_getElem h, List.mem_append, List.mem_singleton] at hx
 rcases hx with h1 | h1
 ·exact hn x h1
 ·rw [h1, <- q2f h]; exact hz
theorem qhl {Wl : List Int} {fr : Int -> Bool} {i : Nat} (h : i < Wl.length) (hn : ∀ x ∈ Wl.take i, fr x = false) (hz : fr (iAt Wl i) = true) : Wl.find? fr = some (iAt Wl i) := by
 rw [q2f h] at hz ⊢
 have e : Wl = Wl.take i ++ Wl[i] :: Wl.drop (i + 1) := by rw [List.getElem_cons_drop, List.take_append_drop]
 conv => lhs; rw [e]
 rw [List.find?_append, List.find?_eq_none.2 (fun x hx => by rw [hn x hx]; decide), List.find?_cons_of_pos hz]
 rfl
theorem q3x {row pl : List Int} {n : Nat} (hl : pl.length = n) (h : ∀ o ∈ row, 0 ≤ o ∧ o < (n : Int)) (p : Int) : (row.any fun o => decide (iAt pl o.toNat = p)) = q1e row pl p := by
 unfold q1e
 rw [Bool.eq_iff_iff, List.any_eq_true, List.any_eq_true]
 have e : ∀ o ∈ row, iAt pl o.toNat = pl.getD o.toNat (-1) := fun o ho => by
  have := h o ho
  have h1 : o.toNat < pl.length := by omega
  rw [q2f h1, List.getD_eq_getElem?_getD, List.getElem?_eq_getElem h1]
  rfl
 constructor
 ·rintro ⟨o, ho, h1⟩
  exact ⟨o, ho, by rw [<- e o ho]; exact h1⟩
 ·rintro ⟨o, ho, h1⟩
  exact ⟨o, ho, by rw [e o ho]; exact h1⟩
theorem IntAt.grew {g : Nat} {S : List Int} {X : Nat -> Prop} {w w' : World} (h : IntAt g S w) (hG : Grew X w w') (hg : ¬ X g) : IntAt g S w' := by
 obtain ⟨A, hA, h2⟩ := h
 exact ⟨A, (hG.block g (qc hA) hg).trans hA, h2⟩
theorem q83 {many p : Int} (h : q2p many p = true) (hm : 2 ≤ many ∧ many ≤ 14) : 0 ≤ p ∧ p < 14 := by
 unfold q2p halfC at h
 rw [decide_eq_true_eq] at h
 split at h <;> omega
theorem qag {X : Nat -> Prop} {w w' : World} {base : Nat} {e : TypeId} {size n : Nat} {v : Value} {xs : List Value} (h : w.ownsRow base e size v n xs) (hg : Grew X w w') (hX : ∀ k, v.ownBlock = some k -> ¬ X k) : w'.ownsRow base e size v n xs := by
 have hl := h.lt
 obtain ⟨h1, h2⟩ := h
 refine ⟨h1, ?_⟩
 rcases h2 with h2 | ⟨g, cap, cur, hv, hb, hh, r⟩
 ·exact .inl h2
 ·have e : v.ownBlock = some g := by rw [hv]; rfl
  exact .inr ⟨g, cap, cur, hv, hb, (hg.block g (hl g e).2 (hX g e)).trans hh, r⟩
theorem qfu {left pl : List Int} {b q K : Nat} {pp : Int} (hs : left.Pairwise (· < ·)) (hr : ∀ x ∈ left, 0 ≤ x ∧ x < (K : Int)) (hM : ∀ x ∈ left, iAt pl x.toNat = -1) (hb : b < left.length) (hq : iAt left b = (q : Int)) (hl : pl.length = K) (hqr : q < K) :
 (left.eraseIdx b).Pairwise (· < ·) ∧ (∀ x ∈ left.eraseIdx b, 0 ≤ x ∧ x < (K : Int)) ∧ (left.eraseIdx b).length + 1 = left.length ∧ (∀ x ∈ left.eraseIdx b, iAt (pl.set q pp) x.toNat = -1) := by
 have hsub := List.eraseIdx_sublist left b
 refine ⟨hs.sublist hsub, fun x hx => hr x (hsub.subset hx), by rw [List.length_eraseIdx, if_pos hb]; omega, fun x hx => ?_⟩
 have hx' := hsub.subset hx
 rw [q3b (by rw [hl]; exact hqr), if_neg ?_]
 ·exact hM x hx'
 ·intro e
  obtain ⟨i, hi, hne, hix⟩ := List.mem_eraseIdx_iff_getElem.1 hx
  have h0 := (hr x hx').1
  have h1 : x = (q : Int) := by omega
  rw [q2f hb] at hq
  rw [h1, <- hq] at hix
  rcases Nat.lt_or_gt_of_ne hne with h2 | h2
  ·have := List.pairwise_iff_getElem.1 hs i b hi hb h2
   omega
  ·have := List.pairwise_iff_getElem.1 hs b i hb hi h2
   omega
def PlR (B r : Nat) (pA : Option Addr) (pl : List Int) (W : World) : Prop := pl.length = r ∧ (0 < r -> ∃ gp, pA = some ⟨gp, 0, none⟩ ∧ B ≤ gp ∧ IntAt gp pl W)
theorem PlR.SLF {B r pc lo : Nat} {pA : Option Addr} {pl : List Int} {W : World} (h : PlR B r pA pl W) (hp : r ≤ pc) (hr : r ≤ 100) (hlo : lo ≤ B) : rpInt.SLF W lo W.heap.size pl (.slice pA r pc) := by
 obtain ⟨h1, h2⟩ := h
 subst h1
 by_cases h0 : pl.length = 0
 ·exact ⟨pA, pc, rfl, by rw [h0]; exact Nat.zero_le _, hp, fun h => absurd h (by omega)⟩
 ·obtain ⟨gp, rfl, hg, A, hA, hx⟩ := h2 (by omega)
  have hI : IntAt gp pl (only W fun k => decide (lo ≤ k)) := ⟨A, (q2q _ _ _ (decide_eq_true (Nat.le_trans hlo hg))).trans hA, hx⟩
  have := hI.SL (cp := pc) (by unfold maxLen; omega) hp
  exact Rp.SL.more this (B' := W.heap.size) (by simp [only])
theorem q7z (n : Nat) (x : Int) : List.replicate (n + 1) x = List.replicate n x ++ [x] := List.replicate_succ'
theorem q8l (C : Int -> Int -> Bool) (L : Nat -> Nat -> Int -> Bool) (Ac : Int -> Bool) (u : Unt) (hu : UntI u) (hok : qp u = (0, 0)) (k : Nat) (f : UFun) (hkf : u.funcs[k]? = some f) (hnp : ∀ b ∈ f.blocks, b.phis = []) (n : Nat) (hn : f.regs = (n : Int)) (hlen : ∀ b ∈ f.blocks, b.list.length ≤ 300) (hL : ∀ i k r, L i k r = true ↔ LvI f r i k) (hC : ∀ a b, C a b = true ↔ Clash f a b) (hA : ∀ z, Ac z = true ↔ q5t f z) (many : Int) (hm : 2 ≤ many ∧ many ≤ 14) (gA fA : Option Addr) (gn gc fc : Nat) (w : World) (hW : Ways w) (hg : rpGlobal.SL w w.heap.size u.globals (.slice gA gn gc)) (hf : rpFun.SL w w.heap.size u.funcs (.slice fA u.funcs.length fc)) (R : Ending -> World -> Prop)
 (hR : ∀ w' v, Below w.heap.size w w' -> rpInt.SLF w' w.heap.size w'.heap.size (q2h f n many C Ac (L 0 0)) v -> R (.returned (.tuple #[v, (.agg #[.int .i64 (((0 : Int), (0 : Int))).1, .int .i64 (((0 : Int), (0 : Int))).2])])) w') :
 Calls Tryz.prog 22 #[.agg #[.slice gA gn gc, .slice fA u.funcs.length fc], .int .i64 (k : Int), .int .i64 many] w R := by
 have hfo := funOk hok hkf
 have hn1 : n ≤ 100 := by have := hfo.regs.2; omega
 obtain ⟨hku, hfk⟩ := List.getElem?_eq_some_iff.1 hkf
 obtain ⟨bf, offf, vb, hfA, hbf, hsb, qf0, qf1, qf2, qf3⟩ := hf.fun_at hku
 subst hfA
 rw [hfk] at qf0 qf1 qf2 hsb
 obtain ⟨bA, bc, rfl, _, _, hsb⟩ := hsb.cases_
 have k0 := nnn k
 have k1 : (k : Int) < (u.funcs.length : Int) := by omega
 obtain ⟨HR, Hg, Hf, HW, Hk, Hkf, Hnp, Hn, Hlen, HL, HC, HA⟩ := lh12 hR hg hf hW hok hkf hnp hn hlen hL hC hA
 obtain ⟨Hfo, Hsb, Hm⟩ := lh3 hfo hsb hm
 have hnb : 1 ≤ f.blocks.length ∧ f.blocks.length ≤ 40 := hfo.blocks
 have Hnb := lh hnb
 obtain ⟨m0, m1⟩ := hm
 obtain ⟨i0, hi0, hz0, hz1, hz2⟩ := info_parts q1v
 clear hR hg hf hW hok hkf hnp hn hlen hL hC hA hfo hsb hfk hnb
 go_enter Tryz.func22, Tryz.ntmps22
 go_upto_region 1 with fail
 obtain ⟨W2, hW2, hb2, hU2, hF2⟩ := box2 w (.cells #[.slice gA gn gc, .slice (some ⟨bf, offf, none⟩) u.funcs.length fc] 25) (.cells #[.int .i64 0, .int .i64 0] 30) rfl
 rw [<- hW2]
 obtain ⟨Hb2, HU2, HF2⟩ := lh3 hb2 hU2 hF2
 have hz2' := hb2.size
 obtain ⟨u0, u1, lU⟩ := cbl hU2
 clear hW2 hb2 hU2 hF2
 go_wp2_with fail
 refine q4r C L u hu k f Hk.out Hkf.out Hnp.out n Hn.out Hlen.out HL.out _ _ _ _ _ _ (HW.out.up Hb2.out HW.out.1) (Hg.out.up Hb2.out hz2') (Hf.out.up Hb2.out hz2') _ HC.out (fun w3 v3 hb3 hsl3 => ?_)
 obtain ⟨cA, cc, rfl, hm3, hc3, hsl3⟩ := hsl3.cases_
 have hrl : (rowsC C n).length = n := by unfold rowsC; rw [List.length_map, q1g]
 rw [hrl] at hm3 hc3 hsl3 ⊢
 obtain ⟨Hsl3, Hrl⟩ := lh2 hsl3 hrl
 have Hb3 := lh (Hb2.out.trans (hb3.mono hz2'))
 have HU3 := bkk hb3 HU2
 have HF3 := bkk hb3 HF2
 have hz3 := Hb3.out.size
 clear hb3 u0 u1 lU hsl3 hrl
 obtain ⟨E, hE⟩ := nmm (w3.heap.size)
 obtain ⟨W4, hW4, hb34, hE4⟩ := box1 w3 (.cells #[.int .i64 0, .int .i64 0] 30) hE
 have Hb4 := btt Hb3 hb34 hz3
 have HU4 := bkk hb34 HU3
 have HF4 := bkk hb34 HF3
 have Hsl4 := lh (Hsl3.out.SL.up hb34 hb34.size)
 have HW4 := lh hW4.symm
 obtain ⟨HEe, HE4⟩ := lh2 hE hE4
 have hz4 := Hb4.out.size
 clear hW4 hb34 hE4 hE
 obtain ⟨e0, e1, lE⟩ := cbl HE4.out
 obtain ⟨u0, u1, lU⟩ := cbl HU4.out
 have p0 := (Hb4.out.cell (p := ⟨bf, offf + k * 4, none⟩) hbf).trans qf0
 have p1 := (Hb4.out.cell (p := ⟨bf, offf + k * 4 + 1, none⟩) hbf).trans qf1
 have p2 := (Hb4.out.cell (p := ⟨bf, offf + k * 4 + 2, none⟩) hbf).trans qf2
 have p3 := (Hb4.out.cell (p := ⟨bf, offf + k * 4 + 3, none⟩) hbf).trans qf3
 have lbf : bf < W4.heap.size := by omega
 go_upto_region 2 with fail
 rw [<- HEe.out, HW4.out]
 have hng1 : ¬ many < 2 := by omega
 have hng2 : ¬ many > 14 := by omega
 obtain ⟨X, hX⟩ := nmm (W4.heap.size)
 obtain ⟨W5, hW5, hb45, hX5⟩ := box1 W4 (.cells #[.string f.name, .int .i64 f.params, .int .i64 f.regs, .slice bA f.blocks.length bc] 56) hX
 have Hb5 := btt Hb4 hb45 hz4
 have HU5 := bkk hb45 HU4
 have HF5 := bkk hb45 HF4
 have Hsl5 := lh (Hsl4.out.up hb45 hb45.size)
 have HX5 := lh hX5
 have HW5 := lh hW5.symm
 have HXe := lh hX
 have hz5 := Hb5.out.size
 clear hW5 hb45 hX5 hX
 go_upto_region 7 with fail
 rw [<- HXe.out, HW5.out]
 clear e0 e1 lE u0 u1 lU p0 p1 p2 p3 lbf
 obtain ⟨u0, u1, lU⟩ := cbl HU5.out
 go_wp2_with fail
 refine q8k Ac L u hu k f Hk.out Hkf.out Hnp.out n Hn.out Hlen.out HL.out _ _ _ _ _ _ (HW.out.up Hb5.out HW.out.1) (Hg.out.up Hb5.out hz5) (Hf.out.up Hb5.out hz5) _ HA.out (fun w6 v6 hb6 hown6 => ?_)
 obtain ⟨aA, ac, rfl⟩ := qn hown6
 have Hown6 := lh hown6
 have Hb6 := btt Hb5 hb6 hz5
 have HF6 := bkk hb6 HF5
 have HX6 := bkk hb6 HX5
 have Hsl6 := lh (Hsl5.out.up hb6 hb6.size)
 have hz6 := Hb6.out.size
 clear hb6 hown6 u0 u1 lU
 obtain ⟨W7, hW7⟩ := nmm (w6.alloc (Obj.cells #[.int .i64 0, .int .i64 0] 30))
 have hb67 : Below w6.heap.size w6 W7 := by subst hW7; exact bl0
 have Hb7 := btt Hb6 hb67 hz6
 have HF7 := bkk hb67 HF6
 have HX7 := bkk hb67 HX6
 have Hsl7 := lh (Hsl6.out.up hb67 hb67.size)
 have Hac7 := lh (Rp.SL.of_own (r := rpInt) (f := qf) (fun _ _ _ => rfl) (fun _ => rfl) (q0e Hown6.out hb67) (Nat.le_refl _))
 have HW7 := lh hW7.symm
 have hz7 := Hb7.out.size
 have Hs7 := lh (Hsb.out.up Hb7.out hz7)
 clear hW7 hb67 Hown6 Hsl6 HX6 HF6 Hsl5 HX5 HF5 HU5 Hb5 Hsl4 HF4 HU4 Hb4 HE4 Hsl3 HF3 HU3 Hb3 HF2 HU2 Hb2
 obtain ⟨Y, hY⟩ : ∃ Y : Int -> Bool, Y = fun r => decide (0 < wgt f r) || L 0 0 r := ⟨_, rfl⟩
 have HY := lh hY
 have HP0 : Hid (W7.ownsRow W7.heap.size 3 1 (.slice none 0 0) (List.replicate 0 (-1)).length ((List.replicate 0 (-1)).flatMap qf)) := lh (World.ownsRow_nil _ _ _ _)
 have HO0 : Hid (W7.ownsRow W7.heap.size 3 1 (.slice none 0 0) (rowX Y 0).length ((rowX Y 0).flatMap qf)) := lh (World.ownsRow_nil _ _ _ _)
 clear hY
 go_upto_region 8 with fail
 rw [HW7.out]
 go_wp2
 go_loopg [13, 14, 15] n (fun gh s13 s14 s15 wr => ∃ r : Nat, r ≤ n ∧ gh = n - r ∧ s15 = .int .i64 (r : Int) ∧ Hid (wr.ownsRow W7.heap.size 3 1 s13 (List.replicate r (-1)).length ((List.replicate r (-1)).flatMap qf)) ∧ Hid (wr.ownsRow W7.heap.size 3 1 s14 (rowX Y r).length ((rowX Y r).flatMap qf)) ∧ Hid (∀ j, s13.ownBlock = some j -> s14.ownBlock ≠ some j) ∧ Hid (Below W7.heap.size W7 wr))
 case atStart => exact ⟨0, Nat.zero_le _, rfl, rfl, HP0, HO0, lh (fun j h => by cases h), lh (Below.refl _ _)⟩
 case round =>
  clear HP0 HO0
  obtain ⟨r, hr, rfl, rfl, HP, HO, HD, Hb⟩ := hrel
  have hzr := Hb.out.size
  have r0 := nnn r
  have hXr := (Hb.out.block _ (qc HX7.out)).trans HX7.out
  obtain ⟨x0, x1, x2, x3⟩ := cq4 hXr
  have lX := qc hXr
  obtain ⟨pA, pc, hsp⟩ := qn HP.out
  subst hsp
  obtain ⟨oA, oc, hso⟩ := qn HO.out
  subst hso
  by_cases hlt : r < n
  ·have r1 : (r : Int) < f.regs := by rw [Hn.out]; omega
   have hpl : (List.replicate r (-1 : Int)).length = r := List.length_replicate ..
   have hrx := q2k Y r
   have hst := q4c Y r
   have hps := q7z r (-1)
   obtain ⟨y, hy⟩ := nmm (Y (r : Int))
   have hyy : y = (decide (0 < wgt f (r : Int)) || L 0 0 (r : Int)) := by rw [hy, HY.out]
   rw [<- hy] at hst
   generalize hL1 : rowX Y r = L1 at *
   generalize hL2 : rowX Y (r + 1) = L2 at *
   generalize hK1 : List.replicate r (-1 : Int) = K1 at *
   generalize hK2 : List.replicate (r + 1) (-1 : Int) = K2 at *
   obtain ⟨HL2, HK2, Hst, Hps, Hyy, HXr, Hrx, Hpl⟩ := lh8 hL2 hK2 hst hps hyy hXr hrx hpl
   clear hL1 hL2 hK1 hK2 hst hps hyy hy hXr hrx hpl
   go_wp2_with (at_builtin; refine q60 rfl _ _ rfl rfl (HP.out.alloc _) wr.heap.size (-1) rfl (heap_alloc_new wr _) (by have := Hpl.out; omega) (by simp; omega) ?_)
   intro v13 w8 hown8 hgrow8 hat8
   have hO8 := (HO.out.alloc (Obj.cells #[.int .i64 (-1)] 3)).kept hgrow8 (by
    cases hb : (Value.slice oA L1.length oc).ownBlock with
    | none => exact .inl rfl
    | some j => exact .inr (fun e => HD.out j e.symm hb))
   have hbz : Below W7.heap.size W7 w8 := (Hb.out.alloc hzr (Obj.cells #[.int .i64 (-1)] 3)).grown hgrow8 (by simp; omega) (fun j e => (HP.out.lt j e).1)
   have hD8 : ∀ j, v13.ownBlock = some j -> (Value.slice oA L1.length oc).ownBlock ≠ some j := fun j hj e => by
    rcases hat8 with h1 | h1
    ·exact HD.out j (h1.symm.trans hj) e
    ·rw [hj] at h1
     injection h1 with h1
     have h2 := (HO.out.lt j e).2
     try simp at h1
     omega
   have HP8 : Hid (w8.ownsRow W7.heap.size 3 1 v13 K2.length (K2.flatMap qf)) := lh (by rw [Hps.out]; simpa using hown8)
   obtain ⟨HO8, HD8, Hb8⟩ := lh3 hO8 hD8 hbz
   have hz8 := hbz.size
   have HX8 := bkk hbz HX7
   have Hs8 := lh (Hs7.out.up hbz hz8)
   clear hown8 hgrow8 hat8 hO8 hbz hD8 HP HO HD Hb HXr x0 x1 x2 x3 lX
   obtain ⟨pB, pd, hsp⟩ := qn HP8.out
   subst hsp
   obtain ⟨x0, x1, x2, x3⟩ := cq4 HX8.out
   have lX := qc HX8.out
   go_upto_region 14 with fail
   go_cut [72] (fun s wx => s = .bool y ∧ Hid (Below w8.heap.size w8 wx))
   case first =>
    go_wp2_with fail
    refine q3o f _ _ r _ Hs8.out Hnb.out.2 _ (fun w9 hb9 => ?_)
    rw [qbw Hfo.out]
    have Hb9 := lh hb9
    have hz9 := hb9.size
    have HX9 := bkk hb9 HX8
    have Hs9 := lh (Hs8.out.up hb9 hz9)
    clear hb9 x0 x1 x2 x3 lX
    obtain ⟨x0, x1, x2, x3⟩ := cq4 HX9.out
    have lX := qc HX9.out
    obtain ⟨wt, hwt⟩ := nmm (wgt f (r : Int))
    rw [<- hwt] at Hyy ⊢
    clear hwt
    by_cases hpos : 0 < wt
    ·have hy1 : y = true := by rw [Hyy.out, decide_eq_true hpos]; rfl
     subst hy1
     go_wp2
     go_meet
     exact ⟨rfl, Hb9⟩
    ·have hy1 : y = L 0 0 (r : Int) := by rw [Hyy.out, decide_eq_false hpos]; rfl
     have hle : wt ≤ 0 := by omega
     have Hy1 := lh hy1
     clear hpos hy1
     go_wp2_with fail
     refine q41 L f r _ _ Hlen.out Hnb.out Hfo.out.to HL.out _ Hs9.out _ (fun w10 v10 hb10 hsl10 => ?_)
     obtain ⟨lA, lc, rfl, _, _, hsl10⟩ := hsl10.cases_
     have e2 : (q08 f (fun i k => L i k (r : Int))).length = f.blocks.length := by unfold q08; simp
     rw [e2] at hsl10 ⊢
     obtain ⟨p2, o2, p3, o3, c3, rfl, l2, l3, y2, y3⟩ := row_at hsl10.SL (i := 0) (k := 0) (by have := Hnb.out; omega) (Nat.zero_le _)
     rw [Nat.add_zero] at y2 y3
     have hm0 : (0 : Int) < (f.blocks.length : Int) := by have := Hnb.out; omega
     obtain ⟨n1, hn1'⟩ := nmm (lenB f 0 + 1)
     have hn0 : (0 : Int) < (n1 : Int) := by rw [hn1']; exact Int.natCast_pos.2 (Nat.succ_pos _)
     rw [<- hn1'] at y2
     have Hb11 := btt Hb9 hb10 hz9
     rw [<- Hy1.out] at y3
     clear hb10 hsl10 e2 x0 x1 x2 x3 lX hn1' Hy1
     go_wp2
     go_meet
     exact ⟨rfl, Hb11⟩
   case rest =>
    obtain ⟨rfl, Hb9⟩ := hcut
    rename World => w9
    have hz9 := Hb9.out.size
    have HP9 := lh (q0e HP8.out Hb9.out)
    have HO9 := lh (q0e HO8.out Hb9.out)
    have Hb10 := lh (Hb8.out.trans (Hb9.out.mono hz8))
    have hz10 := Hb10.out.size
    clear x0 x1 x2 x3 lX HP8 HO8
    cases y
    ·rw [if_neg (by decide), List.append_nil] at Hst
     go_wp2
     go_roundg (n - (r + 1))
     case measure => omega
     case rel => exact ⟨r + 1, hlt, rfl, by go_num, by rw [HK2.out]; exact HP9, by rw [HL2.out]; exact lh (by rw [Hst.out]; exact HO9.out), HD8, Hb10⟩
    ·rw [if_pos rfl] at Hst
     go_wp2_with (at_builtin; refine q60 rfl _ _ rfl rfl (HO9.out.alloc _) w9.heap.size (r : Int) rfl (heap_alloc_new w9 _) (by have := Hrx.out; omega) (by simp; omega) ?_)
     intro v14 w11 hown11 hgrow11 hat11
     have hP11 := (HP9.out.alloc (Obj.cells #[.int .i64 (r : Int)] 3)).kept hgrow11 (by
      cases hb : (Value.slice pB K2.length pd).ownBlock with
      | none => exact .inl rfl
      | some j => exact .inr (fun e => HD8.out j hb e.symm))
     have hbz : Below W7.heap.size W7 w11 := (Hb10.out.alloc hz10 (Obj.cells #[.int .i64 (r : Int)] 3)).grown hgrow11 (by simp; omega) (fun j e => (HO9.out.lt j e).1)
     have hD11 : ∀ j, (Value.slice pB K2.length pd).ownBlock = some j -> v14.ownBlock ≠ some j := fun j hj e => by
      rcases hat11 with h1 | h1
      ·exact HD8.out j hj (h1.symm.trans e)
      ·rw [e] at h1
       injection h1 with h1
       have h2 := (HP9.out.lt j hj).2
       try simp at h1
       omega
     have HO11 : Hid (w11.ownsRow W7.heap.size 3 1 v14 L2.length (L2.flatMap qf)) := lh (by rw [Hst.out]; simpa using hown11)
     obtain ⟨HP11, HD11, Hb11⟩ := lh3 hP11 hD11 hbz
     clear hown11 hgrow11 hat11 hP11 hbz hD11 HP9 HO9 HD8
     go_wp2
     go_roundg (n - (r + 1))
     case measure => omega
     case rel => exact ⟨r + 1, hlt, rfl, by go_num, by rw [HK2.out]; exact HP11, by rw [HL2.out]; exact HO11, HD11, Hb11⟩
  ·obtain rfl : r = n := by omega
   have r1 : ¬ (r : Int) < f.regs := by rw [Hn.out]; omega
   have hpl : (List.replicate r (-1 : Int)).length = r := List.length_replicate ..
   have HDw : Hid (rowX Y r = wantL f r (L 0 0)) := lh (by rw [HY.out]; rfl)
   have hfold : (sortW (wgt f) (rowX Y r)).foldl (q4t f many Ac (rowsC C r)) (List.replicate r (-1)) = q2h f r many C Ac (L 0 0) := by rw [HDw.out]; rfl
   have hDs := q48 Y r
   have hDb : ∀ x ∈ rowX Y r, 0 ≤ x ∧ x < (r : Int) := fun x hx => (mem_rowX.1 hx).1
   have hDl := q2k Y r
   have hM1 : ∀ x ∈ rowX Y r, iAt (List.replicate r (-1)) x.toNat = -1 := fun x hx => by
    have := hDb x hx
    unfold iAt
    rw [List.getD_eq_getElem?_getD, List.getElem?_replicate, if_pos (by omega)]
    rfl
   have HM1 := lh hM1
   clear hM1
   obtain ⟨Z, hZ⟩ := nmm (q2h f r many C Ac (L 0 0))
   rw [<- hZ] at hfold HR
   obtain ⟨st, hst⟩ : ∃ st : List Int -> Int -> List Int, st = q4t f many Ac (rowsC C r) := ⟨_, rfl⟩
   rw [<- hst] at hfold
   have Hst := lh hst
   generalize rowX Y r = D at *
   generalize List.replicate r (-1 : Int) = K at *
   subst hpl
   have hPl : PlR W7.heap.size K.length pA K wr := ⟨rfl, fun hr => by
    obtain ⟨gp, cap, h1, h2, _⟩ := q4i HP.out hr
    injection h1 with h1 h3 h4
    subst h1
    exact ⟨gp, rfl, h2, (q3u HP.out).1⟩⟩
   have hpcl : K.length ≤ pc := by
    rcases HP.out.2 with ⟨h1, h2⟩ | ⟨_, _, _, h1, _, _, h2, _⟩
    ·rw [h2]; exact Nat.zero_le _
    ·injection h1 with _ _ h1
     rw [h1]; exact h2
   have HPl := lh hPl
   have hDP : ∀ gp, pA = some ⟨gp, 0, none⟩ -> (Value.slice oA D.length oc).ownBlock ≠ some gp := fun gp e => HD.out gp (by rw [e]; rfl)
   obtain ⟨HDP, Hfold, HDs, HDb, HDl⟩ := lh5 hDP hfold hDs hDb hDl
   have hxx : ∀ b ∈ f.blocks, ∀ x ∈ b.list, x.op = 1 -> x.a.reg = true -> (0 ≤ x.dst ∧ x.dst < (K.length : Int)) ∧ (0 ≤ x.a.n ∧ x.a.n < (K.length : Int)) := fun b hb x hx h1 h2 => by
    have h3 := Hfo.out.ins b hb x hx
    have h4 := h3.a h2
    have h5 := h3.opDst (by rw [h1]; rfl) (by omega)
    have h6 := h3.dst
    rw [Hn.out] at h4 h6
    exact ⟨by omega, h4⟩
   have Hxx := lh hxx
   clear hst hfold hDs hDb hDl hPl hDP hxx HP HD hZ HDw
   go_wp2
   clear x0 x1 x2 x3 lX
   go_loopg [14] D.length (fun gh s14 wr => ∃ (left pl : List Int), gh = left.length ∧ Hid (wr.ownsRow W7.heap.size 3 1 s14 left.length (left.flatMap qf)) ∧ Hid (∀ gp, pA = some ⟨gp, 0, none⟩ -> s14.ownBlock ≠ some gp) ∧ Hid (left.Pairwise (· < ·)) ∧ Hid (∀ x ∈ left, 0 ≤ x ∧ x < (K.length : Int)) ∧ left.length ≤ 100 ∧ Hid ((sortW (wgt f) left).foldl st pl = Z) ∧ Hid (PlR W7.heap.size K.length pA pl wr) ∧ Hid (∀ x ∈ left, iAt pl x.toNat = -1) ∧ Hid (Below W7.heap.size W7 wr))
   case atStart => exact ⟨D, K, rfl, HO, HDP, HDs, HDb, by have := HDl.out; omega, Hfold, HPl, HM1, Hb⟩
   case round =>
    clear HO HDP HDs HDb HDl Hfold HPl HM1 Hb
    obtain ⟨left, pl, hg, HO, HDP, HDs, HDb, h100, Hfold, HPl, HM1, Hb⟩ := hrel
    have Hgh := lh hg
    have hzr := Hb.out.size
    obtain ⟨lA, lc, hsl⟩ := qn HO.out
    subst hsl
    clear hg
    by_cases hemp : left.length = 0
    ·have hl0 : left = [] := List.eq_nil_of_length_eq_zero hemp
     subst hl0
     have hz : pl = Z := by
      have := Hfold.out
      rwa [q70] at this
     subst hz
     have hFr := (Hb.out.block _ (qc HF7.out)).trans HF7.out
     obtain ⟨f0, f1, lF⟩ := cbl hFr
     have y0 := fzz hFr 0
     have y1 := fzz hFr 1
     have Hbl := lh (qr (Hb7.out.trans (Hb.out.mono hz7)) [(⟨w.heap.size + 1, 0, none⟩, .int .i64 0), (⟨w.heap.size + 1, 1, none⟩, .int .i64 0)] (by simp))
     have hlF7 : w.heap.size + 1 < W7.heap.size := qc HF7.out
     have hSL := ((PlR.SLF (lo := W7.heap.size) HPl.out hpcl hn1 (Nat.le_refl _)).setCell ⟨w.heap.size + 1, 0, none⟩ hlF7 (.int .i64 0)).setCell ⟨w.heap.size + 1, 1, none⟩ hlF7 (.int .i64 0)
     have HSL := lh (hSL.more hz7 (Nat.le_refl _))
     have i0 : ¬ (0 : Int) < 0 := by decide
     clear hSL hFr
     go_wp2
     refine bodyPost_ret (v := .tuple #[.slice pA K.length pc, (.agg #[.int .i64 (((0 : Int), (0 : Int))).1, .int .i64 (((0 : Int), (0 : Int))).2])]) (by simp [results, Tryz.results22, go_sem, f0, f1, lF]) rfl ?_
     exact HR.out _ _ Hbl.out (by have h1 := HSL.out; simpa [World.setCell] using h1)
    ·have hpos : 0 < left.length := by omega
     obtain ⟨gl, cap, hgl, hgl1, hgl2, hgl3, hgl4⟩ := q4i HO.out hpos
     injection hgl with e1 e2 e3
     subst e1 e3
     have hIl := (q3u HO.out).1
     have hr0 : 0 < K.length := by
      obtain ⟨x, hx⟩ : ∃ x, x ∈ left := ⟨_, List.getElem_mem hpos⟩
      have := HDb.out x hx
      omega
     obtain ⟨hpll, hpl2⟩ := HPl.out
     obtain ⟨gp, rfl, hgp1, hIp⟩ := hpl2 hr0
     have hne : gl ≠ gp := fun e => HDP.out gp rfl (by rw [e]; rfl)
     obtain ⟨HIl, HIp, Hpll⟩ := lh3 hIl hIp hpll
     obtain ⟨m, hm⟩ := nmm (left.length)
     have Hml := lh hm
     have HB1 : Hid (BestI (wgt f) left 0 1) := lh BestI.first
     have HNat : Hid (∀ j, j < m -> ∃ q : Nat, iAt left j = (q : Int) ∧ q < K.length) := lh fun j hj => by
      have hj' : j < left.length := by omega
      have h1 := HDb.out _ (List.getElem_mem hj')
      rw [<- q2f hj'] at h1
      exact ⟨(iAt left j).toNat, by omega, by omega⟩
     have hm1 : (0 : Int) < (m : Int) := by omega
     have hm100 : m ≤ 100 := by omega
     obtain ⟨wo, hwo⟩ := nmm (wr)
     rw [<- hwo] at HO HIl HIp Hb hzr hgl2 ⊢
     rw [<- hm]
     clear hwo hIl hIp hpll hpl2 hm HPl HO HDP
     go_wp2
     go_loopg [16, 17] (m - 1) (fun gh s16 s17 wr => ∃ (i b : Nat), 1 ≤ i ∧ i ≤ m ∧ gh = m - i ∧ s16 = .int .i64 (b : Int) ∧ s17 = .int .i64 (i : Int) ∧ Hid (BestI (wgt f) left b i) ∧ Hid (Below wo.heap.size wo wr))
     case atStart => exact ⟨1, 0, Nat.le_refl _, by omega, rfl, rfl, rfl, HB1, lh (Below.refl _ _)⟩
     case round =>
      clear HB1
      obtain ⟨i, b, hi1, him, rfl, rfl, rfl, HBI, Hb8⟩ := hrel
      have hz8 := Hb8.out.size
      have i1 := nnn i
      have b1 := nnn b
      by_cases hlt : i < m
      ·have i2 : (i : Int) < (m : Int) := by omega
       have hbm : b < m := by have := HBI.out.1; omega
       have b2 : (b : Int) < (m : Int) := by omega
       have Hb9 := lh (Hb.out.trans (Hb8.out.mono hzr))
       have hXr := (Hb9.out.block _ (qc HX7.out)).trans HX7.out
       have hIr := HIl.out.below Hb8.out
       have ci := hIr.cell (k := i) (by rw [<- Hml.out]; exact hlt)
       have cb := hIr.cell (k := b) (by rw [<- Hml.out]; exact hbm)
       have lgl := hIr.lt
       obtain ⟨qi, hqi, _⟩ := HNat.out i hlt
       obtain ⟨qb, hqb, _⟩ := HNat.out b hbm
       have hbs := HBI.out.step
       rw [hqi] at ci
       rw [hqb] at cb
       rw [hqi, hqb] at hbs
       have hS0 : wr.cell? ⟨X, 0, none⟩ = some (.string f.name) ∧ wr.cell? ⟨X, 1, none⟩ = some (.int .i64 f.params) ∧ wr.cell? ⟨X, 2, none⟩ = some (.int .i64 f.regs) ∧ wr.cell? ⟨X, 3, none⟩ = some (.slice bA f.blocks.length bc) ∧ wr.cell? ⟨gl, i, none⟩ = some (.int .i64 (qi : Int)) ∧ wr.cell? ⟨gl, b, none⟩ = some (.int .i64 (qb : Int)) := ⟨by rw [qe hXr]; rfl, by rw [qe hXr]; rfl, by rw [qe hXr]; rfl, by rw [qe hXr]; rfl, ci, cb⟩
       have lX := qc hXr
       have HSS : Hid (∀ W, Below wr.heap.size wr W -> W.cell? ⟨X, 0, none⟩ = some (.string f.name) ∧ W.cell? ⟨X, 1, none⟩ = some (.int .i64 f.params) ∧ W.cell? ⟨X, 2, none⟩ = some (.int .i64 f.regs) ∧ W.cell? ⟨X, 3, none⟩ = some (.slice bA f.blocks.length bc) ∧ W.cell? ⟨gl, i, none⟩ = some (.int .i64 (qi : Int)) ∧ W.cell? ⟨gl, b, none⟩ = some (.int .i64 (qb : Int))) := lh fun W hW => ⟨(hW.cell (p := ⟨X, 0, none⟩) lX).trans hS0.1, (hW.cell (p := ⟨X, 1, none⟩) lX).trans hS0.2.1, (hW.cell (p := ⟨X, 2, none⟩) lX).trans hS0.2.2.1, (hW.cell (p := ⟨X, 3, none⟩) lX).trans hS0.2.2.2.1, (hW.cell (p := ⟨gl, i, none⟩) lgl).trans hS0.2.2.2.2.1, (hW.cell (p := ⟨gl, b, none⟩) lgl).trans hS0.2.2.2.2.2⟩
       have hzr8 : W7.heap.size ≤ wr.heap.size := Hb9.out.size
       have HSW : Hid (∀ W, Below wr.heap.size wr W -> rpBlk.SL W W.heap.size f.blocks (.slice bA f.blocks.length bc)) := lh fun W hW => Hs7.out.up (Hb9.out.trans (hW.mono hzr8)) (Nat.le_trans hzr8 hW.size)
       have Hwi : Hid (∀ (w : World), rpBlk.SL w w.heap.size f.blocks (.slice bA f.blocks.length bc) -> ∀ R : Ending -> World -> Prop, (∀ w', Below w.heap.size w w' -> R (.returned (.int .i64 (wgt f (qi : Int)))) w') -> Calls Tryz.prog 49 #[.agg #[.string f.name, .int .i64 f.params, .int .i64 f.regs, .slice bA f.blocks.length bc], .int .i64 (qi : Int)] w R) := lh fun w h R hR => q3o f _ _ qi w h Hnb.out.2 R (by rw [qbw Hfo.out]; exact hR)
       have Hwb : Hid (∀ (w : World), rpBlk.SL w w.heap.size f.blocks (.slice bA f.blocks.length bc) -> ∀ R : Ending -> World -> Prop, (∀ w', Below w.heap.size w w' -> R (.returned (.int .i64 (wgt f (qb : Int)))) w') -> Calls Tryz.prog 49 #[.agg #[.string f.name, .int .i64 f.params, .int .i64 f.regs, .slice bA f.blocks.length bc], .int .i64 (qb : Int)] w R) := lh fun w h R hR => q3o f _ _ qb w h Hnb.out.2 R (by rw [qbw Hfo.out]; exact hR)
       generalize wgt f (qi : Int) = wi at *
       generalize wgt f (qb : Int) = wv at *
       have Hbs := lh hbs
       clear hbs hqi hqb hXr hIr ci cb HBI
       go_upto_region 21 with fail
       go_region_held3 (fun W : World => W.cell? ⟨X, 0, none⟩ = some (.string f.name) ∧ W.cell? ⟨X, 1, none⟩ = some (.int .i64 f.params) ∧ W.cell? ⟨X, 2, none⟩ = some (.int .i64 f.regs) ∧ W.cell? ⟨X, 3, none⟩ = some (.slice bA f.blocks.length bc) ∧ W.cell? ⟨gl, i, none⟩ = some (.int .i64 (qi : Int)) ∧ W.cell? ⟨gl, b, none⟩ = some (.int .i64 (qb : Int))) (first | with_reducible exact hS0 | with_reducible exact hSa | with_reducible exact hSb | go_keep) (first
        | (go_at_call 49; with_reducible refine Hwi.out _ (HSW.out _ (by first | with_reducible exact hbb8 | exact bl0)) _ ?_; intro wa hba; have hba8 : Below wr.heap.size wr wa := (by first | with_reducible exact hbb8 | exact bl0 : Below wr.heap.size wr _).trans (hba.mono (by first | exact hbb8.size | (simp; done))); have hSa := HSS.out wa hba8)
        | (go_at_call 49; with_reducible refine Hwb.out _ (HSW.out _ (by first | with_reducible exact hba8 | exact bl0)) _ ?_; intro wb hbb; have hbb8 : Below wr.heap.size wr wb := (by first | with_reducible exact hba8 | exact bl0 : Below wr.heap.size wr _).trans (hbb.mono (by first | exact hba8.size | (simp; done))); have hSb := HSS.out wb hbb8))
       have Hb10 := btt Hb8 hbb8 hz8
       clear hS0 hSa hSb hba8 hbb8 hba hbb
       by_cases hgt : wv < wi
       ·have hgt2 : wi > wv := hgt
        have HBI := lh (Hbs.out.1 hgt)
        go_wp2
        go_roundg (m - (i + 1))
        case measure => omega
        case rel => exact ⟨i + 1, i, by omega, by omega, rfl, rfl, by go_num, HBI, Hb10⟩
       ·have hgt2 : wi ≤ wv := by omega
        have HBI := lh (Hbs.out.2 hgt2)
        go_wp2
        go_roundg (m - (i + 1))
        case measure => omega
        case rel => exact ⟨i + 1, b, by omega, by omega, rfl, rfl, by go_num, HBI, Hb10⟩
      ·obtain rfl : i = m := by omega
       have i2 : ¬ (i : Int) < (i : Int) := by omega
       have hbi := HBI.out
       rw [Hml.out] at hbi
       have hsrt := hbi.sort HDs.out
       have hbm : b < left.length := hbi.1
       obtain ⟨q, hq, hqr⟩ := HNat.out b (by rw [Hml.out]; exact hbm)
       rw [hq] at hsrt
       have Hb9 := lh (Hb.out.trans (Hb8.out.mono hzr))
       have hIr := HIl.out.below Hb8.out
       have cb := hIr.cell hbm
       rw [hq] at cb
       have lgl := hIr.lt
       have HLC : Hid (∀ W, Below wr.heap.size wr W -> ∀ j, j < left.length -> W.cell? ⟨gl, j, none⟩ = some (.int .i64 (iAt left j))) := lh fun W hW j hj => (hW.cell (p := ⟨gl, j, none⟩) lgl).trans (hIr.cell hj)
       obtain ⟨Hsrt, Hq⟩ := lh2 hsrt hq
       obtain ⟨b1', hb1'⟩ := nmm (b + 1)
       have eb : (b : Int) + 1 = (b1' : Int) := by omega
       have Hb1 := lh hb1'
       have ewb : IntKind.i64.wrap ((b : Int) + 1) = (b1' : Int) := (IntWalk.i64_in _ (by have := Hml.out; omega)).trans eb
       have ewb2 : IntKind.i64.wrap (b1' : Int) = (b1' : Int) := IntWalk.i64_in _ (by have := Hml.out; omega)
       have b2 := nnn b
       have g1 : (b : Int) < (i : Int) := by have := Hml.out; omega
       have g2 : (b : Int) ≤ (lc : Int) := by have := Hml.out; omega
       have g3 : (b1' : Int) ≤ (i : Int) := by have := Hml.out; omega
       have g4 : (i : Int) ≤ (lc : Int) := by have := Hml.out; omega
       have g5 : (0 : Int) ≤ (b1' : Int) := Int.natCast_nonneg _
       clear hbi hsrt hq hIr hb1' HBI eb
       go_upto_region 24 with fail
       obtain ⟨N1, hN1⟩ := nmm ((left.take b).flatMap qf)
       obtain ⟨N2, hN2⟩ := nmm ((left.drop b1').flatMap qf)
       obtain ⟨m2, hm2⟩ := nmm (i - b1')
       have Hm2 := lh hm2
       have HN1l : Hid (N1.length = b * 1) := lh (by rw [hN1, qch, List.length_take]; omega)
       have HN2l : Hid (N2.length = m2 * 1) := lh (by rw [hN2, qch, List.length_drop, hm2, Hml.out])
       have HN1o : Hid (∀ u ∈ N1, u.oneCell' = true) := lh (by rw [hN1]; exact qcs _)
       have HN2o : Hid (∀ u ∈ N2, u.oneCell' = true) := lh (by rw [hN2]; exact qcs _)
       have HN1c : Hid (∀ W, Below wr.heap.size wr W -> ∀ j u, N1[j]? = some u -> W.cell? ((⟨gl, 0, none⟩ : Addr).add j) = some u) := lh fun W hW => by
        rw [hN1]
        refine qae fun j hj => ?_
        rw [List.length_take] at hj
        rw [Nat.zero_add, HLC.out W hW j (by omega)]
        unfold iAt
        rw [List.getD_eq_getElem?_getD, List.getD_eq_getElem?_getD, List.getElem?_take, if_pos (by omega)]
       have HN2c : Hid (∀ W, Below wr.heap.size wr W -> ∀ j u, N2[j]? = some u -> W.cell? ((⟨gl, b1', none⟩ : Addr).add j) = some u) := lh fun W hW => by
        rw [hN2]
        refine qae fun j hj => ?_
        rw [List.length_drop] at hj
        rw [HLC.out W hW (b1' + j) (by omega)]
        unfold iAt
        rw [List.getD_eq_getElem?_getD, List.getD_eq_getElem?_getD, List.getElem?_drop]
       have HE : Hid (b + m2 = (left.eraseIdx b).length ∧ N1 ++ N2 = (left.eraseIdx b).flatMap qf) := lh ⟨by rw [List.length_eraseIdx, if_pos hbm, hm2, Hml.out, Hb1.out]; omega, by rw [hN1, hN2, <- List.flatMap_append, List.eraseIdx_eq_take_drop_succ, Hb1.out]⟩
       have hm22 : b + m2 ≤ 100 := by have := Hml.out; have := Hb1.out; omega
       clear hN1 hN2 hm2
       have lcn : ¬ lc = 0 := by have := Hml.out; omega
       have lcn2 : ¬ 0 = lc := fun e => lcn e.symm
       obtain ⟨A2, hA2, hnews2⟩ : ∃ A : Addr, (if lc = b1' then some (⟨gl, 0, none⟩ : Addr) else some ⟨gl, b1', none⟩) = some A ∧ Hid (∀ W, Below wr.heap.size wr W -> ∀ j u, N2[j]? = some u -> W.cell? (A.add j) = some u) := by
        by_cases h : lc = b1'
        ·refine ⟨⟨gl, 0, none⟩, by rw [if_pos h], lh fun W hW j u hj => ?_⟩
         have h1 := (List.getElem?_eq_some_iff.1 hj).1
         rw [HN2l.out] at h1
         have := Hm2.out
         omega
        ·exact ⟨⟨gl, b1', none⟩, by rw [if_neg h], HN2c⟩
       have hsb : i - b1' = m2 := Hm2.out.symm
       have htn : ((b1' : Int)).toNat = b1' := rfl
       go_cut [14] (fun s14 wx => Hid (wx.ownsRow wr.heap.size 3 1 s14 (left.eraseIdx b).length ((left.eraseIdx b).flatMap qf)) ∧ Hid (Below wr.heap.size wr wx))
       case first =>
        go_region_law (first | (refine q4b rfl (.const (.slice none 0 0)) (.tmp 106) 26 rfl wr.heap.size 3 i0 _ 1 8 Tryz.underlying26 hi0 hz0 hz1 hz2 rfl (by decide) (.slice none 0 0) 0 [] (by rfl) (World.ownsRow_nil _ _ _ _) ⟨gl, 0, none⟩ b lc N1 (by simp [Act.eval, Act.put]) HN1l.out (HN1c.out _ (by exact bl0)) HN1o.out (by unfold maxLen; omega) (by omega) (Nat.le_refl _) ?_; intro v1 w1 hown1 hgr1 hnil1) | (refine q4b rfl (.tmp 107) (.tmp 111) 26 rfl wr.heap.size 3 i0 _ 1 8 Tryz.underlying26 hi0 hz0 hz1 hz2 rfl (by decide) v1 (0 + b) _ (by simp [Act.eval, Act.put]) hown1 A2 m2 (lc - b1') N2 (by simp [Act.eval, Act.put]) HN2l.out (hnews2.out _ ((by exact bl0 : Below wr.heap.size wr _).grown hgr1 (Nat.le_refl _) (fun j e => by cases e))) HN2o.out (by unfold maxLen; omega) (by omega) (by have := hgr1.size; exact this) ?_; intro v2 w2 hown2 hgr2 hnil2))
        have hbw1 : Below wr.heap.size wr w1 := (by exact bl0 : Below wr.heap.size wr _).grown hgr1 (Nat.le_refl _) (fun j e => by cases e)
        have hbw2 : Below wr.heap.size wr w2 := hbw1.grown hgr2 hbw1.size (fun j e => (hown1.lt j e).1)
        have HOz : Hid (w2.ownsRow wr.heap.size 3 1 v2 (left.eraseIdx b).length ((left.eraseIdx b).flatMap qf)) := lh (by
         have h1 := hown2
         rw [List.nil_append, HE.out.2, Nat.zero_add, HE.out.1] at h1
         exact h1)
        have HBz := lh hbw2
        clear hown2 hgr2 hbw2 hown1 hgr1 hbw1 hnil1 hnil2
        obtain ⟨A3, c3, hv3⟩ := qn HOz.out
        subst hv3
        go_wp2
        go_meet
        exact ⟨HOz, HBz⟩
       case rest =>
        obtain ⟨HO2, Hbx⟩ := hcut
        rename World => wx
        obtain ⟨lA2, lc2, hsl⟩ := qn HO2.out
        subst hsl
        have Hb12 := lh (Hb9.out.trans (Hbx.out.mono Hb9.out.size))
        have HIp2 := lh (HIp.out.below (Hb8.out.trans (Hbx.out.mono Hb8.out.size)))
        have hz12 := Hb12.out.size
        have HXr := lh ((Hb12.out.block _ (qc HX7.out)).trans HX7.out)
        obtain ⟨x0, x1, x2, x3⟩ := cq4 HXr.out
        have lX := qc HXr.out
        have lgp := HIp2.out.lt
        clear lgl hA2 hnews2 hsb htn HN1l HN2l HN1o HN2o HN1c HN2c Hm2 ewb ewb2 cb lcn lcn2 HLC
        go_upto_region 25 with fail
        go_cut [19] (fun s19 wy => Hid (Below wx.heap.size wx wy) ∧ Hid (wy.ownsRow wx.heap.size 3 1 s19 (askR f pl (q : Int)).length ((askR f pl (q : Int)).flatMap qf)))
        case first =>
         go_wp2_with fail
         refine qd6 f pl many q gp K.length pc Hpll.out Hlen.out Hnb.out.2 Hxx.out _ _ _ (Hs7.out.up Hb12.out hz12) HIp2.out _ (fun w13 v13 hb13 hown13 => ?_)
         obtain ⟨HB13, HOW⟩ := lh2 hb13 hown13
         obtain ⟨v13A, v13c, hv13⟩ := qn hown13
         subst hv13
         clear hb13 hown13
         go_wp2
         go_meet
         exact ⟨HB13, HOW⟩
        case rest =>
         obtain ⟨HB13, HOW⟩ := hcut
         rename World => w13
         have hb13 := HB13.out
         have hown13 := HOW.out
         clear HB13 HOW
         obtain ⟨Wl, hWl⟩ := nmm (askR f pl (q : Int))
         rw [<- hWl] at hown13
         have hWp : 0 < Wl.length := by rw [hWl]; unfold askR; rw [List.length_append, q1g]; omega
         obtain ⟨gw, wc, rfl, hgw1, hgw2, hgw3, hgw4⟩ := q4i hown13 hWp
         have HIw := lh (q3u hown13).1
         have hgwp : gw ≠ gp := by omega
         have HWl := lh hWl
         have hlr : (rowsC C K.length).length = K.length := Hrl.out
         obtain ⟨rb, ro, ru, rfl, hrb, hrc, hru⟩ := q3e Hsl7.out (k := q) (by rw [hlr]; exact hqr)
         obtain ⟨row, hrow⟩ : ∃ row, row = (rowsC C K.length)[q]'(by rw [hlr]; exact hqr) := ⟨_, rfl⟩
         rw [<- hrow] at hru
         have hrm : ∀ o ∈ row, 0 ≤ o ∧ o < (K.length : Int) := fun o ho => by
          rw [hrow] at ho
          unfold rowsC at ho
          rw [List.getElem_map] at ho
          exact (mem_rowX.1 ho).1
         have hrl' : row.length ≤ 100 := by
          rw [hrow]
          unfold rowsC
          rw [List.getElem_map]
          exact Nat.le_trans (q2k _ _) hn1
         have hgd : (rowsC C K.length).getD q [] = row := by rw [hrow, List.getD_eq_getElem?_getD, List.getElem?_eq_getElem (by rw [hlr]; exact hqr)]; rfl
         obtain ⟨fr, hfr⟩ := nmm (freeB many (Ac (q : Int)) row pl)
         obtain ⟨pp, hpp⟩ := nmm (q4q f many (Ac (q : Int)) row pl (q : Int))
         have HP1 : Hid (pp = match Wl.find? fr with | some p => p | none => slotP (q1e row pl)) := lh (by rw [hpp, qdt Hpll.out Hxx.out Hm.out, <- hWl, <- hfr])
         have HFd : Hid ((sortW (wgt f) (left.eraseIdx b)).foldl st (pl.set q pp) = Z) := lh (by
          have h1 := Hfold.out
          rw [Hsrt.out, List.foldl_cons, Hst.out] at h1
          rw [Hst.out, hpp, <- hgd]
          exact h1)
         obtain ⟨rA, rc, rfl, _, _, hru⟩ := hru.cases_
         obtain ⟨Hru, Hrm, Hfr⟩ := lh3 hru hrm hfr
         have Hb13 := btt Hb12 hb13 hz12
         have HIp3 := lh (HIp2.out.below hb13)
         have HO3 := lh (q0e HO2.out hb13)
         have Hpq : Hid (iAt pl q = -1) := lh (by
          have h1 := HM1.out _ (List.getElem_mem hbm)
          rw [<- q2f hbm, Hq.out] at h1
          exact h1)
         have hz13 := Hb13.out.size
         have lgp3 : gp < w13.heap.size := HIp3.out.lt
         clear hown13 hb13 hWl hlr hrow hru hrm hgd hfr hpp x0 x1 x2 x3 lX HXr HIp2 HO2
         go_step
         go_step
         go_cut [20, 21] (fun s20 s21 wy => ∃ (pl' : List Int), Hid (Grew (fun j => j = gp) w13 wy) ∧ Hid (IntAt gp pl' wy) ∧ Hid ((pl' = pl ∧ ∀ x ∈ Wl, fr x = false) ∨ (∃ p, pl' = pl.set q p ∧ 0 ≤ p ∧ Wl.find? fr = some p)))
         case first =>
          go_wp2_with fail
          go_loopg [20, 21] Wl.length (fun gh s20 s21 wy => ∃ (i : Nat) (pl' : List Int), i ≤ Wl.length ∧ gh = Wl.length - i ∧ s20 = .int .i64 (i : Int) ∧ Hid (Grew (fun j => j = gp) w13 wy) ∧ Hid (IntAt gp pl' wy) ∧ Hid ((pl' = pl ∧ ∀ x ∈ Wl.take i, fr x = false) ∨ (∃ p, pl' = pl.set q p ∧ 0 ≤ p ∧ Wl.find? fr = some p)))
          case atStart => exact ⟨0, pl, Nat.zero_le _, rfl, rfl, lh (Grew.refl _ _), HIp3, lh (.inl ⟨rfl, fun x hx => by cases hx⟩)⟩
          case round =>
           obtain ⟨i, pl', hi, rfl, rfl, HG, HIp4, HF⟩ := hrel
           have HbW := lh (Hb13.out.trans (HG.out.below (fun k hk e => absurd hgp1 (by have e' : k = gp := e; rw [<- e']; exact Nat.not_le_of_lt hk)) hz13))
           have hzW := HbW.out.size
           have i0' : (0 : Int) ≤ (i : Int) := Int.natCast_nonneg _
           have q0 := nnn q
           have q1 : (q : Int) < (K.length : Int) := by omega
           have HF2 := HF.out
           clear HF
           rcases HF2 with ⟨hpe, hno⟩ | ⟨p, hpe, hp0, hfind⟩
           ·rw [hpe] at HIp4
            clear hpe
            have cp := HIp4.out.cell (k := q) (by rw [Hpll.out]; exact hqr)
            rw [Hpq.out] at cp
            have lgp4 := HIp4.out.lt
            have yf := HIp4.out.frozen q
            by_cases hlt : i < Wl.length
            ·have i1' : (i : Int) < (Wl.length : Int) := Int.ofNat_lt.2 hlt
             have hIw4 := HIw.out.grew HG.out hgwp
             have ci := hIw4.cell hlt
             have lgw4 := hIw4.lt
             have HN1 := lh (qjf (fr := fr) hlt hno)
             have HFo := lh (qhl (fr := fr) hlt hno)
             obtain ⟨z, hz⟩ := nmm (iAt Wl i)
             rw [<- hz] at ci HN1 HFo
             have Hfz : Hid (fr z = (q2p many z && (decide (6 ≤ z) || !Ac (q : Int)) && !q1e row pl z)) := lh (by rw [Hfr.out, freeB])
             have Hlt := lh hlt
             have crow : wr.cell? ⟨rb, ro + q, none⟩ = some (.slice rA row.length rc) := (HbW.out.cell (p := ⟨rb, ro + q, none⟩) hrb).trans hrc
             have lrb : rb < wr.heap.size := Nat.lt_of_lt_of_le hrb hzW
             clear hIw4 hz hno hlt
             by_cases hgv : q2p many z = true
             ·by_cases htk : q1e row pl z = true
              ·have HN2 := lh (HN1.out (by rw [Hfz.out, htk]; simp))
               obtain ⟨Hgv, Htk⟩ := lh2 hgv htk
               clear hgv htk
               go_wp2_with (first | (go_at_call 12; refine q2l many Hm.out z _ _ ?_; rw [Hgv.out]) | (go_at_call 51; refine q1q row pl _ gp K.length pc z Hpll.out Hrm.out _ (Hru.out.up HbW.out hzW) HIp4.out _ ?_; rw [q3x Hpll.out Hrm.out, Htk.out]))
               go_roundg (Wl.length - (i + 1))
               case measure => have := Hlt.out; omega
               case rel => exact ⟨i + 1, pl, Hlt.out, rfl, by go_num, HG, HIp4, lh (.inl ⟨rfl, HN2.out⟩)⟩
              ·have htk : q1e row pl z = false := by simpa using htk
               by_cases h6 : 6 ≤ z
               ·have Hfd := lh (HFo.out (by rw [Hfz.out, hgv, htk, decide_eq_true h6]; rfl))
                have hz0 := (q83 hgv Hm.out).1
                obtain ⟨Hgv, Htk⟩ := lh2 hgv htk
                have h6' : z ≥ 6 := h6
                have HG' := lh (HG.out.setCell ⟨gp, q, none⟩ (.inl rfl) (.int .i64 z))
                have HI' := lh (HIp4.out.set q z)
                clear hgv htk
                go_wp2_with (first | (go_at_call 12; refine q2l many Hm.out z _ _ ?_; rw [Hgv.out]) | (go_at_call 51; refine q1q row pl _ gp K.length pc z Hpll.out Hrm.out _ (Hru.out.up HbW.out hzW) HIp4.out _ ?_; rw [q3x Hpll.out Hrm.out, Htk.out]))
                go_roundg (Wl.length - (i + 1))
                case measure => have := Hlt.out; omega
                case rel => exact ⟨i + 1, pl.set q z, Hlt.out, rfl, by go_num, HG', HI', lh (.inr ⟨z, rfl, hz0, Hfd.out⟩)⟩
               ·have h6n : ¬ z ≥ 6 := h6
                by_cases hac : Ac (q : Int) = true
                ·have HN2 := lh (HN1.out (by rw [Hfz.out, decide_eq_false h6, hac]; simp))
                 obtain ⟨Hgv, Htk⟩ := lh2 hgv htk
                 have Hwi : Hid (decide ((q : Int) ∈ rowX Ac K.length) = true) := lh (by rw [decide_eq_true_eq, mem_rowX]; exact ⟨⟨q0, q1⟩, hac⟩)
                 clear hgv htk hac
                 go_wp2_with (first | (go_at_call 12; refine q2l many Hm.out z _ _ ?_; rw [Hgv.out]) | (go_at_call 51; refine q1q row pl _ gp K.length pc z Hpll.out Hrm.out _ (Hru.out.up HbW.out hzW) HIp4.out _ ?_; rw [q3x Hpll.out Hrm.out, Htk.out]) | (go_at_call 52; refine q42 (rowX Ac K.length) _ (q : Int) _ (Hac7.out.up HbW.out hzW) _ ?_; rw [Hwi.out]))
                 go_roundg (Wl.length - (i + 1))
                 case measure => have := Hlt.out; omega
                 case rel => exact ⟨i + 1, pl, Hlt.out, rfl, by go_num, HG, HIp4, lh (.inl ⟨rfl, HN2.out⟩)⟩
                ·have hac : Ac (q : Int) = false := by simpa using hac
                 have Hfd := lh (HFo.out (by rw [Hfz.out, hgv, htk, hac]; simp))
                 have hz0 := (q83 hgv Hm.out).1
                 obtain ⟨Hgv, Htk⟩ := lh2 hgv htk
                 have Hwi : Hid (decide ((q : Int) ∈ rowX Ac K.length) = false) := lh (by rw [decide_eq_false_iff_not, mem_rowX, hac]; exact fun h => by cases h.2)
                 have HG' := lh (HG.out.setCell ⟨gp, q, none⟩ (.inl rfl) (.int .i64 z))
                 have HI' := lh (HIp4.out.set q z)
                 clear hgv htk hac
                 go_wp2_with (first | (go_at_call 12; refine q2l many Hm.out z _ _ ?_; rw [Hgv.out]) | (go_at_call 51; refine q1q row pl _ gp K.length pc z Hpll.out Hrm.out _ (Hru.out.up HbW.out hzW) HIp4.out _ ?_; rw [q3x Hpll.out Hrm.out, Htk.out]) | (go_at_call 52; refine q42 (rowX Ac K.length) _ (q : Int) _ (Hac7.out.up HbW.out hzW) _ ?_; rw [Hwi.out]))
                 go_roundg (Wl.length - (i + 1))
                 case measure => have := Hlt.out; omega
                 case rel => exact ⟨i + 1, pl.set q z, Hlt.out, rfl, by go_num, HG', HI', lh (.inr ⟨z, rfl, hz0, Hfd.out⟩)⟩
             ·have hgv : q2p many z = false := by simpa using hgv
              have HN2 := lh (HN1.out (by rw [Hfz.out, hgv]; rfl))
              have Hgv := lh hgv
              clear hgv
              go_wp2_with (go_at_call 12; refine q2l many Hm.out z _ _ ?_; rw [Hgv.out])
              go_roundg (Wl.length - (i + 1))
              case measure => have := Hlt.out; omega
              case rel => exact ⟨i + 1, pl, Hlt.out, rfl, by go_num, HG, HIp4, lh (.inl ⟨rfl, HN2.out⟩)⟩
            ·obtain rfl : i = Wl.length := by omega
             have i1' : ¬ (Wl.length : Int) < (Wl.length : Int) := by omega
             rw [List.take_length] at hno
             have Hno := lh hno
             clear hno
             go_wp2
             go_meet
             exact ⟨pl, HG, HIp4, lh (.inl ⟨rfl, Hno.out⟩)⟩
           ·rw [hpe] at HIp4
            clear hpe
            have cp := HIp4.out.cell (k := q) (by rw [List.length_set, Hpll.out]; exact hqr)
            rw [q3b (by rw [Hpll.out]; exact hqr), if_pos rfl] at cp
            have lgp4 := HIp4.out.lt
            have Hfind := lh hfind
            have hpn : ¬ p < 0 := by omega
            clear hfind
            by_cases hlt : i < Wl.length
            ·have i1' : (i : Int) < (Wl.length : Int) := Int.ofNat_lt.2 hlt
             go_wp2
             go_meet
             exact ⟨pl.set q p, HG, HIp4, lh (.inr ⟨p, rfl, hp0, Hfind.out⟩)⟩
            ·have i1' : ¬ (i : Int) < (Wl.length : Int) := by omega
             go_wp2
             go_meet
             exact ⟨pl.set q p, HG, HIp4, lh (.inr ⟨p, rfl, hp0, Hfind.out⟩)⟩
         case rest =>
          obtain ⟨pl', HG, HIp4, HF⟩ := hcut
          rename World => wy
          have HbY := lh (Hb13.out.trans (HG.out.below (fun k hk e => absurd hgp1 (by have e' : k = gp := e; rw [<- e']; exact Nat.not_le_of_lt hk)) hz13))
          have hzY := HbY.out.size
          have hown2 : ∀ k, (Value.slice lA2 (left.eraseIdx b).length lc2).ownBlock = some k -> ¬ k = gp := fun k hk e => by
           have h1 := (HO3.out.lt k hk).1
           have h2 := HIp.out.lt
           have h3 := Hb8.out.size
           omega
          have HOY := lh (qag HO3.out HG.out hown2)
          obtain ⟨j0, hj0, hsl, hfree, htak⟩ := q9k (row := row) (pl := pl) hrl'
          have HS : Hid ((pl' = pl.set q pp ∧ 0 ≤ pp) ∨ (pl' = pl ∧ pp = 16 + (j0 : Int))) := lh (by
           rcases HF.out with ⟨h1, h2⟩ | ⟨p, h1, h2, h3⟩
           ·right
            refine ⟨h1, ?_⟩
            rw [HP1.out, List.find?_eq_none.2 (fun x hx => by rw [h2 x hx]; decide)]
            exact hsl
           ·left
            have : pp = p := by rw [HP1.out, h3]
            rw [this]
            exact ⟨h1, h2⟩)
          obtain ⟨HTk, HFr, Hown2, Hj0⟩ := lh4 htak hfree hown2 hj0
          clear HF hsl hfree htak hown2 hj0 HP1 HIw hgw1 hgw2 hgw3 hgw4 hgwp HG lgp3
          go_wp2
          go_loopg [22] 102 (fun gh s22 wz => ∃ (j : Nat) (pz : List Int), j ≤ 101 ∧ gh = 102 - j ∧ s22 = .int .i64 (16 + (j : Int)) ∧ Hid (Grew (fun j => j = gp) wy wz) ∧ Hid (IntAt gp pz wz) ∧ Hid ((pz = pl.set q pp ∧ 0 ≤ pp) ∨ (pz = pl ∧ pp = 16 + (j0 : Int) ∧ j ≤ j0)))
          case atStart => exact ⟨0, pl', by omega, rfl, rfl, lh (Grew.refl _ _), HIp4, lh (by rcases HS.out with h | ⟨h1, h2⟩; exact .inl h; exact .inr ⟨h1, h2, Nat.zero_le _⟩)⟩
          case round =>
           clear HIp4 HS
           obtain ⟨j, pz, hj, rfl, rfl, HGz, HIz, HFz⟩ := hrel
           have HbZ := lh (HbY.out.trans (HGz.out.below (fun k hk e => absurd hgp1 (by have e' : k = gp := e; rw [<- e']; exact Nat.not_le_of_lt hk)) hzY))
           have hzZ := HbZ.out.size
           have q0 := nnn q
           have q1 : (q : Int) < (K.length : Int) := Int.ofNat_lt.2 hqr
           have HF2 := HFz.out
           clear HFz
           rcases HF2 with ⟨hpe, hp0⟩ | ⟨hpe, hpp, hjj⟩
           ·rw [hpe] at HIz
            clear hpe
            have cp := HIz.out.cell (k := q) (by rw [List.length_set, Hpll.out]; exact hqr)
            rw [q3b (by rw [Hpll.out]; exact hqr), if_pos rfl] at cp
            have lgp4 := HIz.out.lt
            have HOZ := lh (q0u (B' := W7.heap.size) (qag HOY.out HGz.out Hown2.out) Hb9.out.size)
            obtain ⟨L1, L2, L3, L4⟩ := qfu (pp := pp) HDs.out HDb.out HM1.out hbm Hq.out Hpll.out hqr
            obtain ⟨HL1, HL2, HL4⟩ := lh3 L1 L2 L4
            have hpn : ¬ pp < 0 := by omega
            have HPz : Hid (PlR W7.heap.size K.length (some ⟨gp, 0, none⟩) (pl.set q pp) _) := lh ⟨by rw [List.length_set, Hpll.out], fun _ => ⟨gp, rfl, hgp1, HIz.out⟩⟩
            clear L1 L2 L4
            go_wp2
            go_roundg (left.eraseIdx b).length
            case measure => have := Hgh.out; omega
            case rel => exact ⟨left.eraseIdx b, pl.set q pp, rfl, HOZ, lh (fun gp' e hk => Hown2.out gp' hk (by injection e with e; injection e with e _ _; exact e.symm)), HL1, HL2, by omega, HFd, HPz, HL4, HbZ⟩
           ·rw [hpe] at HIz
            clear hpe
            have cp := HIz.out.cell (k := q) (by rw [Hpll.out]; exact hqr)
            rw [Hpq.out] at cp
            have lgp4 := HIz.out.lt
            have yf := HIz.out.frozen q
            have crow : World.cell? _ ⟨rb, ro + q, none⟩ = some (.slice rA row.length rc) := (HbZ.out.cell (p := ⟨rb, ro + q, none⟩) hrb).trans hrc
            have lrb := Nat.lt_of_lt_of_le hrb hzZ
            have ewj : IntKind.i64.wrap (16 + (j : Int) + 1) = 16 + ((j + 1 : Nat) : Int) := (IntWalk.i64_in _ (by omega)).trans (by omega)
            by_cases hlt : j < j0
            ·have Htk := lh (HTk.out j hlt)
             have Hlt := lh hlt
             clear hlt
             go_wp2_with (go_at_call 51; refine q1q row pl _ gp K.length pc (16 + (j : Int)) Hpll.out Hrm.out _ (Hru.out.up HbZ.out hzZ) HIz.out _ ?_; rw [q3x Hpll.out Hrm.out, Htk.out])
             go_roundg (102 - (j + 1))
             case measure => omega
             case rel => exact ⟨j + 1, pl, by have := Hlt.out; have := Hj0.out; omega, rfl, by go_num, HGz, HIz, lh (.inr ⟨rfl, hpp, Hlt.out⟩)⟩
            ·obtain rfl : j = j0 := by omega
             have Htk := HFr
             have HG' := lh (HGz.out.setCell ⟨gp, q, none⟩ (.inl rfl) (.int .i64 (16 + (j : Int))))
             have HI' := lh (HIz.out.set q (16 + (j : Int)))
             go_wp2_with (go_at_call 51; refine q1q row pl _ gp K.length pc (16 + (j : Int)) Hpll.out Hrm.out _ (Hru.out.up HbZ.out hzZ) HIz.out _ ?_; rw [q3x Hpll.out Hrm.out, Htk.out])
             go_roundg (102 - (j + 1))
             case measure => omega
             case rel => exact ⟨j + 1, pl.set q pp, by have := Hj0.out; omega, rfl, by go_num, HG', by rw [hpp]; exact HI', lh (.inl ⟨rfl, by omega⟩)⟩
end Go.Proofs.YtdanebboiekieaaGreatDoor
