/- The walks, part 15. -/
import Derived.Test.YtdanebboiekieaaGreatDoorP14
set_option linter.unusedSimpArgs false
set_option linter.unusedVariables false
set_option maxRecDepth 100000
set_option maxHeartbeats 16000000
namespace Go.Proofs.YtdanebboiekieaaGreatDoor
open Go.RowKit
theorem qip {l : List UIns} {L : Nat -> Int -> Bool} : ∀ (m : Nat) (Y : Int -> Bool) (z : Int), runB updA l L m Y z = true ↔ (Y z = true ∨ ∃ k x, k < m ∧ l[k]? = some x ∧ x.op = 20 ∧ x.dst ≠ z ∧ L (k + 1) z = true)
 | 0, Y, z => by
   simp only [runB]
   constructor
   ·exact fun h => .inl h
   ·rintro (h | ⟨k, _, hk, _⟩)
    ·exact h
    ·omega
 | m + 1, Y, z => by
   simp only [runB]
   rw [qip m]
   cases hx : l[m]? with
   | none =>
     dsimp only
     constructor
     ·rintro (h | ⟨k, x, hk, h⟩)
      ·exact .inl h
      ·exact .inr ⟨k, x, by omega, h⟩
     ·rintro (h | ⟨k, x, hk, h⟩)
      ·exact .inl h
      ·have : k ≠ m := fun e => by subst e; rw [hx] at h; cases h.1
       exact .inr ⟨k, x, by omega, h⟩
   | some x0 =>
     dsimp only
     have hu : updA Y x0 (L (m + 1)) z = true ↔ (Y z = true ∨ (x0.op = 20 ∧ x0.dst ≠ z ∧ L (m + 1) z = true)) := by
      unfold updA
      by_cases ho : x0.op = 20
      ·rw [if_pos ho]
       simp only [Bool.or_eq_true, Bool.and_eq_true, Bool.not_eq_true', decide_eq_false_iff_not]
       constructor
       ·rintro (h | ⟨h1, h2⟩)
        ·exact .inl h
        ·exact .inr ⟨ho, fun e => h2 e.symm, h1⟩
       ·rintro (h | ⟨_, h1, h2⟩)
        ·exact .inl h
        ·exact .inr ⟨h2, fun e => h1 e.symm⟩
      ·rw [if_neg ho]
       constructor
       ·exact fun h => .inl h
       ·rintro (h | ⟨h, _⟩)
        ·exact h
        ·exact absurd h ho
     rw [hu]
     constructor
     ·rintro ((h | h) | ⟨k, x, hk, h⟩)
      ·exact .inl h
      ·exact .inr ⟨m, x0, by omega, hx, h⟩
      ·exact .inr ⟨k, x, by omega, h⟩
     ·rintro (h | ⟨k, x, hk, h1, h2⟩)
      ·exact .inl (.inl h)
      ·by_cases e : k = m
       ·subst e
        rw [hx] at h1
        cases h1
        exact .inl (.inr h2)
       ·exact .inr ⟨k, x, by omega, h1, h2⟩
theorem qir {bs : List UBlk} {L : Nat -> Nat -> Int -> Bool} : ∀ (m : Nat) (Y : Int -> Bool) (z : Int), m ≤ bs.length -> (runF updA bs L m Y z = true ↔ (Y z = true ∨ ∃ i k b x, i < m ∧ bs[i]? = some b ∧ b.list[k]? = some x ∧ x.op = 20 ∧ x.dst ≠ z ∧ L i (k + 1) z = true))
 | 0, Y, z, _ => by
   simp only [runF]
   constructor
   ·exact fun h => .inl h
   ·rintro (h | ⟨i, _, _, _, hk, _⟩)
    ·exact h
    ·omega
 | m + 1, Y, z, hm => by
   have hb : bs[m]? = some bs[m] := List.getElem?_eq_getElem (by omega)
   rw [q5m updA hb, qip, qir m Y z (by omega)]
   constructor
   ·rintro ((h | ⟨i, k, b, x, hi, h⟩) | ⟨k, x, hk, h⟩)
    ·exact .inl h
    ·exact .inr ⟨i, k, b, x, by omega, h⟩
    ·exact .inr ⟨m, k, _, x, by omega, hb, h⟩
   ·rintro (h | ⟨i, k, b, x, hi, h1, h2, h3⟩)
    ·exact .inl (.inl h)
    ·by_cases e : i = m
     ·subst e
      rw [hb] at h1
      cases h1
      exact .inr ⟨k, x, (List.getElem?_eq_some_iff.1 h2).1, h2, h3⟩
     ·exact .inl (.inr ⟨i, k, b, x, by omega, h1, h2, h3⟩)
theorem qd5 {f : UFun} {L : Nat -> Nat -> Int -> Bool} (hL : ∀ i k r, L i k r = true ↔ LvI f r i k) (z : Int) : runF updA f.blocks L f.blocks.length (fun _ => false) z = true ↔ q5t f z := by
 rw [qir _ _ _ (Nat.le_refl _)]
 unfold q5t
 constructor
 ·rintro (h | ⟨i, k, b, x, hi, h1, h2, h3, h4, h5⟩)
  ·cases h
  ·exact ⟨i, k, b, x, h1, h2, h3, h4, (hL _ _ _).1 h5⟩
 ·rintro ⟨i, k, b, x, h1, h2, h3, h4, h5⟩
  exact .inr ⟨i, k, b, x, (List.getElem?_eq_some_iff.1 h1).1, h1, h2, h3, h4, (hL _ _ _).2 h5⟩
def MeetX (x : UIns) (Lz : Int -> Bool) (i j : Int) : Prop := 0 ≤ x.dst ∧ i ≠ j ∧ ((i = x.dst ∧ Lz j = true ∧ condX x j = true) ∨ (j = x.dst ∧ Lz i = true ∧ condX x i = true))
theorem qil (σ : Int -> Int -> Bool) (x : UIns) (X : Int -> Bool) (i j : Int) : updO σ x X i j = true ↔ (σ i j = true ∨ MeetX x X i j) := by
 unfold updO MeetX
 by_cases hd : x.dst < 0
 ·rw [if_pos hd]
  constructor
  ·exact fun h => .inl h
  ·rintro (h | ⟨h, _⟩)
   ·exact h
   ·omega
 ·rw [if_neg hd]
  unfold meetS
  simp only [Bool.or_eq_true, Bool.and_eq_true, Bool.not_eq_true', decide_eq_false_iff_not, decide_eq_true_eq]
  constructor
  ·rintro (h | ⟨h1, h2⟩)
   ·exact .inl h
   ·exact .inr ⟨by omega, h1, h2⟩
  ·rintro (h | ⟨_, h1, h2⟩)
   ·exact .inl h
   ·exact .inr ⟨h1, h2⟩
theorem qiq {l : List UIns} {L : Nat -> Int -> Bool} : ∀ (m : Nat) (σ : Int -> Int -> Bool) (i j : Int), runB updO l L m σ i j = true ↔ (σ i j = true ∨ ∃ k x, k < m ∧ l[k]? = some x ∧ MeetX x (L (k + 1)) i j)
 | 0, σ, i, j => by
   simp only [runB]
   constructor
   ·exact fun h => .inl h
   ·rintro (h | ⟨k, _, hk, _⟩)
    ·exact h
    ·omega
 | m + 1, σ, i, j => by
   simp only [runB]
   rw [qiq m]
   cases hx : l[m]? with
   | none =>
     dsimp only
     constructor
     ·rintro (h | ⟨k, x, hk, h⟩)
      ·exact .inl h
      ·exact .inr ⟨k, x, by omega, h⟩
     ·rintro (h | ⟨k, x, hk, h⟩)
      ·exact .inl h
      ·have : k ≠ m := fun e => by subst e; rw [hx] at h; cases h.1
       exact .inr ⟨k, x, by omega, h⟩
   | some x0 =>
     dsimp only
     rw [qil]
     constructor
     ·rintro ((h | h) | ⟨k, x, hk, h⟩)
      ·exact .inl h
      ·exact .inr ⟨m, x0, by omega, hx, h⟩
      ·exact .inr ⟨k, x, by omega, h⟩
     ·rintro (h | ⟨k, x, hk, h1, h2⟩)
      ·exact .inl (.inl h)
      ·by_cases e : k = m
       ·subst e
        rw [hx] at h1
        cases h1
        exact .inl (.inr h2)
       ·exact .inr ⟨k, x, by omega, h1, h2⟩
theorem qit {bs : List UBlk} {L : Nat -> Nat -> Int -> Bool} : ∀ (m : Nat) (σ : Int -> Int -> Bool) (i j : Int), m ≤ bs.length -> (runF updO bs L m σ i j = true ↔ (σ i j = true ∨ ∃ p k b x, p < m ∧ bs[p]? = some b ∧ b.list[k]? = some x ∧ MeetX x (L p (k + 1)) i j))
 | 0, σ, i, j, _ => by
   simp only [runF]
   constructor
   ·exact fun h => .inl h
   ·rintro (h | ⟨p, _, _, _, hk, _⟩)
    ·exact h
    ·omega
 | m + 1, σ, i, j, hm => by
   have hb : bs[m]? = some bs[m] := List.getElem?_eq_getElem (by omega)
   rw [q5m updO hb, qiq, qit m σ i j (by omega)]
   constructor
   ·rintro ((h | ⟨p, k, b, x, hi, h⟩) | ⟨k, x, hk, h⟩)
    ·exact .inl h
    ·exact .inr ⟨p, k, b, x, by omega, h⟩
    ·exact .inr ⟨m, k, _, x, by omega, hb, h⟩
   ·rintro (h | ⟨p, k, b, x, hi, h1, h2, h3⟩)
    ·exact .inl (.inl h)
    ·by_cases e : p = m
     ·subst e
      rw [hb] at h1
      cases h1
      exact .inr ⟨k, x, (List.getElem?_eq_some_iff.1 h2).1, h2, h3⟩
     ·exact .inl (.inr ⟨p, k, b, x, by omega, h1, h2, h3⟩)
theorem q5g (x : UIns) (r : Int) : condX x r = true ↔ ¬ (x.op = 1 ∧ isR x.a r = true) := by
 unfold condX
 by_cases h : x.op = 1 <;> simp [h]
theorem q9p {f : UFun} {L : Nat -> Nat -> Int -> Bool} (hL : ∀ i k r, L i k r = true ↔ LvI f r i k) {σ0 : Int -> Int -> Bool} (h0 : ∀ i j, σ0 i j = true ↔ (i ≠ j ∧ LvI f i 0 0 ∧ LvI f j 0 0)) {i j : Int} (hi : 0 ≤ i) (hj : 0 ≤ j) :
 runF updO f.blocks L f.blocks.length σ0 i j = true ↔ Clash f i j := by
 rw [qit _ _ _ _ (Nat.le_refl _), h0]
 unfold Clash q8r MeetX
 constructor
 ·rintro (⟨h1, h2, h3⟩ | ⟨p, k, b, x, hp, h1, h2, h3, h4, h5⟩)
  ·exact ⟨hi, hj, h1, .inl ⟨h2, h3⟩⟩
  ·rcases h5 with ⟨h5, h6, h7⟩ | ⟨h5, h6, h7⟩
   ·exact ⟨hi, hj, h4, .inr (.inl ⟨p, k, b, x, h1, h2, h5.symm, (hL _ _ _).1 h6, (q5g _ _).1 h7⟩)⟩
   ·exact ⟨hi, hj, h4, .inr (.inr ⟨p, k, b, x, h1, h2, h5.symm, (hL _ _ _).1 h6, (q5g _ _).1 h7⟩)⟩
 ·rintro ⟨_, _, h1, h2 | ⟨p, k, b, x, h2, h3, h4, h5, h6⟩ | ⟨p, k, b, x, h2, h3, h4, h5, h6⟩⟩
  ·exact .inl ⟨h1, h2⟩
  ·exact .inr ⟨p, k, b, x, (List.getElem?_eq_some_iff.1 h2).1, h2, h3, by omega, h1, .inl ⟨h4.symm, (hL _ _ _).2 h5, (q5g _ _).2 h6⟩⟩
  ·exact .inr ⟨p, k, b, x, (List.getElem?_eq_some_iff.1 h2).1, h2, h3, by omega, h1, .inr ⟨h4.symm, (hL _ _ _).2 h5, (q5g _ _).2 h6⟩⟩
end Go.Proofs.YtdanebboiekieaaGreatDoor
namespace Go.Proofs.YtdanebboiekieaaGreatDoor
open Go.RowKit Go.Shelf
attribute [local go_sem] Oper.semAt_some
theorem qb6 {St : Type} (J : St -> World -> Prop) (upd : St -> UIns -> (Int -> Bool) -> St) (cv : Value) (L : Nat -> Nat -> Int -> Bool) (u : Unt) (hu : UntI u) (hok : qp u = (0, 0)) (k : Nat) (f : UFun) (hkf : u.funcs[k]? = some f) (hnp : ∀ b ∈ f.blocks, b.phis = []) (hto : ∀ b ∈ f.blocks, b.end_.to.length ≤ 2) (n : Nat) (hn : f.regs = (n : Int)) (hL : ∀ i k r, L i k r = true ↔ LvI f r i k) (gA fA : Option Addr) (gn gc fc : Nat) (b0 : Nat) (w : World) (hW : Ways w) (hg : rpGlobal.SL w b0 u.globals (.slice gA gn gc)) (hf : rpFun.SL w b0 u.funcs (.slice fA u.funcs.length fc)) (hb0 : b0 ≤ w.heap.size) (hb1 : 0 < b0)
 (hJ : ∀ σ W W', J σ W -> Below w.heap.size W W' -> J σ W') (σ0 : St) (h0 : J σ0 w)
 (hdo : ∀ σ (x : UIns) (va : Value) W mp X, InsOk u n x -> J σ W -> w.heap.size ≤ mp -> SetM W mp X -> (∀ z, X z = true -> z < (n : Int)) -> ∀ R : Ending -> World -> Prop, (∀ W', J (upd σ x X) W' -> Mid b0 w.heap.size W W' -> CKeepA W W' -> R (.returned (.tuple #[])) W') -> Calls Tryz.prog 76 #[.agg #[.int .i64 x.op, .int .i64 x.dst, .bool x.a.reg, .int .i64 x.a.n, .bool x.b.reg, .int .i64 x.b.n, .int .i64 x.fn, va], .map (some mp), cv] W R)
 (R : Ending -> World -> Prop) (hR : ∀ w', J (runF upd f.blocks L f.blocks.length σ0) w' -> Mid b0 w.heap.size w w' -> CKeepA w w' -> R (.returned (.tuple #[])) w') :
 Calls Tryz.prog 73 #[.agg #[.slice gA gn gc, .slice fA u.funcs.length fc], .int .i64 (k : Int), .func (.func 76) #[] #[cv]] w R := by
 have hfo := funOk hok hkf
 have h1b : 1 ≤ f.blocks.length := hfo.blocks.1
 have h40 : f.blocks.length ≤ 40 := hfo.blocks.2
 have hn1 : n ≤ 100 := by have := hfo.regs.2; omega
 obtain ⟨hku, hfk⟩ := List.getElem?_eq_some_iff.1 hkf
 have h10 := q5u hok
 obtain ⟨bf, offf, vb, hfA, hbf, hsb, qf0, qf1, qf2, qf3⟩ := hf.fun_at hku
 subst hfA
 rw [hfk] at qf0 qf1 qf2 hsb
 obtain ⟨A, c, rfl, hmx, hcap, hsb⟩ := hsb.cases_
 obtain ⟨HR, Hg, Hf, HW, Hk, Hkf, Hnp, Hto, Hn, HL, HJ, H0⟩ := lh12 hR hg hf hW hok hkf hnp hto hn hL hJ h0
 obtain ⟨Hdo, Hs, Hfo⟩ := lh3 hdo hsb hfo
 clear hR hg hf hW hok hkf hnp hto hn hL hJ h0 hdo hsb hfo hfk
 obtain ⟨W1, hW1, hbw1, hU1, hD1⟩ := box2 w (.cells #[.slice gA gn gc, .slice (some ⟨bf, offf, none⟩) u.funcs.length fc] 25) (.cells #[.func (.func 76) #[] #[cv]] 119) rfl
 obtain ⟨Hb1, HU1, HD1⟩ := lh3 hbw1 hU1 hD1
 have HW1 := lh hW1.symm
 have hz1 := hbw1.size
 obtain ⟨u0, u1, lU⟩ := cbl hU1
 have k0 := nnn k
 have k1 : (k : Int) < (u.funcs.length : Int) := by omega
 clear hbw1 hW1 hU1 hD1
 refine (callsIn_wide (n := 7)).1 ?_
 refine callsIn_of_wp_marks Tryz.func73 rfl trivial ?_ rfl
 simp only [Tryz.ntmps73, List.size_toArray, List.length_cons, List.length_nil, Nat.reduceAdd, Nat.reduceSub, Array.replicate_succ, Array.replicate_zero, List.push_toArray, List.append_toArray, List.nil_append, List.cons_append]
 refine wpIn_wide.2 (wp_mono (Q := postN Tryz.prog Tryz.f73 R) ?_ q6l)
 go_upto_region 1 with fail
 rw [HW1.out]
 go_wp2_with fail
 refine q99 u hu Hk.out k f Hkf.out Hnp.out Hto.out n Hn.out _ _ _ _ _ _ _ (HW.out.up Hb1.out HW.out.1) ((Hg.out.up (Hb1.out.mono hb0) (Nat.le_refl _)).more (Nat.le_trans hb0 hz1)) ((Hf.out.up (Hb1.out.mono hb0) (Nat.le_refl _)).more (Nat.le_trans hb0 hz1)) _ (fun w2 O vo hb2 hsl hOl hOr hOL => ?_)
 obtain ⟨oA, oc, rfl, _, _, hsl⟩ := hsl.cases_
 rw [List.length_map, hOl] at hsl ⊢
 have Hsl2 := lh hsl.SL
 obtain ⟨HOl, HOr, HOL⟩ := lh3 hOl hOr hOL
 have Hb2 := btt Hb1 hb2 hz1
 have HU2 := lh ((hb2.block _ lU).trans HU1.out)
 have HD2 := bkk hb2 HD1
 have hz2 := Hb2.out.size
 clear hb2 hsl hOl hOr hOL u0 u1 lU
 obtain ⟨u0, u1, lU⟩ := cbl HU2.out
 have q3 := (Hb2.out.cell (p := ⟨bf, offf + k * 4 + 3, none⟩) (by show bf < w.heap.size; omega)).trans qf3
 have lbf : bf < w2.heap.size := by omega
 obtain ⟨W3, hW3⟩ : ∃ W3, W3 = w2.alloc (Obj.cells #[.int .i64 0, .int .i64 0] 30) := ⟨_, rfl⟩
 have hb23 : Below w2.heap.size w2 W3 := by subst hW3; exact bl0
 have HJ3 : Hid (J σ0 W3) := lh (HJ.out _ _ _ H0.out (Hb2.out.trans (hb23.mono hz2)))
 have Hb3 := btt Hb2 hb23 hz2
 have HD3 := bkk hb23 HD2
 have Hsl3 := lh (Hsl2.out.up hb23 hb23.size)
 have hz3 := Hb3.out.size
 have HW3 := lh hW3.symm
 clear hb23 hW3
 go_wp2
 rw [HW3.out]
 clear u0 u1 lU q3 lbf
 refine q2c (fun u => #[u 0, u 1, u 2, u 3, u 4, .pointer (some ⟨w.heap.size + 1, 0, none⟩), .slice oA f.blocks.length oc, u 7, u 8, u 9, u 10, u 11, u 12, u 13, u 14, u 15, u 16, u 17, u 18, u 19, u 20, u 21, u 22, u 23, u 24, u 25, u 26, .slice A f.blocks.length c, .int .i64 (f.blocks.length : Int), u 29, u 30, u 31, u 32, u 33, u 34, u 35, u 36, u 37, u 38, u 39, u 40, u 41, u 42, u 43, u 44, u 45, u 46, u 47, u 48, u 49, u 50, u 51, u 52, u 53, u 54, u 55, u 56, u 57, u 58, u 59, u 60, u 61, u 62, u 63, u 64, u 65, u 66, u 67, u 68, u 69, u 70, u 71])
  (fun gh u ds wr => ∃ b : Nat, b ≤ f.blocks.length ∧ gh = f.blocks.length - b ∧ u 29 = .int .i64 (b : Int) ∧ Hid (J (runF upd f.blocks L b σ0) wr) ∧ Hid (Mid b0 w.heap.size W3 wr) ∧ Hid (CKeepA W3 wr) ∧ Hid (DMarks w.heap.size wr ds))
  f.blocks.length rfl ?_ ?_
 ·exact ⟨0, Nat.zero_le _, rfl, rfl, HJ3, lh (Grew.refl _ _), lh (CKeepA.refl _), lh .nil⟩
 intro gh us ds w4 hI K HK
 obtain ⟨b, hbN, hgh, h29, HJr, HMd, HCk, HM⟩ := hI
 dsimp only
 rw [h29]
 have Hgh := lh hgh
 clear h29 HJ3 hgh
 have hzr : W3.heap.size ≤ w4.heap.size := HMd.out.size
 have k2 := nnn b
 by_cases hlt : ¬ b < f.blocks.length
 ·have hbe : b = f.blocks.length := by omega
  subst hbe
  have k3 : ¬ ((f.blocks.length : Int) < (f.blocks.length : Int)) := by omega
  clear hlt
  go_wp2
  refine q0z (n₀ := w.heap.size) (by omega) HM.out (fun w' hsh => ?_)
  refine ⟨_, results_none rfl _ _ _, HR.out w' (HJ.out _ _ _ HJr.out hsh.bel) ⟨?_, ?_, ?_, ?_, ?_⟩ ⟨?_, ?_⟩⟩
  ·exact hsh.bel.os.trans (HMd.out.os.trans Hb3.out.os)
  ·exact hsh.bel.tape.trans (HMd.out.tape.trans Hb3.out.tape)
  ·exact hsh.bel.output.trans (HMd.out.output.trans Hb3.out.output)
  ·have := hsh.size; omega
  ·intro j hj hx
   exact (hsh.bel.block j hj).trans ((HMd.out.block j (by omega) hx).trans (Hb3.out.block j hj))
  ·have := hsh.size; omega
  ·intro j o hj hc
   exact hsh.cells j o (HCk.out.2 j o ((Hb3.out.block j (qc hj)).trans hj) hc) (fun x e => by subst e; cases hc)
 have hlt := Decidable.of_not_not hlt
 have k3 : (b : Int) < (f.blocks.length : Int) := by omega
 obtain ⟨b9, off9, vp, vl, vt, hA9, hb9, hp, hl, ht, q0, q1, q2, q3, q4, q5⟩ := Hs.out.blk_at hlt
 subst hA9
 obtain ⟨Ap, cp, rfl, _, _, hp⟩ := hp.cases_
 obtain ⟨Al, cl, rfl, hlm, _, hl⟩ := hl.cases_
 obtain ⟨At, ct, rfl, _, _, ht⟩ := ht.cases_
 obtain ⟨F, hF⟩ := q4f hl
 obtain ⟨bk, hbk⟩ : ∃ bk, bk = f.blocks[b] := ⟨_, rfl⟩
 have hgb : f.blocks[b]? = some bk := by rw [hbk]; exact List.getElem?_eq_getElem hlt
 rw [<- hbk] at hF q0 q1 q2 q3 q4 q5 hl hlm
 have Hin : Hid (∀ x ∈ bk.list, InsOk u n x) := lh (by rw [<- Hn.out]; exact Hfo.out.ins bk (List.mem_of_getElem? hgb))
 have Hon : Hid (ValOk n bk.end_.on) := lh (by rw [<- Hn.out]; exact Hfo.out.on bk (List.mem_of_getElem? hgb))
 obtain ⟨HF, Hlm, Hgb⟩ := lh3 hF hlm hgb
 have hwr : Mid b0 w.heap.size w w4 := (Mid.of_below Hb3.out).to HMd.out
 have Hwr := lh hwr
 have hq : ∀ {o : Nat} {v : Value}, w.cell? ⟨b9, o, none⟩ = some v -> w4.cell? ⟨b9, o, none⟩ = some v := fun {o v} h => by
  rw [<- h]
  exact World.cell?_of_block (hwr.block b9 (by omega) (by omega))
 have r0 := hq q0
 have r1 := hq q1
 have r2 := hq q2
 have r3 := hq q3
 have r4 := hq q4
 have r5 := hq q5
 have lb9 : b9 < w4.heap.size := by omega
 clear hF hlm hgb hp hl ht q0 q1 q2 q3 q4 q5 hq hwr hbk
 have hmm := @run_makeMap Tryz.prog
 obtain ⟨W5, hW5⟩ : ∃ W5, W5 = ((w4.alloc (Obj.cells #[.slice Ap bk.phis.length cp, .slice Al bk.list.length cl, .int .i64 bk.end_.kind, .bool bk.end_.on.reg, .int .i64 bk.end_.on.n, .slice At bk.end_.to.length ct] 68)).alloc (Obj.map #[] 0)).alloc (Obj.cells #[.map (some (w4.heap.size + 1))] 116) := ⟨_, rfl⟩
 obtain ⟨mp, hmp⟩ := nmm (w4.heap.size + 1)
 have hb5 : Below w4.heap.size w4 W5 := by subst hW5; exact bl0
 have hX5 : W5.heap[w4.heap.size]? = some (.cells #[.slice Ap bk.phis.length cp, .slice Al bk.list.length cl, .int .i64 bk.end_.kind, .bool bk.end_.on.reg, .int .i64 bk.end_.on.n, .slice At bk.end_.to.length ct] 68 (0, 0)) := by subst hW5; exact qh (qh (heap_alloc_new _ _) _) _
 have hS5 : SetM W5 mp (fun _ => false) := by
  subst hW5 hmp
  have := (SetM.made (w4.alloc (Obj.cells #[.slice Ap bk.phis.length cp, .slice Al bk.list.length cl, .int .i64 bk.end_.kind, .bool bk.end_.on.reg, .int .i64 bk.end_.on.n, .slice At bk.end_.to.length ct] 68))).kept (World.grownBy_alloc _ (Obj.cells #[.map (some (w4.heap.size + 1))] 116) none) (by simp)
  simpa using this
 have hN5 : W5.heap[mp + 1]? = some (.cells #[.map (some mp)] 116 (0, 0)) := by
  subst hW5 hmp
  have := heap_alloc_new ((w4.alloc (Obj.cells #[.slice Ap bk.phis.length cp, .slice Al bk.list.length cl, .int .i64 bk.end_.kind, .bool bk.end_.on.reg, .int .i64 bk.end_.on.n, .slice At bk.end_.to.length ct] 68)).alloc (Obj.map #[] 0)) (Obj.cells #[.map (some (w4.heap.size + 1))] 116)
  simpa using this
 have hrow := Hsl3.out.mono (w' := w4) (fun p u _ hc => HCk.out.cell hc)
 obtain ⟨bi, oi, ui, hoA, hbi, i0, hui⟩ := hrow.row_at (k := b) (by rw [List.length_map, HOl.out]; exact hlt)
 subst hoA
 obtain ⟨Si, hSi⟩ : ∃ Si, Si = setL (rowV O b) := ⟨_, rfl⟩
 have hgi : (O.map setL)[b]'(by rw [List.length_map, HOl.out]; exact hlt) = Si := by rw [hSi, List.getElem_map, q5w]
 rw [hgi] at hui
 obtain ⟨Au, cu, rfl, _, _, hui⟩ := hui.cases_
 have Hui := lh ((hui.more hzr).up hb5 hb5.size)
 have lbi : bi < W5.heap.size := by have := hb5.size; have := World.block_lt_of_cell? w4 _ i0; omega
 have j0 := (hb5.cell (p := ⟨bi, oi + b, none⟩) (World.block_lt_of_cell? w4 _ i0)).trans i0
 obtain ⟨HSi, Hmp, HX5, HS5, HN5⟩ := lh5 hSi hmp hX5 hS5 hN5
 have HW5 := lh hW5.symm
 have Hb5 := lh hb5
 have HJ5 := lh (HJ.out _ _ _ HJr.out (hb5.mono (by omega)))
 have hz5 := hb5.size
 clear hrow i0 hui hgi hbi hb5 hX5 hS5 hN5 hSi hW5 hmp
 go_upto_region 6 with fail
 rw [HW5.out, <- Hmp.out]
 go_wp2
 have Hlb : Hid (mp + 1 < W5.heap.size) := lh (qc HN5.out)
 have Hmpw : Hid (w.heap.size ≤ mp ∧ mp < W5.heap.size ∧ w4.heap.size ≤ mp) := lh ⟨by have := Hmp.out; omega, HS5.out.lt, by have := Hmp.out; omega⟩
 have Hreg : Hid (∀ x ∈ Si, 0 ≤ x ∧ x < (n : Int)) := lh (fun x hx => by
  rw [HSi.out] at hx
  obtain ⟨r, rfl, h1, h2⟩ := mem_setL.1 hx
  have := HOr.out _ (q6s (by rw [HOl.out]; exact hlt))
  omega)
 clear r0 r1 r2 r3 r4 r5 lb9 j0 lbi
 go_loopg [40] Si.length (fun gh s40 wx => ∃ j : Nat, j ≤ Si.length ∧ gh = Si.length - j ∧ s40 = .int .i64 (j : Int) ∧ Hid (SetM wx mp (fun z => decide (z ∈ Si.take j))) ∧ Hid (W5.grownBy wx (some mp)))
 case atStart => exact ⟨0, Nat.zero_le _, rfl, rfl, lh (HS5.out.congr (fun x => by simp)), lh (q2d _ _)⟩
 case round =>
  obtain ⟨j, hj, rfl, rfl, HSx, Hgx⟩ := hrel
  have hzx := Hgx.out.size
  have hN := (Hgx.out.block _ Hlb.out (by intro e; have := Option.some.inj e; omega)).trans HN5.out
  have c0 : wr.cell? ⟨mp + 1, 0, none⟩ = some (.map (some mp)) := cqq hN
  have lN := qc hN
  by_cases hltj : j < Si.length
  ·obtain ⟨bj, oj, rfl, hbj, p0⟩ := Hui.out.int_at hltj
   have hck := q0c HS5.out Hgx.out
   have p1 := hck.cell p0
   have lbj := World.block_lt_of_cell? wr _ p1
   have hgd : Si.getD j 0 = Si[j] := by rw [List.getD_eq_getElem?_getD, List.getElem?_eq_getElem hltj]; rfl
   have hz : 0 ≤ Si.getD j 0 ∧ Si.getD j 0 < 100 := by
    have := Hreg.out _ (List.getElem_mem hltj)
    rw [hgd]
    omega
   have Hst : Hid (∀ x, q0w (fun z => decide (z ∈ Si.take j)) (Si.getD j 0) x = decide (x ∈ Si.take (j + 1))) := lh (fun x => by
    rw [List.take_succ_eq_append_getElem hltj, hgd]
    unfold q0w
    simp only [List.mem_append, List.mem_singleton, Bool.decide_or])
   have j1 := nnn j
   have j2 : (j : Int) < (Si.length : Int) := by omega
   generalize Si.getD j 0 = z at *
   have Hz := lh hz
   clear p0 hck hgd hN hz
   go_wp2_with (at_mapUpdate; refine q40 rfl _ _ _ rfl mp (fun z => decide (z ∈ Si.take j)) z rfl rfl rfl Hz.out HSx.out ?_)
   intro w6 hs6 ht6
   have HS6 := lh (hs6.congr Hst.out)
   have Hg6 := lh (Hgx.out.trans ht6.grown)
   clear hs6 ht6
   go_wp2
   go_roundg (Si.length - (j + 1))
   case measure => omega
   case rel => exact ⟨j + 1, hltj, rfl, by go_num, HS6, Hg6⟩
  ·obtain rfl : j = Si.length := by omega
   have j2 : ¬ ((Si.length : Int) < (Si.length : Int)) := by omega
   have hck := q0c HS5.out Hgx.out
   have hX6 := hck.blk HX5.out
   obtain ⟨x0, x1, x2, x3, x4, x5⟩ := q0o hX6
   have lX := qc hX6
   rw [List.take_length] at HSx
   obtain ⟨HX6, HN6⟩ := lh2 hX6 hN
   clear hX6 hN
   go_wp2_with fail
   refine q5a bk.end_.on mp _ _ HSx.out (fun hr => by have := Hon.out hr; omega) _ (fun w7 hs7 hg7 => ?_)
   have he7 : q0m (fun z => decide (z ∈ Si)) bk.end_.on = L b bk.list.length := qcm HL.out Hfo.out Hn.out Hgb.out (fun z => by
    rw [decide_eq_true_eq, HSi.out, mem_setL]
    have hlen := HOr.out _ (q6s (V := O) (k := b) (by rw [HOl.out]; exact hlt))
    constructor
    ·rintro ⟨r, rfl, h1, h2⟩
     exact ⟨r, rfl, by omega, (HOL.out b hlt r (by omega)).1 h2⟩
    ·rintro ⟨r, rfl, h1, h2⟩
     exact ⟨r, rfl, by omega, (HOL.out b hlt r h1).2 h2⟩)
   rw [he7] at hs7
   have hg57 := Hgx.out.trans hg7
   have hck7 := q0c HS5.out hg57
   have H47 : Mid b0 w.heap.size w4 w7 := ⟨hg57.os.trans Hb5.out.os, hg57.tape.trans Hb5.out.tape, hg57.output.trans Hb5.out.output, Nat.le_trans hz5 hg57.size, fun k h1 hx => (hg57.block k (by omega) (fun e => by have := Option.some.inj e; have := Hmpw.out; omega)).trans (Hb5.out.block k h1)⟩
   have Hw7 := lh (Hwr.out.to H47)
   have H47' := H47
   have Hc7 := lh ((CKeepA.of_below Hb5.out).trans hck7)
   have HJ7 := lh (HJ.out _ _ _ HJ5.out ((Below.refl w.heap.size W5).grown hg57 (by omega) (fun k e => by have := Option.some.inj e; have := Hmpw.out; omega)))
   have HS7 := lh hs7
   have HM7 := lh ((HM.out.onto Hb5.out).grown hg57 (fun x h => by
    obtain ⟨es, clock, ho⟩ := HS5.out.obj
    rw [ho] at h
    cases h))
   have HX7 := lh (hck7.blk HX5.out)
   have HN7 := lh (hck7.blk HN5.out)
   have hz7 : w4.heap.size ≤ w7.heap.size := H47.size
   have h57 : W5.heap.size ≤ w7.heap.size := hg57.size
   clear hs7 hg7 he7 hg57 hck7 H47 hck x0 x1 x2 x3 x4 x5 lX c0 lN hmm HX6 HN6 HSx Hgx Hui
   obtain ⟨x0, x1, x2, x3, x4, x5⟩ := q0o HX7.out
   have lX := qc HX7.out
   go_wp2_with fail
   refine q66 Al bk.list.length cl _ _ ?_
   go_wp2
   obtain ⟨W9, hW9, hb79, hbox9⟩ := box1 w7 (.cells #[.slice Al bk.list.length cl] 62) rfl
   have h79 := hb79.size
   have HR9 : Hid (RoundI J b0 w.heap.size mp n W9 (runF upd f.blocks L b σ0, L b bk.list.length) W9) := lh ⟨Kept.refl _ _ _ _, HS7.out.below hb79, HJ.out _ _ _ HJ7.out (hb79.mono (by omega)), fun z hz => by have h1 := LvI.lt Hfo.out ((HL.out _ _ _).1 hz); have := Hn.out; omega⟩
   have Hw9 := lh (Hw7.out.to (Mid.of_below hb79))
   have Hc9 := lh (Hc7.out.trans (CKeepA.of_below hb79))
   have Hm39 : Hid (Mid b0 w.heap.size W3 W9) := lh (HMd.out.to (H47'.to (Mid.of_below hb79)))
   have HM9 := lh (HM7.out.onto hb79)
   have HN9 := lh ((CKeepA.of_below hb79).blk HN7.out)
   have lD := qc HD3.out
   have hBN9 : BackNeed bk.list F Al cl w7.heap.size b0 (w.heap.size + 1) W9 := ⟨hbox9, fun j hj => by
    obtain ⟨b', off', hA', hb', hv', g0, g1, g2, g3, g4, g5, g6, g7⟩ := HF.out j hj
    have key : ∀ {o : Nat} {v : Value}, w.cell? ⟨b', o, none⟩ = some v -> W9.cell? ⟨b', o, none⟩ = some v := fun {o v} h => (World.cell?_of_block (Hw9.out.block b' (by omega) (by omega))).trans h
    exact ⟨b', off', hA', hb', hv'.mono (fun p u hp hc => (World.cell?_of_block (Hw9.out.block p.block (by omega) (by omega))).trans hc), key g0, key g1, key g2, key g3, key g4, key g5, key g6, key g7⟩, by omega, by omega, by omega⟩
   have HBN9 := lh hBN9
   have hmaxl : bk.list.length ≤ maxLen := by have := Hlm.out; unfold maxLen; omega
   have HD9 : Hid (W9.heap[w.heap.size + 1]? = some (.cells #[.func (.func 76) #[] #[cv]] 119 (0, 0))) := lh ((CKeepA.of_below hb79).blk (Hc7.out.blk (HCk.out.blk HD3.out)))
   have HW9 := lh hW9.symm
   rw [HW9.out]
   clear hW9 hb79 hbox9 hBN9 x0 x1 x2 x3 x4 x5 lX
   have Hlt9 : Hid (mp + 1 < W9.heap.size) := lh (qc HN9.out)
   refine (wpIn_wide (n := 7)).1 ?_
   refine wpIn_rangeFunc_ownH (F := Fence.wide) rfl (by decide) (gf := 129) (lb := #[.pointer (some ⟨w7.heap.size, 0, none⟩)]) rfl trivial (enters_of Tryz.func129 (by kernel_rfl) rfl)
    (q68 6 (by decide) w7.heap.size b0 (w.heap.size + 1) bk.list F Al cl hmaxl W9 HBN9.out) (fun h k => h.trans k) (fun W l o o' _ h1 h2 _ => CKeep.putObj W l o o' h1 h2) (Below.refl _ _) (fun _ => rfl)
    (fun (pre : List (Fin bk.list.length)) (W : World) => RoundI J b0 w.heap.size mp n W9 (pre.foldl (fun p j => stepU upd p bk.list[j.1]) (runF upd f.blocks L b σ0, L b bk.list.length)) W)
    (fun _ _ _ => False)
    (q4m (W0 := W9) (mp := mp) (b0 := b0) (n := n) (f := fun pre : List (Fin bk.list.length) => pre.foldl (fun p j => stepU upd p bk.list[j.1]) (runF upd f.blocks L b σ0, L b bk.list.length)) HJ.out (by omega) (Nat.le_refl _) (by have := Hlt9.out; omega)) (fun _ _ _ _ _ hs _ _ => hs) HR9.out
    (fun (j : Fin bk.list.length) (a' : Act) (W : World) => ∃ Bx, W9.heap.size ≤ Bx ∧ W.heap[Bx]? = some (Obj.cells (insC bk.list[j.1] (F j.1)) 71 ((0, 0) : Nat × Nat)) ∧ a' = { tmps := #[us 0, us 1, us 2, us 3, us 4, .pointer (some ⟨w.heap.size + 1, 0, none⟩), .slice (some ⟨bi, oi, none⟩) f.blocks.length oc, us 7, .int .i64 (b : Int), .pointer (some ⟨w4.heap.size, 0, none⟩), .pointer (some ⟨mp + 1, 0, none⟩), us 11, u12, us 13, .pointer (some ⟨Bx, 0, none⟩), us 15, us 16, us 17, us 18, us 19, us 20, us 21, us 22, us 23, us 24, us 25, us 26, .slice (some ⟨b9, off9, none⟩) f.blocks.length c, .int .i64 (f.blocks.length : Int), .int .i64 (b : Int), .bool true, .int .i64 (b : Int), .pointer (some ⟨b9, off9 + b * 6, none⟩), .agg #[.slice Ap bk.phis.length cp, .slice Al bk.list.length cl, .int .i64 bk.end_.kind, .bool bk.end_.on.reg, .int .i64 bk.end_.on.n, .slice At bk.end_.to.length ct], .map (some mp), .slice (some ⟨bi, oi, none⟩) f.blocks.length oc, .int .i64 (b : Int), .pointer (some ⟨bi, oi + b, none⟩), .slice Au Si.length cu, .int .i64 (Si.length : Int), .int .i64 (Si.length : Int), .bool false, u42, u43, u44, u45, u46, u47, .map (some mp), .pointer (some ⟨w4.heap.size, 2, none⟩), .pointer (some ⟨w4.heap.size, 3, none⟩), .agg #[.bool bk.end_.on.reg, .int .i64 bk.end_.on.n], .tuple #[], .pointer (some ⟨w4.heap.size, 1, none⟩), .slice Al bk.list.length cl, .func (.func 129) #[] #[.pointer (some ⟨w7.heap.size, 0, none⟩)], .int .i64 (j.1 : Int), .agg (insC bk.list[j.1] (F j.1)), us 58, us 59, us 60, us 61, us 62, us 63, us 64, us 65, us 66, us 67, us 68, us 69, us 70, us 71], defers := [] })
    (fun (j : Fin bk.list.length) a' s X Y row hs hg hr => by obtain ⟨Bx, h0, h1, h2⟩ := hs; exact ⟨Bx, h0, q1w Bx (insC bk.list[j.1] (F j.1)) 71 (0, 0) W9.heap.size () X Y row h1 hg hr, h2⟩) ?assign ?body ?done ?stop
   case assign =>
    rintro l pre j W K9 hI hK
    obtain ⟨_, _, hA7, hb7, hvj, hj8⟩ := HF.out j.1 j.2
    clear hA7 hb7 hj8
    obtain ⟨Aj, cj, hFj, _, _, _⟩ := hvj.cases_
    unfold encB insC
    dsimp only at hK
    unfold insC at hK
    rw [hFj] at hK ⊢
    clear hFj
    gi_wp2
    exact hK _ _ ((KeepsOthers.alloc _ _).from _) (CKeep.of_below ((Below.refl W.heap.size W).alloc (Nat.le_refl _) _)) (hI.below HJ.out (by omega) ((Below.refl W.heap.size W).alloc (Nat.le_refl _) _)) ⟨W.heap.size, hI.1.grew.size, heap_alloc_new _ _, rfl⟩
   case body =>
    rintro l pre j a' W hl ⟨r, hr⟩ hI ⟨Bx, hBx, hv, rfl⟩ hlen
    obtain ⟨p, hp⟩ : ∃ p, p = pre.foldl (fun p j => stepU upd p bk.list[j.1]) (runF upd f.blocks L b σ0, L b bk.list.length) := ⟨_, rfl⟩
    have hfold : (pre ++ [j]).foldl (fun p j => stepU upd p bk.list[j.1]) (runF upd f.blocks L b σ0, L b bk.list.length) = stepU upd p bk.list[j.1] := by rw [List.foldl_append, <- hp]; rfl
    rw [<- hp] at hI
    have Hfold := lh hfold
    clear hp hfold
    obtain ⟨hK1, hS1, hJ1, hN1⟩ := hI
    have HN1 := lh hN1
    clear hN1
    obtain ⟨b7, off7, hA7, hb7, hva, _⟩ := HF.out j.1 j.2
    have hva9 : rpVal.SL W b0 bk.list[j.1].args (F j.1) := ((HBN9.out.row j.1 j.2).choose_spec.choose_spec.2.2.1).mono (fun p u hp hc => hK1.cells.cell hc)
    have hix := Hin.out bk.list[j.1] (List.getElem_mem j.2)
    have hdst := hix.dst
    have hwf : (Lit.int .i64 bk.list[j.1].dst).wf = true := WalkArith.wf_i64 (by omega)
    have hcI : ∀ k v, (insC bk.list[j.1] (F j.1))[k]? = some v -> W.cell? ⟨Bx, k, none⟩ = some v := fun k v h => by rw [qe hv]; exact h
    have x0 : W.cell? ⟨Bx, 0, none⟩ = some (.int .i64 bk.list[j.1].op) := hcI 0 _ rfl
    have x1 : W.cell? ⟨Bx, 1, none⟩ = some (.int .i64 bk.list[j.1].dst) := hcI 1 _ rfl
    have x2 : W.cell? ⟨Bx, 2, none⟩ = some (.bool bk.list[j.1].a.reg) := hcI 2 _ rfl
    have x3 : W.cell? ⟨Bx, 3, none⟩ = some (.int .i64 bk.list[j.1].a.n) := hcI 3 _ rfl
    have x4 : W.cell? ⟨Bx, 4, none⟩ = some (.bool bk.list[j.1].b.reg) := hcI 4 _ rfl
    have x5 : W.cell? ⟨Bx, 5, none⟩ = some (.int .i64 bk.list[j.1].b.n) := hcI 5 _ rfl
    have x6 : W.cell? ⟨Bx, 6, none⟩ = some (.int .i64 bk.list[j.1].fn) := hcI 6 _ rfl
    have x7 : W.cell? ⟨Bx, 7, none⟩ = some (F j.1) := hcI 7 _ rfl
    have lx := qc hv
    have hDo := hK1.cells.blk HD9.out
    have hNo := hK1.cells.blk HN9.out
    have d0 : W.cell? ⟨w.heap.size + 1, 0, none⟩ = some (.func (.func 76) #[] #[cv]) := cqq hDo
    have n0 : W.cell? ⟨mp + 1, 0, none⟩ = some (.map (some mp)) := cqq hNo
    have lD := qc hDo
    have lN := qc hNo
    obtain ⟨Aj, cj, hFj, _, _, hva9⟩ := hva9.cases_
    obtain ⟨Hva9, HFj⟩ := lh2 hva9 hFj
    rw [hFj] at x7
    obtain ⟨Hix, HK1, HS1, HJ1, HNo, Hv, Hr, Hwf⟩ := lh8 hix hK1 hS1 hJ1 hNo hv hr hwf
    clear hFj hA7 hb7 hva hva9 hix hcI hK1 hS1 hJ1 hDo hNo hdst hv hr hwf
    generalize bk.list[j.1] = x at *
    unfold insC
    clear HX7 HN7 HX5 HN5 HW5 HW9 HD1 HD2 HD3 HU1 HU2 HW1 HW3 HSi HOL HOr
    gi_wp2_with fail
    refine ⟨trivial, CallsIn.inRound l (callsIn_wide.2 (Hdo.out p.1 x (.slice Aj x.args.length cj) W mp p.2 Hix.out HJ1.out Hmpw.out.1 HS1.out HN1.out _ (fun w2' hj2 hm2 hc2 => ?_)))⟩
    have hNo2 := hc2.blk HNo.out
    have hv2 := hc2.blk Hv.out
    have hS2 : SetM w2' mp p.2 := HS1.out.block (hm2.block mp HS1.out.lt (by have := Hmpw.out; omega))
    have hr2 : w2'.heap[l]? = some (.loop r) := (hm2.block l (Array.getElem?_eq_some_iff.1 Hr.out).1 (by omega)).trans Hr.out
    have HK2 : Hid (Kept b0 w.heap.size mp W9 w2') := lh (HK1.out.to (Kept.of_mid hm2 hc2))
    have n0' : w2'.cell? ⟨mp + 1, 0, none⟩ = some (.map (some mp)) := cqq hNo2
    have y1 : w2'.cell? ⟨Bx, 1, none⟩ = some (.int .i64 x.dst) := cqq hv2
    have lx2 := qc hv2
    have lN2 := qc hNo2
    obtain ⟨HNo2, Hv2, HS2, Hr2, HJ2⟩ := lh5 hNo2 hv2 hS2 hr2 hj2
    have HKF2 := lh ((Kept.of_mid (mp := mp) hm2 hc2))
    clear hj2 hm2 hc2 hNo2 hv2 hS2 hr2 x0 x1 x2 x3 x4 x5 x6 x7 lx d0 n0 lD lN
    gi_wp2_with (gi_at_delete; refine q5y rfl _ _ rfl mp p.2 x.dst rfl rfl Hwf.out HS2.out ?_)
    intro w3' hs3 ht3
    have hg3 := ht3.grown
    have hck3 := q0c HS2.out hg3
    have hv3 := hck3.blk Hv2.out
    have hNo3 := hck3.blk HNo2.out
    have hKF3 : Kept b0 w.heap.size mp W w3' := HKF2.out.to (Kept.of_set HS2.out hg3)
    have hr3 : w3'.heap[l]? = some (.loop r) := (hg3.block l (Array.getElem?_eq_some_iff.1 Hr2.out).1 (fun e => by have := Option.some.inj e; have := Hlt9.out; omega)).trans Hr2.out
    have HJ3' := lh (HJ.out _ _ _ HJ2.out ((Below.refl w.heap.size w2').grown hg3 (by have := HK2.out.grew.size; omega) (fun k e => by have := Option.some.inj e; have := Hmpw.out; omega)))
    rw [HFj.out] at hv3
    have hcI : ∀ k v, (insC x (.slice Aj x.args.length cj))[k]? = some v -> w3'.cell? ⟨Bx, k, none⟩ = some v := fun k v h => by rw [qe hv3]; exact h
    have z0 : w3'.cell? ⟨Bx, 0, none⟩ = some (.int .i64 x.op) := hcI 0 _ rfl
    have z1 : w3'.cell? ⟨Bx, 1, none⟩ = some (.int .i64 x.dst) := hcI 1 _ rfl
    have z2 : w3'.cell? ⟨Bx, 2, none⟩ = some (.bool x.a.reg) := hcI 2 _ rfl
    have z3 : w3'.cell? ⟨Bx, 3, none⟩ = some (.int .i64 x.a.n) := hcI 3 _ rfl
    have z4 : w3'.cell? ⟨Bx, 4, none⟩ = some (.bool x.b.reg) := hcI 4 _ rfl
    have z5 : w3'.cell? ⟨Bx, 5, none⟩ = some (.int .i64 x.b.n) := hcI 5 _ rfl
    have z6 : w3'.cell? ⟨Bx, 6, none⟩ = some (.int .i64 x.fn) := hcI 6 _ rfl
    have z7 : w3'.cell? ⟨Bx, 7, none⟩ = some (.slice Aj x.args.length cj) := hcI 7 _ rfl
    have lx3 := qc hv3
    have hW3s : W9.heap.size ≤ w3'.heap.size := Nat.le_trans HK2.out.grew.size hg3.size
    obtain ⟨HS3, HNo3, HKF3, Hr3⟩ := lh4 hs3 hNo3 hKF3 hr3
    have HK3 := lh (HK2.out.to (Kept.of_set HS2.out hg3))
    clear hs3 ht3 hg3 hck3 hv3 hNo3 hKF3 hr3 hcI y1 n0' lx2 lN2 HS2 HNo2 Hr2 Hv2 HJ2
    gi_wp2_with fail
    refine ⟨trivial, CallsIn.inRound l (callsIn_wide.2 (q3r x Aj x.args.length cj _ _ ?_))⟩
    clear z0 z1 z2 z3 z4 z5 z6 z7
    gi_wp2_with fail
    obtain ⟨W11, hW11⟩ : ∃ W11, W11 = w3'.alloc (Obj.cells #[.int .i64 x.op, .int .i64 x.dst, .bool x.a.reg, .int .i64 x.a.n, .bool x.b.reg, .int .i64 x.b.n, .int .i64 x.fn, .slice Aj x.args.length cj] 71) := ⟨_, rfl⟩
    have hb11 : Below w3'.heap.size w3' W11 := by subst hW11; exact bl0
    have hbx11 : W11.heap[w3'.heap.size]? = some (.cells #[.int .i64 x.op, .int .i64 x.dst, .bool x.a.reg, .int .i64 x.a.n, .bool x.b.reg, .int .i64 x.b.n, .int .i64 x.fn, .slice Aj x.args.length cj] 71 (0, 0)) := by subst hW11; exact heap_alloc_new _ _
    have hs11 := hb11.size
    have HR11 : Hid (RoundI J b0 w.heap.size mp n W11 (upd p.1 x p.2, q1b p.2 x.dst) W11) := lh ⟨Kept.refl _ _ _ _, HS3.out.below hb11, HJ.out _ _ _ HJ3'.out (hb11.mono (by omega)), qin HN1.out⟩
    have HKF11 := lh (HKF3.out.to (Kept.of_below hb11))
    have hr11 : W11.heap[l]? = some (.loop r) := (hb11.block l (Array.getElem?_eq_some_iff.1 Hr3.out).1).trans Hr3.out
    have HNo11 := lh ((CKeepA.of_below hb11).blk HNo3.out)
    have hVN : ValsNeed x (.slice Aj x.args.length cj) w3'.heap.size b0 (w.heap.size + 1) W11 := ⟨hbx11, Hva9.out.mono (fun p u hp hc => HKF11.out.cells.cell hc), by omega, by omega, by omega⟩
    have HVN := lh hVN
    have HK11 := lh (HK3.out.to (Kept.of_below hb11))
    have h911 : W9.heap.size ≤ W11.heap.size := by omega
    rw [<- hW11]
    clear hW11 hb11 hbx11 hVN HKF3 HK3 HS3 HJ3'
    refine wpIn_rangeFunc_ownN (F := Fence.wide.inRound l) (l₀ := l) (r₀ := r) rfl hr11 (by decide) (gf := 100) (lb := #[.pointer (some ⟨w3'.heap.size, 0, none⟩)]) rfl trivial (enters_of Tryz.func100 (by kernel_rfl) rfl)
     ((q3w 4 (by decide) w3'.heap.size b0 (w.heap.size + 1) x (.slice Aj x.args.length cj) W11 HVN.out).inRound l) (fun h k => h.trans k) (fun W l o o' _ h1 h2 _ => CKeep.putObj W l o o' h1 h2) (Below.refl _ _) (fun _ => rfl)
     (fun (pre : List (VX x)) (W : World) => RoundI J b0 w.heap.size mp n W11 (upd p.1 x p.2, pre.foldl (fun X v => q0m X v.1) (q1b p.2 x.dst)) W)
     (fun _ _ _ => False)
     (q4m (W0 := W11) (mp := mp) (b0 := b0) (n := n) (f := fun pre : List (VX x) => (upd p.1 x p.2, pre.foldl (fun X v => q0m X v.1) (q1b p.2 x.dst))) HJ.out (by omega) (Nat.le_refl _) (by have := Hlt9.out; omega)) (fun _ _ _ _ _ hs _ _ => hs) HR11.out
     (fun (v : VX x) (a' : Act) (W : World) => ∃ Bv, W.heap[Bv]? = some (Obj.cells #[.bool v.1.reg, .int .i64 v.1.n] 64 ((0, 0) : Nat × Nat)) ∧ a' = { tmps := #[us 0, us 1, us 2, us 3, us 4, .pointer (some ⟨w.heap.size + 1, 0, none⟩), .slice (some ⟨bi, oi, none⟩) f.blocks.length oc, us 7, .int .i64 (b : Int), .pointer (some ⟨w4.heap.size, 0, none⟩), .pointer (some ⟨mp + 1, 0, none⟩), us 11, u12, us 13, .pointer (some ⟨Bx, 0, none⟩), .pointer (some ⟨Bv, 0, none⟩), us 16, us 17, us 18, us 19, us 20, us 21, us 22, us 23, us 24, us 25, us 26, .slice (some ⟨b9, off9, none⟩) f.blocks.length c, .int .i64 (f.blocks.length : Int), .int .i64 (b : Int), .bool true, .int .i64 (b : Int), .pointer (some ⟨b9, off9 + b * 6, none⟩), .agg #[.slice Ap bk.phis.length cp, .slice Al bk.list.length cl, .int .i64 bk.end_.kind, .bool bk.end_.on.reg, .int .i64 bk.end_.on.n, .slice At bk.end_.to.length ct], .map (some mp), .slice (some ⟨bi, oi, none⟩) f.blocks.length oc, .int .i64 (b : Int), .pointer (some ⟨bi, oi + b, none⟩), .slice Au Si.length cu, .int .i64 (Si.length : Int), .int .i64 (Si.length : Int), .bool false, u42, u43, u44, u45, u46, u47, .map (some mp), .pointer (some ⟨w4.heap.size, 2, none⟩), .pointer (some ⟨w4.heap.size, 3, none⟩), .agg #[.bool bk.end_.on.reg, .int .i64 bk.end_.on.n], .tuple #[], .pointer (some ⟨w4.heap.size, 1, none⟩), .slice Al bk.list.length cl, .func (.func 129) #[] #[.pointer (some ⟨w7.heap.size, 0, none⟩)], .int .i64 (j.1 : Int), .agg #[.int .i64 x.op, .int .i64 x.dst, .bool x.a.reg, .int .i64 x.a.n, .bool x.b.reg, .int .i64 x.b.n, .int .i64 x.fn, F j.1], .func (.func 76) #[] #[cv], .agg #[.int .i64 x.op, .int .i64 x.dst, .bool x.a.reg, .int .i64 x.a.n, .bool x.b.reg, .int .i64 x.b.n, .int .i64 x.fn, .slice Aj x.args.length cj], .map (some mp), .tuple #[], .map (some mp), .pointer (some ⟨Bx, 1, none⟩), .int .i64 x.dst, .agg #[.int .i64 x.op, .int .i64 x.dst, .bool x.a.reg, .int .i64 x.a.n, .bool x.b.reg, .int .i64 x.b.n, .int .i64 x.fn, .slice Aj x.args.length cj], .func (.func 100) #[] #[.pointer (some ⟨w3'.heap.size, 0, none⟩)], .agg #[.bool v.1.reg, .int .i64 v.1.n], us 68, us 69, us 70, us 71], defers := [] })
     (fun (v : VX x) a' s X Y row hs hg hr => by obtain ⟨Bv, h1, h2⟩ := hs; exact ⟨Bv, q1w Bv #[.bool v.1.reg, .int .i64 v.1.n] 64 (0, 0) W11.heap.size () X Y row h1 hg hr, h2⟩) ?assign2 ?body2 ?done2 ?stop2
    case assign2 =>
     rintro l2 pre2 v W12 K12 hI2 hK2
     unfold encV
     gi_wp2
     exact hK2 _ _ ((KeepsOthers.alloc _ _).from _) (CKeep.of_below ((Below.refl W12.heap.size W12).alloc (Nat.le_refl _) _)) (hI2.below HJ.out (by omega) ((Below.refl W12.heap.size W12).alloc (Nat.le_refl _) _)) ⟨W12.heap.size, heap_alloc_new _ _, rfl⟩
    case body2 =>
     rintro l2 pre2 v a2 W12 hl2 ⟨r2, hr2⟩ hI2 ⟨Bv, hv2, rfl⟩ hlen2
     obtain ⟨hK2, hS2, hJ2, hN2⟩ := hI2
     have HN2 := lh hN2
     clear hN2
     obtain ⟨v0, v1, lv⟩ := cbl hv2
     have hNo12 := hK2.cells.blk HNo11.out
     have n0 : W12.cell? ⟨mp + 1, 0, none⟩ = some (.map (some mp)) := cqq hNo12
     have lN := qc hNo12
     have hvo := q3a Hix.out v.1 v.2
     obtain ⟨Hvo, HK2, HS2, HJ2⟩ := lh4 hvo hK2 hS2 hJ2
     clear hK2 hS2 hJ2 hv2 hNo12 hvo
     gi_wp2_with fail
     refine ⟨trivial, CallsIn.inRound l2 (CallsIn.inRound l (callsIn_wide.2 (q5a v.1 mp _ W12 HS2.out (fun h => by have := Hvo.out h; omega) _ (fun w13 hs13 hg13 => ?_))))⟩
     have hkk := Kept.of_set (b0 := b0) (n0 := w.heap.size) HS2.out hg13
     have hI13 : RoundI J b0 w.heap.size mp n W11 (upd p.1 x p.2, (pre2 ++ [v]).foldl (fun X v => q0m X v.1) (q1b p.2 x.dst)) w13 := ⟨HK2.out.to hkk, by rw [List.foldl_append]; exact hs13, HJ.out _ _ _ HJ2.out ((Below.refl w.heap.size W12).grown hg13 (by have := HK2.out.grew.size; omega) (fun k e => by have := Option.some.inj e; have := Hmpw.out; omega)), by rw [List.foldl_append]; exact qfz HN2.out Hvo.out⟩
     have hKF13 : KeepsFrom W11.heap.size W12 w13 := hkk.from (by omega) (by have := Hlt9.out; omega)
     have hck13 : CKeep (w.heap.size + 1) W12 w13 := hkk.cells.keep
     gi_wp2
     exact ⟨hKF13, hck13, hI13⟩
    case done2 =>
     rintro ys W12 hys hI2
     have hf : ys.foldl (fun X (v : VX x) => q0m X v.1) (q1b p.2 x.dst) = insN p.2 x := by
      have e1 : ys.foldl (fun X (v : VX x) => q0m X v.1) (q1b p.2 x.dst) = (ys.map (·.1)).foldl q0m (q1b p.2 x.dst) := by rw [List.foldl_map]
      rw [e1, hys]
      rfl
     rw [hf] at hI2
     obtain ⟨hK2, hS2, hJ2, hN2⟩ := hI2
     have hI3 : RoundI J b0 w.heap.size mp n W9 ((pre ++ [j]).foldl (fun p j => stepU upd p bk.list[j.1]) (runF upd f.blocks L b σ0, L b bk.list.length)) W12 := by
      rw [Hfold.out]
      exact ⟨HK11.out.to hK2, hS2, hJ2, hN2⟩
     have hall := HKF11.out.to hK2
     have hkf := hall.from (B := W9.heap.size) (by omega) (by have := Hlt9.out; omega)
     have hck : CKeep (w.heap.size + 1) W W12 := hall.cells.keep
     clear hf hK2 hS2 hJ2 hN2 hall hys
     gi_wp2
     exact ⟨hkf, hck, hI3⟩
    case stop2 =>
     rintro c pre2 W12 _ h
     exact h.elim
   case done =>
    rintro D ys W hD hys hI hK
    have hfold : ys.foldl (fun p (j : Fin bk.list.length) => stepU upd p bk.list[j.1]) (runF upd f.blocks L b σ0, L b bk.list.length) = (runF upd f.blocks L (b + 1) σ0, L b 0) := by
     have e1 : ys.foldl (fun p (j : Fin bk.list.length) => stepU upd p bk.list[j.1]) (runF upd f.blocks L b σ0, L b bk.list.length) = (ys.map fun j : Fin bk.list.length => bk.list[j.1]).foldl (stepU upd) (runF upd f.blocks L b σ0, L b bk.list.length) := by rw [List.foldl_map]
     rw [e1, q8n hys, qf5 upd (fun m x hx => q9y HL.out Hgb.out hx (Hin.out x (List.mem_of_getElem? hx))), q5m upd Hgb.out]
    obtain ⟨hK1, hS1, hJ1, _⟩ := hI
    rw [hfold] at hJ1
    have hkk : Grew (fun k => (b0 ≤ k ∧ k < w.heap.size) ∨ k = mp) W9 W := hK1.grew
    have HJ10 := lh hJ1
    have hMd : Mid b0 w.heap.size W3 W := ⟨hkk.os.trans (Hm39.out.os), hkk.tape.trans Hm39.out.tape, hkk.output.trans Hm39.out.output, Nat.le_trans Hm39.out.size hkk.size, fun k h1 h2 => (hkk.block k (by have := Hm39.out.size; omega) (fun h => by have := Hmpw.out; omega)).trans (Hm39.out.block k h1 h2)⟩
    have hCk : CKeepA W3 W := HCk.out.trans (Hc9.out.trans hK1.cells)
    have hMk : DMarks w.heap.size W ({ target := .collected D, args := #[] } :: ds) := DMarks.push HM9.out (HM9.out.keep (fun D' _ h2 _ => by
     have hne : D' ≠ mp := fun e => by
      obtain ⟨es, clock, ho⟩ := HR9.out.2.1.obj
      rw [e, ho] at h2
      cases h2
     have hlo : w.heap.size ≤ D' := by assumption
     exact (hkk.block D' (Array.getElem?_eq_some_iff.1 h2).1 (by omega)).trans h2)) (by omega) hD hK
    obtain ⟨HMd2, HCk2, HMk2⟩ := lh3 hMd hCk hMk
    clear hfold hK1 hS1 hJ1 hkk hMd hCk hMk hK hys
    go_wp2
    refine HK.out (f.blocks.length - (b + 1)) _ _ _ (by have := Hgh.out; omega) ?_ ?_
    ·rfl
    ·exact ⟨b + 1, hlt, rfl, by go_num, HJ10, HMd2, HCk2, HMk2⟩
   case stop =>
    rintro D c pre W _ _ h _
    exact h.elim
end Go.Proofs.YtdanebboiekieaaGreatDoor
namespace Go.Proofs.YtdanebboiekieaaGreatDoor
open Go.RowKit
open Go.Maps Go.WideShapes Go.MapKept Go.ChangeMaps Go.ChangeShapes
theorem q5b {u : Unt} {k : Nat} {f : UFun} (h : qp u = (0, 0)) (hkf : u.funcs[k]? = some f) (hnp : ∀ b ∈ f.blocks, b.phis = []) : q0q u (k : Int) = (0, 0) := by
 have hk := (List.getElem?_eq_some_iff.1 hkf).1
 unfold q0q
 rw [if_neg (by rw [h]; exact fun e => e rfl), if_neg (by omega)]
 have e : ((k : Int)).toNat = k := by omega
 rw [e, hkf]
 dsimp only
 rw [if_neg]
 intro h
 obtain ⟨b, hb, h⟩ := List.any_eq_true.1 h
 unfold q1d at h
 rw [hnp b hb] at h
 simp at h
theorem q96 (Ac : Int -> Bool) (L : Nat -> Nat -> Int -> Bool) (u : Unt) (hu : UntI u) (hok : qp u = (0, 0)) (k : Nat) (f : UFun) (hkf : u.funcs[k]? = some f) (hnp : ∀ b ∈ f.blocks, b.phis = []) (hto : ∀ b ∈ f.blocks, b.end_.to.length ≤ 2) (n : Nat) (hn : f.regs = (n : Int)) (hL : ∀ i k r, L i k r = true ↔ LvI f r i k) (hA : ∀ z, Ac z = true ↔ q5t f z) (gA fA : Option Addr) (gn gc fc : Nat) (w : World) (hW : Ways w) (hg : rpGlobal.SL w w.heap.size u.globals (.slice gA gn gc)) (hf : rpFun.SL w w.heap.size u.funcs (.slice fA u.funcs.length fc)) (R : Ending -> World -> Prop)
 (hR : ∀ w' v', Below w.heap.size w w' -> w'.ownsRow w.heap.size 3 1 v' (rowX Ac n).length ((rowX Ac n).flatMap qf) -> R (.returned (.tuple #[v', (.agg #[.int .i64 (((0 : Int), (0 : Int))).1, .int .i64 (((0 : Int), (0 : Int))).2])])) w') :
 Calls Tryz.prog 40 #[.agg #[.slice gA gn gc, .slice fA u.funcs.length fc], .int .i64 (k : Int)] w R := by
 have hfo := funOk hok hkf
 have hn1 : n ≤ 100 := by have := hfo.regs.2; omega
 have hcl := q5b hok hkf hnp
 obtain ⟨HR, Hg, Hf, HW, Hk, Hkf, Hnp, Hto, Hn, HL, HA, Hcl⟩ := lh12 hR hg hf hW hok hkf hnp hto hn hL hA hcl
 have Hfo := lh hfo
 clear hR hg hf hW hok hkf hnp hto hn hL hA hcl hfo
 go_enter Tryz.func40, Tryz.ntmps40
 go_upto_region 1 with fail
 obtain ⟨W2, hW2, hb2, hU2, hF2⟩ := box2 w (.cells #[.slice gA gn gc, .slice fA u.funcs.length fc] 25) (.cells #[.int .i64 0, .int .i64 0] 30) rfl
 rw [<- hW2]
 obtain ⟨Hb2, HU2, HF2⟩ := lh3 hb2 hU2 hF2
 have hz2 := hb2.size
 obtain ⟨u0, u1, lU⟩ := cbl hU2
 clear hW2 hb2 hU2 hF2
 go_wp2_with fail
 refine q1i u hu (k : Int) _ _ _ _ _ _ _ (HW.out.up Hb2.out HW.out.1) (Hg.out.up Hb2.out hz2) (Hf.out.up Hb2.out hz2) _ (fun w3 hb3 => ?_)
 rw [Hcl.out]
 have Hb3 := btt Hb2 hb3 hz2
 have HU3 := bkk hb3 HU2
 have HF3 := bkk hb3 HF2
 have hz3 := Hb3.out.size
 clear hb3 u0 u1 lU
 obtain ⟨u0, u1, lU⟩ := cbl HU3.out
 have hmm := @run_makeMap Tryz.prog
 obtain ⟨W4, hW4⟩ : ∃ W4, W4 = ((w3.alloc (Obj.cells #[.int .i64 0, .int .i64 0] 30)).alloc (Obj.map #[] 0)).alloc (Obj.cells #[.map (some (w3.heap.size + 1))] 116) := ⟨_, rfl⟩
 have hb34 : Below w3.heap.size w3 W4 := by subst hW4; exact bl0
 have hS4 : SetM W4 (w3.heap.size + 1) (fun _ => false) := by
  subst hW4
  have := (SetM.made (w3.alloc (Obj.cells #[.int .i64 0, .int .i64 0] 30))).kept (World.grownBy_alloc _ (Obj.cells #[.map (some (w3.heap.size + 1))] 116) none) (by simp)
  simpa using this
 have hO4 : W4.heap[w3.heap.size + 1 + 1]? = some (.cells #[.map (some (w3.heap.size + 1))] 116 (0, 0)) := by
  subst hW4
  have := heap_alloc_new ((w3.alloc (Obj.cells #[.int .i64 0, .int .i64 0] 30)).alloc (Obj.map #[] 0)) (Obj.cells #[.map (some (w3.heap.size + 1))] 116)
  simpa using this
 have Hb4 := btt Hb3 hb34 hz3
 have HU4 := bkk hb34 HU3
 have HF4 := bkk hb34 HF3
 have HJ4 : Hid (JA w.heap.size W4.heap.size (w3.heap.size + 1 + 1) (w3.heap.size + 1) (fun _ => false) W4) := lh ⟨by rw [qe hO4]; rfl, hS4, qc hO4, Nat.le_refl _, by omega, hS4.lt⟩
 have HW4 := lh hW4.symm
 have hz4 := Hb4.out.size
 clear hW4 hb34 hS4 hO4
 go_upto_region 5 with fail
 rw [HW4.out]
 clear u0 u1 lU hmm
 obtain ⟨u0, u1, lU⟩ := cbl HU4.out
 go_wp2_with fail
 refine qb6 (JA w.heap.size W4.heap.size (w3.heap.size + 1 + 1) (w3.heap.size + 1)) updA (.pointer (some ⟨w3.heap.size + 1 + 1, 0, none⟩)) L u hu Hk.out k f Hkf.out Hnp.out Hto.out n Hn.out HL.out _ _ _ _ _ w.heap.size W4 (HW.out.up Hb4.out HW.out.1) (Hg.out.up Hb4.out (Nat.le_refl _)) (Hf.out.up Hb4.out (Nat.le_refl _)) hz4 HW.out.1 (fun σ W W' h hb => h.below hb) (fun _ => false) HJ4.out (fun σ x va W mp X hx hj hmp hS hX R hR => qex u n w.heap.size W4.heap.size _ _ σ x va W mp X hx hj hmp hS R hR) _ (fun w5 hJ5 hM5 hC5 => ?_)
 have hJ5 := hJ5.to (Z := fun z => Ac z) (fun z => by rw [Bool.eq_iff_iff, qd5 HL.out, HA.out])
 have HF5 := lh (hC5.blk HF4.out)
 have Hb5 : Hid (Below w.heap.size w w5) := lh ⟨hM5.os.trans Hb4.out.os, hM5.tape.trans Hb4.out.tape, hM5.output.trans Hb4.out.output, Nat.le_trans hz4 hM5.size, fun k hk => (hM5.block k (by omega) (by omega)).trans (Hb4.out.block k hk)⟩
 have HS5 := lh hJ5.set
 have o0 := hJ5.box
 have lo := World.block_lt_of_cell? w5 _ o0
 have hz5 := Hb5.out.size
 have Hx : Hid (∀ r, Ac r = true -> r < (n : Int)) := lh (fun r hr => by
  obtain ⟨i, k', b, x, _, _, _, _, h5⟩ := (HA.out r).1 hr
  have := (h5.lt Hfo.out).2
  rw [Hn.out] at this
  exact this)
 clear hJ5 hM5 hC5 u0 u1 lU
 go_wp2_with fail
 refine q6f _ _ n _ HS5.out Hx.out _ (fun w6 v6 hb6 hown6 => ?_)
 have Hb6 := btt Hb5 hb6 hz5
 have HF6 := (hb6.block _ (qc HF5.out)).trans HF5.out
 have lF5 := qc HF5.out
 have Ho6 := lh (qiu (ownsRow_setCell_below (ownsRow_setCell_below hown6 (a := ⟨w.heap.size + 1, 0, none⟩) lF5 (.int .i64 0)) (a := ⟨w.heap.size + 1, 1, none⟩) lF5 (.int .i64 0)) hz5)
 obtain ⟨A6, c6, rfl⟩ := qn hown6
 obtain ⟨f0, f1, lF⟩ := cbl HF6
 have z0 := fzz HF6 0
 have z1 := fzz HF6 1
 clear hb6 hown6 HF6 o0 lo
 have Hbl := lh (qr Hb6.out [(⟨w.heap.size + 1, 0, none⟩, .int .i64 (0)), (⟨w.heap.size + 1, 1, none⟩, .int .i64 (0))] (by simp))
 go_wp2
 refine bodyPost_ret (v := .tuple #[.slice A6 (rowX (fun z => Ac z) n).length c6, (.agg #[.int .i64 (((0 : Int), (0 : Int))).1, .int .i64 (((0 : Int), (0 : Int))).2])]) (by simp [results, Tryz.results40, go_sem, f0, f1, lF]) rfl ?_
 exact HR.out _ _ Hbl.out Ho6.out
end Go.Proofs.YtdanebboiekieaaGreatDoor
namespace Go.Proofs.YtdanebboiekieaaGreatDoor
open Go.RowKit Go.Shelf
attribute [local go_sem] Oper.semAt_some
def iAt (S : List Int) (k : Nat) : Int := S.getD k 0
def IntAt (g : Nat) (S : List Int) (w : World) : Prop := ∃ A, w.heap[g]? = some (.cells A 3 (0, 0)) ∧ ∀ k, k < S.length -> A[k]? = some (.int .i64 (iAt S k))
theorem IntAt.cell {g : Nat} {S : List Int} {w : World} (h : IntAt g S w) {k : Nat} (hk : k < S.length) : w.cell? ⟨g, k, none⟩ = some (.int .i64 (iAt S k)) := by
 obtain ⟨A, h1, h2⟩ := h
 rw [qe h1]
 exact h2 k hk
theorem IntAt.frozen {g : Nat} {S : List Int} {w : World} (h : IntAt g S w) (k : Nat) : w.frozen? ⟨g, k, none⟩ = false := by
 obtain ⟨A, h1, h2⟩ := h
 simp [World.frozen?, h1]
theorem IntAt.lt {g : Nat} {S : List Int} {w : World} (h : IntAt g S w) : g < w.heap.size := by
 obtain ⟨A, h1, h2⟩ := h
 exact qc h1
theorem q3b {S : List Int} {i k : Nat} {x : Int} (h : i < S.length) : iAt (S.set i x) k = if k = i then x else iAt S k := by
 unfold iAt
 rw [List.getD_eq_getElem?_getD, List.getD_eq_getElem?_getD, List.getElem?_set]
 by_cases e : i = k
 ·subst e
  rw [if_pos rfl, if_pos h, if_pos rfl]
  rfl
 ·rw [if_neg e, if_neg (fun x => e x.symm)]
theorem IntAt.set {g : Nat} {S : List Int} {w : World} (h : IntAt g S w) (k : Nat) (x : Int) : IntAt g (S.set k x) (w.setCell ⟨g, k, none⟩ (.int .i64 x)) := by
 obtain ⟨A, h1, h2⟩ := h
 refine ⟨A.setIfInBounds k (.int .i64 x), by rw [q0p h1], fun j hj => ?_⟩
 rw [List.length_set] at hj
 have h3 := h2 j hj
 have hjA : j < A.size := (Array.getElem?_eq_some_iff.1 h3).1
 rw [Array.getElem?_setIfInBounds]
 by_cases e : k = j
 ·subst e
  rw [if_pos rfl, if_pos hjA, q3b hj, if_pos rfl]
 ·rw [if_neg e, h3]
  rcases Nat.lt_or_ge k S.length with hk | hk
  ·rw [q3b hk, if_neg (fun h => e h.symm)]
  ·rw [List.set_eq_of_length_le hk]
theorem IntAt.block {g : Nat} {S : List Int} {w w' : World} (h : IntAt g S w) (hk : ∀ o : Obj, w.heap[g]? = some o -> o.isCells = true -> w'.heap[g]? = some o) : IntAt g S w' := by
 obtain ⟨A, h1, h2⟩ := h
 exact ⟨A, hk _ h1 rfl, h2⟩
theorem IntAt.below {g : Nat} {S : List Int} {w w' : World} (h : IntAt g S w) (hb : Below w.heap.size w w') : IntAt g S w' := h.block fun o ho _ => (hb.block _ (qc ho)).trans ho
theorem IntAt.alloc {g : Nat} {S : List Int} {w : World} (h : IntAt g S w) (o : Obj) : IntAt g S (w.alloc o) := h.block fun x hx _ => qh hx o
theorem IntAt.SL {g cp : Nat} {S : List Int} {w : World} (h : IntAt g S w) (hm : S.length ≤ maxLen) (hc : S.length ≤ cp) : rpInt.SL w w.heap.size S (.slice (some ⟨g, 0, none⟩) S.length cp) := by
 refine ⟨_, _, rfl, hm, hc, fun _ => ⟨g, 0, rfl, h.lt, fun k x hk => ⟨_, rfl, fun j u hj => ?_⟩⟩⟩
 cases j with
 | zero =>
   simp at hj
   subst hj
   have hlt := (List.getElem?_eq_some_iff.1 hk).1
   have := h.cell hlt
   unfold iAt at this
   rw [List.getD_eq_getElem?_getD, hk] at this
   simpa [rpInt] using this
 | succ j => simp at hj
def IntI (g : Nat) (S : List Int) (w0 W : World) : Prop := IntAt g S W ∧ w0.grownBy W (some g) ∧ CKeep g w0 W
theorem qhr {β : Type} {g B : Nat} {f : β -> List Int} {w0 : World} (hB : w0.heap.size ≤ B) : OwnFrom B (fun (s : β) W => IntI g (f s) w0 W) := fun s A Z row hs hg hr => by
 obtain ⟨h1, h2, h3⟩ := hs
 have hkeep : ∀ (k : Nat) (o : Obj), A.heap[k]? = some o -> o.isCells = true -> Z.heap[k]? = some o := fun k o ho hc => by
  rcases (Classical.em (row = some k)) with e | e
  ·obtain ⟨_, o', ho', hc'⟩ := hr k e
   rw [ho] at ho'
   injection ho' with ho'
   subst ho'
   rw [hc] at hc'
   cases hc'
  ·exact (hg.block k (qc ho) (fun h => e h.symm)).trans ho
 refine ⟨h1.block (fun o ho hc => hkeep g o ho hc), ⟨hg.os.trans h2.os, hg.tape.trans h2.tape, hg.output.trans h2.output, Nat.le_trans h2.size hg.size, fun k hk hk2 => ?_⟩, ⟨Nat.le_trans h3.1 hg.size, fun k o ho hc hk => hkeep k o (h3.2 k o ho hc hk) hc⟩⟩
 rw [<- h2.block k hk hk2]
 refine hg.block k (by have := h2.size; omega) (fun e => ?_)
 have := (hr k e.symm).1
 omega
theorem IntI.below {g : Nat} {S : List Int} {w0 W W' : World} (h : IntI g S w0 W) (hb : Below W.heap.size W W') : IntI g S w0 W' :=
 ⟨h.1.below hb, h.2.1.trans (q0j hb _), h.2.2.trans (CKeep.of_below hb)⟩
theorem IntI.alloc {g : Nat} {S : List Int} {w0 W : World} (h : IntI g S w0 W) (o : Obj) : IntI g S w0 (W.alloc o) := h.below ((Below.refl _ _).alloc (Nat.le_refl _) o)
def rowW (l : List Int) (n : Nat) : List Int := (ints n).map (cntW l)
theorem q3n (l : List Int) (n : Nat) : (rowW l n).length = n := by
 unfold rowW
 rw [List.length_map, q1g]
theorem q6p {n k : Nat} (h : k < n) : (ints n)[k]? = some (k : Int) := by
 unfold ints
 rw [List.getElem?_map, List.getElem?_range h, Option.map_some]
theorem q7h {l : List Int} {n k : Nat} (h : k < n) : iAt (rowW l n) k = cntW l (k : Int) := by
 unfold iAt rowW
 rw [List.getD_eq_getElem?_getD, List.getElem?_map, q6p h, Option.map_some, Option.getD_some]
theorem q7a (l : List Int) (x r : Int) : cntW (l ++ [x]) r = if x = r then wrap64 (cntW l r + 1) else cntW l r := by
 unfold cntW
 rw [List.count_append]
 by_cases e : x = r
 ·subst e
  rw [if_pos rfl, List.count_singleton_self, Int.natCast_add]
  generalize ((List.count x l : Nat) : Int) = m
  show wrap64 (m + 1) = _
  unfold wrap64
  omega
 ·rw [if_neg e, List.count_singleton, if_neg (by simpa using e), Nat.add_zero]
theorem qai {l : List Int} {n k : Nat} (h : k < n) : rowW (l ++ [(k : Int)]) n = (rowW l n).set k (wrap64 (cntW l (k : Int) + 1)) := by
 apply List.ext_getElem?
 intro j
 rcases Nat.lt_or_ge j n with hj | hj
 ·have h1 : (rowW (l ++ [(k : Int)]) n)[j]? = some (cntW (l ++ [(k : Int)]) (j : Int)) := by unfold rowW; rw [List.getElem?_map, q6p hj, Option.map_some]
  have h2 : (rowW l n)[j]? = some (cntW l (j : Int)) := by unfold rowW; rw [List.getElem?_map, q6p hj, Option.map_some]
  rw [h1, List.getElem?_set, q7a]
  by_cases e : k = j
  ·subst e
   rw [if_pos rfl, if_pos rfl, if_pos (by rw [q3n]; exact h)]
  ·rw [if_neg e, if_neg (by omega), h2]
 ·rw [List.getElem?_eq_none (by rw [q3n]; exact hj), List.getElem?_eq_none (by rw [List.length_set, q3n]; exact hj)]
end Go.Proofs.YtdanebboiekieaaGreatDoor
