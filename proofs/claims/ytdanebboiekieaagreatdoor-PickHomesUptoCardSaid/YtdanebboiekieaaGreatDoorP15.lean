/- The walks, part 15. -/
import Derived.Test.YtdanebboiekieaaGreatDoorP14
set_option linter.unusedSimpArgs false
set_option linter.unusedVariables false
set_option maxRecDepth 100000
set_option maxHeartbeats 16000000
namespace Go.Proofs.YtdanebboiekieaaGreatDoor
open Go.RowKit
theorem qmp {l : List UIns} {L : Nat -> Int -> Bool} : ∀ (m : Nat) (Y : Int -> Bool) (z : Int), runB updA l L m Y z = true ↔ (Y z = true ∨ ∃ k x, k < m ∧ l[k]? = some x ∧ x.op = 20 ∧ x.dst ≠ z ∧ L (k + 1) z = true)
 | 0, Y, z => by
   simp only [runB]
   constructor
   ·exact fun h => .inl h
   ·rintro (h | ⟨k, _, hk, _⟩)
    ·exact h
    ·omega
 | m + 1, Y, z => by
   simp only [runB];rw [qmp m]
   cases hx : l[m]? with
   | none =>
     dsimp only
     constructor
     ·rintro (h | ⟨k, x, hk, h⟩)
      ·exact .inl h
      ·exact .inr ⟨k, x, by omega, h⟩
     ·rintro (h | ⟨k, x, hk, h⟩)
      ·exact .inl h
      ·have : k ≠ m := fun e => by subst e; rw [hx] at h; cases h.1
       exact .inr ⟨k, x, by omega, h⟩
   | some x0 =>
     dsimp only
     have hu : updA Y x0 (L (m + 1)) z = true ↔ (Y z = true ∨ (x0.op = 20 ∧ x0.dst ≠ z ∧ L (m + 1) z = true)) := by
      unfold updA
      by_cases ho : x0.op = 20
      ·rw [if_pos ho];simp only [Bool.or_eq_true, Bool.and_eq_true, Bool.not_eq_true', decide_eq_false_iff_not]
       constructor
       ·rintro (h | ⟨h1, h2⟩)
        ·exact .inl h
        ·exact .inr ⟨ho, fun e => h2 e.symm, h1⟩
       ·rintro (h | ⟨_, h1, h2⟩)
        ·exact .inl h
        ·exact .inr ⟨h2, fun e => h1 e.symm⟩
      ·rw [if_neg ho]
       constructor
       ·exact fun h => .inl h
       ·rintro (h | ⟨h, _⟩)
        ·exact h
        ·exact absurd h ho
     rw [hu]
     constructor
     ·rintro ((h | h) | ⟨k, x, hk, h⟩)
      ·exact .inl h
      ·exact .inr ⟨m, x0, by omega, hx, h⟩
      ·exact .inr ⟨k, x, by omega, h⟩
     ·rintro (h | ⟨k, x, hk, h1, h2⟩)
      ·exact .inl (.inl h)
      ·by_cases e : k = m
       ·subst e;rw [hx] at h1
        cases h1
        exact .inl (.inr h2)
       ·exact .inr ⟨k, x, by omega, h1, h2⟩
theorem qmr {bs : List UBlk} {L : Nat -> Nat -> Int -> Bool} : ∀ (m : Nat) (Y : Int -> Bool) (z : Int), m ≤ bs.length -> (runF updA bs L m Y z = true ↔ (Y z = true ∨ ∃ i k b x, i < m ∧ bs[i]? = some b ∧ b.list[k]? = some x ∧ x.op = 20 ∧ x.dst ≠ z ∧ L i (k + 1) z = true))
 | 0, Y, z, _ => by
   simp only [runF]
   constructor
   ·exact fun h => .inl h
   ·rintro (h | ⟨i, _, _, _, hk, _⟩)
    ·exact h
    ·omega
 | m + 1, Y, z, hm => by
   have hb : bs[m]? = some bs[m] := List.getElem?_eq_getElem (by omega);rw [q8w updA hb, qmp, qmr m Y z (by omega)]
   constructor
   ·rintro ((h | ⟨i, k, b, x, hi, h⟩) | ⟨k, x, hk, h⟩)
    ·exact .inl h
    ·exact .inr ⟨i, k, b, x, by omega, h⟩
    ·exact .inr ⟨m, k, _, x, by omega, hb, h⟩
   ·rintro (h | ⟨i, k, b, x, hi, h1, h2, h3⟩)
    ·exact .inl (.inl h)
    ·by_cases e : i = m
     ·subst e;rw [hb] at h1
      cases h1
      exact .inr ⟨k, x, (List.getElem?_eq_some_iff.1 h2).1, h2, h3⟩
     ·exact .inl (.inr ⟨i, k, b, x, by omega, h1, h2, h3⟩)
theorem qg4 {f : UFun} {L : Nat -> Nat -> Int -> Bool} (hL : ∀ i k r, L i k r = true ↔ LvI f r i k) (z : Int) : runF updA f.blocks L f.blocks.length (fun _ => false) z = true ↔ q9f f z := by
 rw [qmr _ _ _ (Nat.le_refl _)];unfold q9f
 constructor
 ·rintro (h | ⟨i, k, b, x, hi, h1, h2, h3, h4, h5⟩)
  ·cases h
  ·exact ⟨i, k, b, x, h1, h2, h3, h4, (hL _ _ _).1 h5⟩
 ·rintro ⟨i, k, b, x, h1, h2, h3, h4, h5⟩;exact .inr ⟨i, k, b, x, (List.getElem?_eq_some_iff.1 h1).1, h1, h2, h3, h4, (hL _ _ _).2 h5⟩
def MeetX (x : UIns) (Lz : Int -> Bool) (i j : Int) : Prop := 0 ≤ x.dst ∧ i ≠ j ∧ ((i = x.dst ∧ Lz j = true ∧ condX x j = true) ∨ (j = x.dst ∧ Lz i = true ∧ condX x i = true))
theorem qmj (σ : Int -> Int -> Bool) (x : UIns) (X : Int -> Bool) (i j : Int) : updO σ x X i j = true ↔ (σ i j = true ∨ MeetX x X i j) := by
 unfold updO MeetX
 by_cases hd : x.dst < 0
 ·rw [if_pos hd]
  constructor
  ·exact fun h => .inl h
  ·rintro (h | ⟨h, _⟩)
   ·exact h
   ·omega
 ·rw [if_neg hd];unfold meetS;simp only [Bool.or_eq_true, Bool.and_eq_true, Bool.not_eq_true', decide_eq_false_iff_not, decide_eq_true_eq]
  constructor
  ·rintro (h | ⟨h1, h2⟩)
   ·exact .inl h
   ·exact .inr ⟨by omega, h1, h2⟩
  ·rintro (h | ⟨_, h1, h2⟩)
   ·exact .inl h
   ·exact .inr ⟨h1, h2⟩
theorem qmq {l : List UIns} {L : Nat -> Int -> Bool} : ∀ (m : Nat) (σ : Int -> Int -> Bool) (i j : Int), runB updO l L m σ i j = true ↔ (σ i j = true ∨ ∃ k x, k < m ∧ l[k]? = some x ∧ MeetX x (L (k + 1)) i j)
 | 0, σ, i, j => by
   simp only [runB]
   constructor
   ·exact fun h => .inl h
   ·rintro (h | ⟨k, _, hk, _⟩)
    ·exact h
    ·omega
 | m + 1, σ, i, j => by
   simp only [runB];rw [qmq m]
   cases hx : l[m]? with
   | none =>
     dsimp only
     constructor
     ·rintro (h | ⟨k, x, hk, h⟩)
      ·exact .inl h
      ·exact .inr ⟨k, x, by omega, h⟩
     ·rintro (h | ⟨k, x, hk, h⟩)
      ·exact .inl h
      ·have : k ≠ m := fun e => by subst e; rw [hx] at h; cases h.1
       exact .inr ⟨k, x, by omega, h⟩
   | some x0 =>
     dsimp only;rw [qmj]
     constructor
     ·rintro ((h | h) | ⟨k, x, hk, h⟩)
      ·exact .inl h
      ·exact .inr ⟨m, x0, by omega, hx, h⟩
      ·exact .inr ⟨k, x, by omega, h⟩
     ·rintro (h | ⟨k, x, hk, h1, h2⟩)
      ·exact .inl (.inl h)
      ·by_cases e : k = m
       ·subst e;rw [hx] at h1
        cases h1
        exact .inl (.inr h2)
       ·exact .inr ⟨k, x, by omega, h1, h2⟩
theorem qms {bs : List UBlk} {L : Nat -> Nat -> Int -> Bool} : ∀ (m : Nat) (σ : Int -> Int -> Bool) (i j : Int), m ≤ bs.length -> (runF updO bs L m σ i j = true ↔ (σ i j = true ∨ ∃ p k b x, p < m ∧ bs[p]? = some b ∧ b.list[k]? = some x ∧ MeetX x (L p (k + 1)) i j))
 | 0, σ, i, j, _ => by
   simp only [runF]
   constructor
   ·exact fun h => .inl h
   ·rintro (h | ⟨p, _, _, _, hk, _⟩)
    ·exact h
    ·omega
 | m + 1, σ, i, j, hm => by
   have hb : bs[m]? = some bs[m] := List.getElem?_eq_getElem (by omega);rw [q8w updO hb, qmq, qms m σ i j (by omega)]
   constructor
   ·rintro ((h | ⟨p, k, b, x, hi, h⟩) | ⟨k, x, hk, h⟩)
    ·exact .inl h
    ·exact .inr ⟨p, k, b, x, by omega, h⟩
    ·exact .inr ⟨m, k, _, x, by omega, hb, h⟩
   ·rintro (h | ⟨p, k, b, x, hi, h1, h2, h3⟩)
    ·exact .inl (.inl h)
    ·by_cases e : p = m
     ·subst e;rw [hb] at h1
      cases h1
      exact .inr ⟨k, x, (List.getElem?_eq_some_iff.1 h2).1, h2, h3⟩
     ·exact .inl (.inr ⟨p, k, b, x, by omega, h1, h2, h3⟩)
theorem q66 (x : UIns) (r : Int) : condX x r = true ↔ ¬ (x.op = 1 ∧ isR x.a r = true) := by
 unfold condX
 by_cases h : x.op = 1 <;> simp [h]
theorem qbo {f : UFun} {L : Nat -> Nat -> Int -> Bool} (hL : ∀ i k r, L i k r = true ↔ LvI f r i k) {σ0 : Int -> Int -> Bool} (h0 : ∀ i j, σ0 i j = true ↔ (i ≠ j ∧ LvI f i 0 0 ∧ LvI f j 0 0)) {i j : Int} (hi : 0 ≤ i) (hj : 0 ≤ j) :
 runF updO f.blocks L f.blocks.length σ0 i j = true ↔ Clash f i j := by
 rw [qms _ _ _ _ (Nat.le_refl _), h0];unfold Clash qdb MeetX
 constructor
 ·rintro (⟨h1, h2, h3⟩ | ⟨p, k, b, x, hp, h1, h2, h3, h4, h5⟩)
  ·exact ⟨hi, hj, h1, .inl ⟨h2, h3⟩⟩
  ·rcases h5 with ⟨h5, h6, h7⟩ | ⟨h5, h6, h7⟩
   ·exact ⟨hi, hj, h4, .inr (.inl ⟨p, k, b, x, h1, h2, h5.symm, (hL _ _ _).1 h6, (q66 _ _).1 h7⟩)⟩
   ·exact ⟨hi, hj, h4, .inr (.inr ⟨p, k, b, x, h1, h2, h5.symm, (hL _ _ _).1 h6, (q66 _ _).1 h7⟩)⟩
 ·rintro ⟨_, _, h1, h2 | ⟨p, k, b, x, h2, h3, h4, h5, h6⟩ | ⟨p, k, b, x, h2, h3, h4, h5, h6⟩⟩
  ·exact .inl ⟨h1, h2⟩
  ·exact .inr ⟨p, k, b, x, (List.getElem?_eq_some_iff.1 h2).1, h2, h3, by omega, h1, .inl ⟨h4.symm, (hL _ _ _).2 h5, (q66 _ _).2 h6⟩⟩
  ·exact .inr ⟨p, k, b, x, (List.getElem?_eq_some_iff.1 h2).1, h2, h3, by omega, h1, .inr ⟨h4.symm, (hL _ _ _).2 h5, (q66 _ _).2 h6⟩⟩
end Go.Proofs.YtdanebboiekieaaGreatDoor
namespace Go.Proofs.YtdanebboiekieaaGreatDoor
open Go.RowKit
open Go.Maps Go.WideShapes Go.MapKept Go.ChangeMaps Go.ChangeShapes
theorem qaf {u : Unt} {k : Nat} {f : UFun} (h : qo u = (0, 0)) (hkf : u.funcs[k]? = some f) (hnp : ∀ b ∈ f.blocks, b.phis = []) : q1l u (k : Int) = (0, 0) := by
 have hk := (List.getElem?_eq_some_iff.1 hkf).1;unfold q1l;rw [if_neg (by rw [h]; exact fun e => e rfl), if_neg (by omega)];have e : ((k : Int)).toNat = k := by omega
 rw [e, hkf];dsimp only;rw [if_neg];intro h;obtain ⟨b, hb, h⟩ := List.any_eq_true.1 h;unfold q3f at h;rw [hnp b hb] at h;simp at h
theorem qb5 (Ac : Int -> Bool) (L : Nat -> Nat -> Int -> Bool) (u : Unt) (hu : UntI u) (hok : qo u = (0, 0)) (k : Nat) (f : UFun) (hkf : u.funcs[k]? = some f) (hnp : ∀ b ∈ f.blocks, b.phis = []) (hto : ∀ b ∈ f.blocks, b.end_.to.length ≤ 2) (n : Nat) (hn : f.regs = (n : Int)) (hL : ∀ i k r, L i k r = true ↔ LvI f r i k) (hA : ∀ z, Ac z = true ↔ q9f f z) (gA fA : Option Addr) (gn gc fc : Nat) (w : World) (hW : Ways w) (hg : rpGlobal.SL w w.heap.size u.globals (.slice gA gn gc)) (hf : rpFun.SL w w.heap.size u.funcs (.slice fA u.funcs.length fc)) (R : Ending -> World -> Prop)
 (hR : ∀ w' v', Below w.heap.size w w' -> w'.ownsRow w.heap.size 3 1 v' (rowX Ac n).length ((rowX Ac n).flatMap qh) -> R (.returned (.tuple #[v', (.agg #[.int .i64 (((0 : Int), (0 : Int))).1, .int .i64 (((0 : Int), (0 : Int))).2])])) w') :
 Calls Tryz.prog 40 #[.agg #[.slice gA gn gc, .slice fA u.funcs.length fc], .int .i64 (k : Int)] w R := by
 have hfo := funOk hok hkf;have hn1 : n ≤ 100 := by have := hfo.regs.2; omega
 have hcl := qaf hok hkf hnp;obtain ⟨HR, Hg, Hf, HW, Hk, Hkf, Hnp, Hto, Hn, HL, HA, Hcl⟩ := lh12 hR hg hf hW hok hkf hnp hto hn hL hA hcl;have Hfo := lh hfo;clear hR hg hf hW hok hkf hnp hto hn hL hA hcl hfo
 go_enter Tryz.func40, Tryz.ntmps40
 go_upto_region 1 with fail
 obtain ⟨W2, hW2, hb2, hU2, hF2⟩ := box2 w (.cells #[.slice gA gn gc, .slice fA u.funcs.length fc] 25) (.cells #[.int .i64 0, .int .i64 0] 30) rfl;rw [<- hW2];obtain ⟨Hb2, HU2, HF2⟩ := lh3 hb2 hU2 hF2;have hz2 := hb2.size;obtain ⟨u0, u1, lU⟩ := cbl hU2;clear hW2 hb2 hU2 hF2
 go_wp2_with fail
 refine q1o u hu (k : Int) _ _ _ _ _ _ _ (HW.out.up Hb2.out HW.out.1) (Hg.out.up Hb2.out hz2) (Hf.out.up Hb2.out hz2) _ (fun w3 hb3 => ?_);rw [Hcl.out];have Hb3 := btt Hb2 hb3 hz2;have HU3 := bkk hb3 HU2;have HF3 := bkk hb3 HF2;have hz3 := Hb3.out.size;clear hb3 u0 u1 lU;obtain ⟨u0, u1, lU⟩ := cbl HU3.out;have hmm := @run_makeMap Tryz.prog;obtain ⟨W4, hW4⟩ : ∃ W4, W4 = ((w3.alloc (Obj.cells #[.int .i64 0, .int .i64 0] 30)).alloc (Obj.map #[] 0)).alloc (Obj.cells #[.map (some (w3.heap.size + 1))] 116) := ⟨_, rfl⟩;have hb34 : Below w3.heap.size w3 W4 := by subst hW4; exact bl0
 have hS4 : SetM W4 (w3.heap.size + 1) (fun _ => false) := by
  subst hW4;have := (SetM.made (w3.alloc (Obj.cells #[.int .i64 0, .int .i64 0] 30))).kept (World.grownBy_alloc _ (Obj.cells #[.map (some (w3.heap.size + 1))] 116) none) (by simp);simpa using this
 have hO4 : W4.heap[w3.heap.size + 1 + 1]? = some (.cells #[.map (some (w3.heap.size + 1))] 116 (0, 0)) := by
  subst hW4;have := heap_alloc_new ((w3.alloc (Obj.cells #[.int .i64 0, .int .i64 0] 30)).alloc (Obj.map #[] 0)) (Obj.cells #[.map (some (w3.heap.size + 1))] 116);simpa using this
 have Hb4 := btt Hb3 hb34 hz3;have HU4 := bkk hb34 HU3;have HF4 := bkk hb34 HF3;have HJ4 : Hid (JA w.heap.size W4.heap.size (w3.heap.size + 1 + 1) (w3.heap.size + 1) (fun _ => false) W4) := lh ⟨by rw [qb hO4]; rfl, hS4, qa hO4, Nat.le_refl _, by omega, hS4.lt⟩;have HW4 := lh hW4.symm;have hz4 := Hb4.out.size;clear hW4 hb34 hS4 hO4
 go_upto_region 5 with fail
 rw [HW4.out];clear u0 u1 lU hmm;obtain ⟨u0, u1, lU⟩ := cbl HU4.out
 go_wp2_with fail
 refine q9k 76 ⟨_, Tryz.func76, by kernel_rfl, by kernel_rfl⟩ (JA w.heap.size W4.heap.size (w3.heap.size + 1 + 1) (w3.heap.size + 1)) updA (.pointer (some ⟨w3.heap.size + 1 + 1, 0, none⟩)) L u hu Hk.out k f Hkf.out Hnp.out Hto.out n Hn.out HL.out _ _ _ _ _ w.heap.size W4 (HW.out.up Hb4.out HW.out.1) (Hg.out.up Hb4.out (Nat.le_refl _)) (Hf.out.up Hb4.out (Nat.le_refl _)) hz4 HW.out.1 (fun σ W W' h hb => h.below hb) (fun _ => false) HJ4.out (fun σ x va W mp X hx hj hmp hS hX R hR => qhs u n w.heap.size W4.heap.size _ _ σ x va W mp X hx hj hmp hS R hR) _ (fun w5 hJ5 hM5 hC5 => ?_);have hJ5 := hJ5.to (Z := fun z => Ac z) (fun z => by rw [Bool.eq_iff_iff, qg4 HL.out, HA.out]);have HF5 := lh (hC5.blk HF4.out);have Hb5 : Hid (Below w.heap.size w w5) := lh ⟨hM5.os.trans Hb4.out.os, hM5.tape.trans Hb4.out.tape, hM5.output.trans Hb4.out.output, Nat.le_trans hz4 hM5.size, fun k hk => (hM5.block k (by omega) (by omega)).trans (Hb4.out.block k hk)⟩;have HS5 := lh hJ5.set;have o0 := hJ5.box;have lo := World.block_lt_of_cell? w5 _ o0;have hz5 := Hb5.out.size
 have Hx : Hid (∀ r, Ac r = true -> r < (n : Int)) := lh (fun r hr => by
  obtain ⟨i, k', b, x, _, _, _, _, h5⟩ := (HA.out r).1 hr;have := (h5.lt Hfo.out).2;rw [Hn.out] at this;exact this)
 clear hJ5 hM5 hC5 u0 u1 lU
 go_wp2_with fail
 refine q7e _ _ n _ HS5.out Hx.out _ (fun w6 v6 hb6 hown6 => ?_);have Hb6 := btt Hb5 hb6 hz5;have HF6 := (hb6.block _ (qa HF5.out)).trans HF5.out;have lF5 := qa HF5.out;have Ho6 := lh (qml (ownsRow_setCell_below (ownsRow_setCell_below hown6 (a := ⟨w.heap.size + 1, 0, none⟩) lF5 (.int .i64 0)) (a := ⟨w.heap.size + 1, 1, none⟩) lF5 (.int .i64 0)) hz5);obtain ⟨A6, c6, rfl⟩ := qj hown6;obtain ⟨f0, f1, lF⟩ := cbl HF6;have z0 := fzz HF6 0;have z1 := fzz HF6 1;clear hb6 hown6 HF6 o0 lo;have Hbl := lh (q02 Hb6.out [(⟨w.heap.size + 1, 0, none⟩, .int .i64 (0)), (⟨w.heap.size + 1, 1, none⟩, .int .i64 (0))] (by simp));go_wp2;refine bodyPost_ret (v := .tuple #[.slice A6 (rowX (fun z => Ac z) n).length c6, (.agg #[.int .i64 (((0 : Int), (0 : Int))).1, .int .i64 (((0 : Int), (0 : Int))).2])]) (by simp [results, Tryz.results40, go_sem, f0, f1, lF]) rfl ?_;exact HR.out _ _ Hbl.out Ho6.out
end Go.Proofs.YtdanebboiekieaaGreatDoor
namespace Go.Proofs.YtdanebboiekieaaGreatDoor
open Go.RowKit Go.Shelf
attribute [local go_sem] Oper.semAt_some
def iAt (S : List Int) (k : Nat) : Int := S.getD k 0
def IntAt (g : Nat) (S : List Int) (w : World) : Prop := ∃ A, w.heap[g]? = some (.cells A 3 (0, 0)) ∧ ∀ k, k < S.length -> A[k]? = some (.int .i64 (iAt S k))
theorem IntAt.cell {g : Nat} {S : List Int} {w : World} (h : IntAt g S w) {k : Nat} (hk : k < S.length) : w.cell? ⟨g, k, none⟩ = some (.int .i64 (iAt S k)) := by
 obtain ⟨A, h1, h2⟩ := h;rw [qb h1];exact h2 k hk
theorem IntAt.frozen {g : Nat} {S : List Int} {w : World} (h : IntAt g S w) (k : Nat) : w.frozen? ⟨g, k, none⟩ = false := by
 obtain ⟨A, h1, h2⟩ := h;simp [World.frozen?, h1]
theorem IntAt.lt {g : Nat} {S : List Int} {w : World} (h : IntAt g S w) : g < w.heap.size := by
 obtain ⟨A, h1, h2⟩ := h;exact qa h1
theorem q4q {S : List Int} {i k : Nat} {x : Int} (h : i < S.length) : iAt (S.set i x) k = if k = i then x else iAt S k := by
 unfold iAt;rw [List.getD_eq_getElem?_getD, List.getD_eq_getElem?_getD, List.getElem?_set]
 by_cases e : i = k
 ·subst e;rw [if_pos rfl, if_pos h, if_pos rfl];rfl
 ·rw [if_neg e, if_neg (fun x => e x.symm)]
theorem IntAt.set {g : Nat} {S : List Int} {w : World} (h : IntAt g S w) (k : Nat) (x : Int) : IntAt g (S.set k x) (w.setCell ⟨g, k, none⟩ (.int .i64 x)) := by
 obtain ⟨A, h1, h2⟩ := h;refine ⟨A.setIfInBounds k (.int .i64 x), by rw [q0h h1], fun j hj => ?_⟩;rw [List.length_set] at hj;have h3 := h2 j hj;have hjA : j < A.size := (Array.getElem?_eq_some_iff.1 h3).1;rw [Array.getElem?_setIfInBounds]
 by_cases e : k = j
 ·subst e;rw [if_pos rfl, if_pos hjA, q4q hj, if_pos rfl]
 ·rw [if_neg e, h3]
  rcases Nat.lt_or_ge k S.length with hk | hk
  ·rw [q4q hk, if_neg (fun h => e h.symm)]
  ·rw [List.set_eq_of_length_le hk]
theorem IntAt.block {g : Nat} {S : List Int} {w w' : World} (h : IntAt g S w) (hk : ∀ o : Obj, w.heap[g]? = some o -> o.isCells = true -> w'.heap[g]? = some o) : IntAt g S w' := by
 obtain ⟨A, h1, h2⟩ := h;exact ⟨A, hk _ h1 rfl, h2⟩
theorem IntAt.below {g : Nat} {S : List Int} {w w' : World} (h : IntAt g S w) (hb : Below w.heap.size w w') : IntAt g S w' := h.block fun o ho _ => (hb.block _ (qa ho)).trans ho
theorem IntAt.alloc {g : Nat} {S : List Int} {w : World} (h : IntAt g S w) (o : Obj) : IntAt g S (w.alloc o) := h.block fun x hx _ => qf hx o
theorem IntAt.SL {g cp : Nat} {S : List Int} {w : World} (h : IntAt g S w) (hm : S.length ≤ maxLen) (hc : S.length ≤ cp) : rpInt.SL w w.heap.size S (.slice (some ⟨g, 0, none⟩) S.length cp) := by
 refine ⟨_, _, rfl, hm, hc, fun _ => ⟨g, 0, rfl, h.lt, fun k x hk => ⟨_, rfl, fun j u hj => ?_⟩⟩⟩
 cases j with
 | zero =>
   simp at hj;subst hj;have hlt := (List.getElem?_eq_some_iff.1 hk).1;have := h.cell hlt;unfold iAt at this;rw [List.getD_eq_getElem?_getD, hk] at this;simpa [rpInt] using this
 | succ j => simp at hj
def IntI (g : Nat) (S : List Int) (w0 W : World) : Prop := IntAt g S W ∧ w0.grownBy W (some g) ∧ CKeep g w0 W
theorem qlm {β : Type} {g B : Nat} {f : β -> List Int} {w0 : World} (hB : w0.heap.size ≤ B) : OwnFrom B (fun (s : β) W => IntI g (f s) w0 W) := fun s A Z row hs hg hr => by
 obtain ⟨h1, h2, h3⟩ := hs
 have hkeep : ∀ (k : Nat) (o : Obj), A.heap[k]? = some o -> o.isCells = true -> Z.heap[k]? = some o := fun k o ho hc => by
  rcases (Classical.em (row = some k)) with e | e
  ·obtain ⟨_, o', ho', hc'⟩ := hr k e;rw [ho] at ho';injection ho' with ho'
   subst ho';rw [hc] at hc'
   cases hc'
  ·exact (hg.block k (qa ho) (fun h => e h.symm)).trans ho
 refine ⟨h1.block (fun o ho hc => hkeep g o ho hc), ⟨hg.os.trans h2.os, hg.tape.trans h2.tape, hg.output.trans h2.output, Nat.le_trans h2.size hg.size, fun k hk hk2 => ?_⟩, ⟨Nat.le_trans h3.1 hg.size, fun k o ho hc hk => hkeep k o (h3.2 k o ho hc hk) hc⟩⟩;rw [<- h2.block k hk hk2];refine hg.block k (by have := h2.size; omega) (fun e => ?_);have := (hr k e.symm).1;omega
theorem IntI.below {g : Nat} {S : List Int} {w0 W W' : World} (h : IntI g S w0 W) (hb : Below W.heap.size W W') : IntI g S w0 W' :=
 ⟨h.1.below hb, h.2.1.trans (qw hb _), h.2.2.trans (CKeep.of_below hb)⟩
theorem IntI.alloc {g : Nat} {S : List Int} {w0 W : World} (h : IntI g S w0 W) (o : Obj) : IntI g S w0 (W.alloc o) := h.below ((Below.refl _ _).alloc (Nat.le_refl _) o)
def rowW (l : List Int) (n : Nat) : List Int := (ints n).map (cntW l)
theorem q3w (l : List Int) (n : Nat) : (rowW l n).length = n := by
 unfold rowW;rw [List.length_map, q2x]
theorem qap {n k : Nat} (h : k < n) : (ints n)[k]? = some (k : Int) := by
 unfold ints;rw [List.getElem?_map, List.getElem?_range h, Option.map_some]
theorem q8s {l : List Int} {n k : Nat} (h : k < n) : iAt (rowW l n) k = cntW l (k : Int) := by
 unfold iAt rowW;rw [List.getD_eq_getElem?_getD, List.getElem?_map, qap h, Option.map_some, Option.getD_some]
theorem qi7 (l : List Int) (x r : Int) : cntW (l ++ [x]) r = if x = r then wrap64 (cntW l r + 1) else cntW l r := by
 unfold cntW;rw [List.count_append]
 by_cases e : x = r
 ·subst e;rw [if_pos rfl, List.count_singleton_self, Int.natCast_add];generalize ((List.count x l : Nat) : Int) = m
  show wrap64 (m + 1) = _;unfold wrap64;omega
 ·rw [if_neg e, List.count_singleton, if_neg (by simpa using e), Nat.add_zero]
theorem qct {l : List Int} {n k : Nat} (h : k < n) : rowW (l ++ [(k : Int)]) n = (rowW l n).set k (wrap64 (cntW l (k : Int) + 1)) := by
 apply List.ext_getElem?;intro j
 rcases Nat.lt_or_ge j n with hj | hj
 ·have h1 : (rowW (l ++ [(k : Int)]) n)[j]? = some (cntW (l ++ [(k : Int)]) (j : Int)) := by unfold rowW; rw [List.getElem?_map, qap hj, Option.map_some]
  have h2 : (rowW l n)[j]? = some (cntW l (j : Int)) := by unfold rowW; rw [List.getElem?_map, qap hj, Option.map_some]
  rw [h1, List.getElem?_set, qi7]
  by_cases e : k = j
  ·subst e;rw [if_pos rfl, if_pos rfl, if_pos (by rw [q3w]; exact h)]
  ·rw [if_neg e, if_neg (by omega), h2]
 ·rw [List.getElem?_eq_none (by rw [q3w]; exact hj), List.getElem?_eq_none (by rw [List.length_set, q3w]; exact hj)]
end Go.Proofs.YtdanebboiekieaaGreatDoor
namespace Go.Proofs.YtdanebboiekieaaGreatDoor
open Go.RowKit
attribute [local go_sem] Oper.semAt_some
theorem q0i {d : Nat -> Bool} {i k : Nat} (h : k ≠ i) (hd : don d i k = true) : d k = true := by
 unfold don at hd
 rwa [if_neg h] at hd
theorem qx {d : Nat -> Bool} {i k : Nat} (h : k ≠ i) : don d i k = d k := if_neg h
theorem q9p {d : Nat -> Bool} {i : Nat} : don d i i = true := if_pos rfl
theorem q6s {val : Nat -> Value} {k j : Nat} {v : Value} (h : j ≠ k) : setVl val k v j = val j := if_neg h
theorem q0s {val : Nat -> Value} {k : Nat} {v : Value} : setVl val k v k = v := if_pos rfl
theorem q0b {ops : Array Oper} {o og : Oper} {a : Act} {j k : Nat} {b : Bool} (h : o.guard = some (j, b)) (ho : ops[j]? = some og) (hd : og.dst = some k) (hk : k < a.tmps.size) (hv : vals a k = undef) : Region.wanted o (yielded ops a.tmps) = false := by
 unfold Region.wanted;rw [h];simp only [q7i ho hd hk, hv]
 cases b <;> rfl
structure WCells (x : UIns) (va : Value) (r n gp cp Br Bp PB B4 B8 : Nat) (pl : List Int) (w : World) : Prop where
 rb : w.cell? ⟨Br, 0, none⟩ = some (.int .i64 (r : Int))
 pb : w.cell? ⟨Bp, 0, none⟩ = some (.pointer (some ⟨PB, 0, none⟩))
 pp : w.cell? ⟨PB, 7, none⟩ = some (.slice (some ⟨gp, 0, none⟩) n cp)
 b8 : w.heap[B8]? = some (.cells #[.int .i64 x.op, .int .i64 x.dst, .bool x.a.reg, .int .i64 x.a.n, .bool x.b.reg, .int .i64 x.b.n, .int .i64 x.fn, va] 71 (0, 0))
 b4 : w.heap[B4]? = some (.cells #[.bool true, .int .i64 (r : Int)] 64 (0, 0))
 pl : IntAt gp pl w
structure WC where
 x : UIns
 va : Value
 r : Nat
 n : Nat
 gp : Nat
 cp : Nat
 Br : Nat
 Bp : Nat
 PB : Nat
 B4 : Nat
 B8 : Nat
 Rc : Nat
 lp : Nat
 m : Nat
 pl : List Int
 ys : List Int
 J : List Int -> World -> Prop
 Jx : List Int -> World -> Prop
 Need : World -> Prop
 hlen : pl.length = n
 hreg : x.a.reg = true
 hd : 0 ≤ x.dst ∧ x.dst < (n : Int)
 ha : 0 ≤ x.a.n ∧ x.a.n < (n : Int)
 cells : ∀ w, Need w -> WCells x va r n gp cp Br Bp PB B4 B8 pl w
 keep : ∀ w w', Need w -> CKeep Rc w w' -> Need w'
def WC.B1 (C : WC) : Bool := decide (C.x.a.n = (C.r : Int))
def WC.B2 (C : WC) : Bool := decide (C.x.dst = (C.r : Int))
def WC.p1 (C : WC) : Int := iAt C.pl C.x.dst.toNat
def WC.p2 (C : WC) : Int := iAt C.pl C.x.a.n.toNat
def WC.q1 (C : WC) : List Int := if C.B1 = true then [C.p1] else []
def WC.q2 (C : WC) : List Int := if C.B2 = true then [C.p2] else []
def WIS : List Nat := [39, 40, 41, 42, 43, 44, 45, 46, 47, 48, 49, 50, 51, 52, 53, 54, 55, 56, 57, 58, 59, 60, 61, 62, 63, 64, 65, 66, 67, 68, 69, 70, 71, 72, 73, 74, 75]
structure WR (C : WC) (c1 c2 : Bool) (d : Nat -> Bool) (val : Nat -> Value) (w : World) : Prop where
 lv : c1 = true -> c2 = true -> C.Need w ∧ C.J (C.ys ++ (if d 14 = true then C.q1 else []) ++ (if d 33 = true then C.q2 else [])) w
 x1 : c1 = false -> C.Jx (C.ys ++ [C.p1]) w
 x2 : c2 = false -> C.Jx (C.ys ++ C.q1 ++ [C.p2]) w
 n1 : d 14 = false -> c1 = true
 b1 : C.B1 = false -> c1 = true
 n2 : d 33 = false -> c2 = true
 b2 : C.B2 = false -> c2 = true
 e2 : c1 = false -> c2 = true
 v39 : d 0 = true -> val 39 = (.pointer (some ⟨C.B8, 2, none⟩))
 v40 : d 1 = true -> val 40 = (.agg #[.bool C.x.a.reg, .int .i64 C.x.a.n])
 v41 : d 2 = true -> val 41 = (.agg #[.bool true, .int .i64 (C.r : Int)])
 v42 : d 3 = true -> val 42 = (.bool C.B1)
 v43 : d 4 = true -> val 43 = (.bool C.B1)
 v44 : d 5 = true -> C.B1 = true -> val 44 = (.func (.yield C.lp) #[] #[])
 v45 : d 6 = true -> C.B1 = true -> val 45 = (.pointer (some ⟨C.PB, 0, none⟩))
 v46 : d 7 = true -> C.B1 = true -> val 46 = (.pointer (some ⟨C.PB, 0, none⟩))
 v47 : d 8 = true -> C.B1 = true -> val 47 = (.pointer (some ⟨C.PB, 7, none⟩))
 v48 : d 9 = true -> C.B1 = true -> val 48 = (.slice (some ⟨C.gp, 0, none⟩) C.n C.cp)
 v49 : d 10 = true -> C.B1 = true -> val 49 = (.pointer (some ⟨C.B8, 1, none⟩))
 v50 : d 11 = true -> C.B1 = true -> val 50 = (.int .i64 C.x.dst)
 v51 : d 12 = true -> C.B1 = true -> val 51 = (.pointer (some ⟨C.gp, C.x.dst.toNat, none⟩))
 v52 : d 13 = true -> C.B1 = true -> val 52 = (.int .i64 C.p1)
 v53 : d 14 = true -> C.B1 = true -> val 53 = (.bool c1)
 v54 : d 15 = true -> C.B1 = true -> val 54 = (.bool (!c1))
 v55 : d 16 = true -> val 55 = (.bool (!c1))
 v56 : d 17 = true -> val 56 = (.bool (!c1))
 v57 : d 18 = true -> c1 = true -> val 57 = (.pointer (some ⟨C.B8, 1, none⟩))
 v58 : d 19 = true -> c1 = true -> val 58 = (.int .i64 C.x.dst)
 v59 : d 20 = true -> c1 = true -> val 59 = (.int .i64 (C.r : Int))
 v60 : d 21 = true -> c1 = true -> val 60 = (.bool C.B2)
 v61 : d 22 = true -> c1 = true -> val 61 = (.bool C.B2)
 v62 : d 23 = true -> c1 = true -> C.B2 = true -> val 62 = (.func (.yield C.lp) #[] #[])
 v63 : d 24 = true -> c1 = true -> C.B2 = true -> val 63 = (.pointer (some ⟨C.PB, 0, none⟩))
 v64 : d 25 = true -> c1 = true -> C.B2 = true -> val 64 = (.pointer (some ⟨C.PB, 0, none⟩))
 v65 : d 26 = true -> c1 = true -> C.B2 = true -> val 65 = (.pointer (some ⟨C.PB, 7, none⟩))
 v66 : d 27 = true -> c1 = true -> C.B2 = true -> val 66 = (.slice (some ⟨C.gp, 0, none⟩) C.n C.cp)
 v67 : d 28 = true -> c1 = true -> C.B2 = true -> val 67 = (.pointer (some ⟨C.B8, 2, none⟩))
 v68 : d 29 = true -> c1 = true -> C.B2 = true -> val 68 = (.pointer (some ⟨C.B8, 3, none⟩))
 v69 : d 30 = true -> c1 = true -> C.B2 = true -> val 69 = (.int .i64 C.x.a.n)
 v70 : d 31 = true -> c1 = true -> C.B2 = true -> val 70 = (.pointer (some ⟨C.gp, C.x.a.n.toNat, none⟩))
 v71 : d 32 = true -> c1 = true -> C.B2 = true -> val 71 = (.int .i64 C.p2)
 v72 : d 33 = true -> c1 = true -> C.B2 = true -> val 72 = (.bool c2)
 v73 : d 34 = true -> c1 = true -> C.B2 = true -> val 73 = (.bool (!c2))
 v74 : d 35 = true -> c1 = true -> val 74 = (.bool (!c2))
 v75 : d 36 = true -> val 75 = (.bool (!c1 || !c2))
 v61u : d 22 = true -> c1 = false -> val 61 = undef
section
variable {C : WC} {c1 c2 : Bool} {d : Nat -> Bool} {val : Nat -> Value} {w : World}
theorem wk1 {d : Nat -> Bool} {val : Nat -> Value} {i j k l : Nat} {v x : Value} (H : d k = true -> val l = x) (e : l ≠ j := by decide) (n : k ≠ i := by decide) : don d i k = true -> setVl val j v l = x := fun h => (q6s e).trans (H (q0i n h))
theorem wk2 {P : Prop} {d : Nat -> Bool} {val : Nat -> Value} {i j k l : Nat} {v x : Value} (H : d k = true -> P -> val l = x) (e : l ≠ j := by decide) (n : k ≠ i := by decide) : don d i k = true -> P -> setVl val j v l = x := fun h p => (q6s e).trans (H (q0i n h) p)
theorem wk3 {P Q : Prop} {d : Nat -> Bool} {val : Nat -> Value} {i j k l : Nat} {v x : Value} (H : d k = true -> P -> Q -> val l = x) (e : l ≠ j := by decide) (n : k ≠ i := by decide) : don d i k = true -> P -> Q -> setVl val j v l = x := fun h p q => (q6s e).trans (H (q0i n h) p q)
def WG (C : WC) (c1 c2 : Bool) : Nat -> Value -> Prop
 | 0, x => x = (.pointer (some ⟨C.B8, 2, none⟩))
 | 1, x => x = (.agg #[.bool C.x.a.reg, .int .i64 C.x.a.n])
 | 2, x => x = (.agg #[.bool true, .int .i64 (C.r : Int)])
 | 3, x => x = (.bool C.B1)
 | 4, x => x = (.bool C.B1)
 | 5, x => C.B1 = true -> x = (.func (.yield C.lp) #[] #[])
 | 6, x => C.B1 = true -> x = (.pointer (some ⟨C.PB, 0, none⟩))
 | 7, x => C.B1 = true -> x = (.pointer (some ⟨C.PB, 0, none⟩))
 | 8, x => C.B1 = true -> x = (.pointer (some ⟨C.PB, 7, none⟩))
 | 9, x => C.B1 = true -> x = (.slice (some ⟨C.gp, 0, none⟩) C.n C.cp)
 | 10, x => C.B1 = true -> x = (.pointer (some ⟨C.B8, 1, none⟩))
 | 11, x => C.B1 = true -> x = (.int .i64 C.x.dst)
 | 12, x => C.B1 = true -> x = (.pointer (some ⟨C.gp, C.x.dst.toNat, none⟩))
 | 13, x => C.B1 = true -> x = (.int .i64 C.p1)
 | 14, x => C.B1 = true -> x = (.bool c1)
 | 15, x => C.B1 = true -> x = (.bool (!c1))
 | 16, x => x = (.bool (!c1))
 | 17, x => x = (.bool (!c1))
 | 18, x => c1 = true -> x = (.pointer (some ⟨C.B8, 1, none⟩))
 | 19, x => c1 = true -> x = (.int .i64 C.x.dst)
 | 20, x => c1 = true -> x = (.int .i64 (C.r : Int))
 | 21, x => c1 = true -> x = (.bool C.B2)
 | 22, x => c1 = true -> x = (.bool C.B2)
 | 23, x => c1 = true -> C.B2 = true -> x = (.func (.yield C.lp) #[] #[])
 | 24, x => c1 = true -> C.B2 = true -> x = (.pointer (some ⟨C.PB, 0, none⟩))
 | 25, x => c1 = true -> C.B2 = true -> x = (.pointer (some ⟨C.PB, 0, none⟩))
 | 26, x => c1 = true -> C.B2 = true -> x = (.pointer (some ⟨C.PB, 7, none⟩))
 | 27, x => c1 = true -> C.B2 = true -> x = (.slice (some ⟨C.gp, 0, none⟩) C.n C.cp)
 | 28, x => c1 = true -> C.B2 = true -> x = (.pointer (some ⟨C.B8, 2, none⟩))
 | 29, x => c1 = true -> C.B2 = true -> x = (.pointer (some ⟨C.B8, 3, none⟩))
 | 30, x => c1 = true -> C.B2 = true -> x = (.int .i64 C.x.a.n)
 | 31, x => c1 = true -> C.B2 = true -> x = (.pointer (some ⟨C.gp, C.x.a.n.toNat, none⟩))
 | 32, x => c1 = true -> C.B2 = true -> x = (.int .i64 C.p2)
 | 33, x => c1 = true -> C.B2 = true -> x = (.bool c2)
 | 34, x => c1 = true -> C.B2 = true -> x = (.bool (!c2))
 | 35, x => c1 = true -> x = (.bool (!c2))
 | 36, x => x = (.bool (!c1 || !c2))
 | _, _ => True
theorem upg (K : Nat) {i : Nat} {v : Value} (H : d K = true -> WG C c1 c2 K (val (K + 39))) (h : WG C c1 c2 i v) : don d i K = true -> WG C c1 c2 K (setVl val (i + 39) v (K + 39)) := fun h0 => by
 by_cases e : K = i
 ·subst e;rw [q0s];exact h
 ·rw [q6s (by omega)];exact H (q0i e h0)
theorem WR.upd (H : WR C c1 c2 d val w) (i : Nat) (v : Value) (h : WG C c1 c2 i v) (h14 : i ≠ 14 := by decide) (h33 : i ≠ 33 := by decide) (h22 : i ≠ 22 := by decide) : WR C c1 c2 (don d i) (setVl val (i + 39) v) w :=
 ⟨fun h1 h2 => by rw [qx h14.symm, qx h33.symm]; exact H.lv h1 h2, H.x1, H.x2, fun h => H.n1 (by rwa [qx h14.symm] at h), H.b1, fun h => H.n2 (by rwa [qx h33.symm] at h), H.b2, H.e2, upg 0 H.v39 h, upg 1 H.v40 h, upg 2 H.v41 h, upg 3 H.v42 h, upg 4 H.v43 h, upg 5 H.v44 h, upg 6 H.v45 h, upg 7 H.v46 h, upg 8 H.v47 h, upg 9 H.v48 h, upg 10 H.v49 h, upg 11 H.v50 h, upg 12 H.v51 h, upg 13 H.v52 h, upg 14 H.v53 h, upg 15 H.v54 h, upg 16 H.v55 h, upg 17 H.v56 h, upg 18 H.v57 h, upg 19 H.v58 h, upg 20 H.v59 h, upg 21 H.v60 h, upg 22 H.v61 h, upg 23 H.v62 h, upg 24 H.v63 h, upg 25 H.v64 h, upg 26 H.v65 h, upg 27 H.v66 h, upg 28 H.v67 h, upg 29 H.v68 h, upg 30 H.v69 h, upg 31 H.v70 h, upg 32 H.v71 h, upg 33 H.v72 h, upg 34 H.v73 h, upg 35 H.v74 h, upg 36 H.v75 h, fun h0 h1 => (q6s (by omega)).trans (H.v61u (q0i h22.symm h0) h1)⟩
theorem WR.f0 (H : WR C c1 c2 d val w) : WR C c1 c2 (don d 0) (setVl val 39 (.pointer (some ⟨C.B8, 2, none⟩))) w :=
 H.upd 0 _ rfl
theorem WR.f1 (H : WR C c1 c2 d val w) : WR C c1 c2 (don d 1) (setVl val 40 (.agg #[.bool C.x.a.reg, .int .i64 C.x.a.n])) w :=
 H.upd 1 _ rfl
theorem WR.f2 (H : WR C c1 c2 d val w) : WR C c1 c2 (don d 2) (setVl val 41 (.agg #[.bool true, .int .i64 (C.r : Int)])) w :=
 H.upd 2 _ rfl
theorem WR.f3 (H : WR C c1 c2 d val w) : WR C c1 c2 (don d 3) (setVl val 42 (.bool C.B1)) w :=
 H.upd 3 _ rfl
theorem WR.f4 (H : WR C c1 c2 d val w) : WR C c1 c2 (don d 4) (setVl val 43 (.bool C.B1)) w :=
 H.upd 4 _ rfl
theorem WR.f5 (H : WR C c1 c2 d val w) (g0 : C.B1 = true) : WR C c1 c2 (don d 5) (setVl val 44 (.func (.yield C.lp) #[] #[])) w :=
 H.upd 5 _ (fun _ => rfl)
theorem WR.u5B1 (H : WR C c1 c2 d val w) (g : C.B1 = false) : WR C c1 c2 (don d 5) (setVl val 44 undef) w :=
 H.upd 5 _ (fun h1 => absurd h1 (by rw [g]; decide))
theorem WR.f6 (H : WR C c1 c2 d val w) (g0 : C.B1 = true) : WR C c1 c2 (don d 6) (setVl val 45 (.pointer (some ⟨C.PB, 0, none⟩))) w :=
 H.upd 6 _ (fun _ => rfl)
theorem WR.u6B1 (H : WR C c1 c2 d val w) (g : C.B1 = false) : WR C c1 c2 (don d 6) (setVl val 45 undef) w :=
 H.upd 6 _ (fun h1 => absurd h1 (by rw [g]; decide))
theorem WR.f7 (H : WR C c1 c2 d val w) (g0 : C.B1 = true) : WR C c1 c2 (don d 7) (setVl val 46 (.pointer (some ⟨C.PB, 0, none⟩))) w :=
 H.upd 7 _ (fun _ => rfl)
theorem WR.u7B1 (H : WR C c1 c2 d val w) (g : C.B1 = false) : WR C c1 c2 (don d 7) (setVl val 46 undef) w :=
 H.upd 7 _ (fun h1 => absurd h1 (by rw [g]; decide))
theorem WR.f8 (H : WR C c1 c2 d val w) (g0 : C.B1 = true) : WR C c1 c2 (don d 8) (setVl val 47 (.pointer (some ⟨C.PB, 7, none⟩))) w :=
 H.upd 8 _ (fun _ => rfl)
theorem WR.u8B1 (H : WR C c1 c2 d val w) (g : C.B1 = false) : WR C c1 c2 (don d 8) (setVl val 47 undef) w :=
 H.upd 8 _ (fun h1 => absurd h1 (by rw [g]; decide))
theorem WR.f9 (H : WR C c1 c2 d val w) (g0 : C.B1 = true) : WR C c1 c2 (don d 9) (setVl val 48 (.slice (some ⟨C.gp, 0, none⟩) C.n C.cp)) w :=
 H.upd 9 _ (fun _ => rfl)
theorem WR.u9B1 (H : WR C c1 c2 d val w) (g : C.B1 = false) : WR C c1 c2 (don d 9) (setVl val 48 undef) w :=
 H.upd 9 _ (fun h1 => absurd h1 (by rw [g]; decide))
theorem WR.f10 (H : WR C c1 c2 d val w) (g0 : C.B1 = true) : WR C c1 c2 (don d 10) (setVl val 49 (.pointer (some ⟨C.B8, 1, none⟩))) w :=
 H.upd 10 _ (fun _ => rfl)
theorem WR.u10B1 (H : WR C c1 c2 d val w) (g : C.B1 = false) : WR C c1 c2 (don d 10) (setVl val 49 undef) w :=
 H.upd 10 _ (fun h1 => absurd h1 (by rw [g]; decide))
theorem WR.f11 (H : WR C c1 c2 d val w) (g0 : C.B1 = true) : WR C c1 c2 (don d 11) (setVl val 50 (.int .i64 C.x.dst)) w :=
 H.upd 11 _ (fun _ => rfl)
theorem WR.u11B1 (H : WR C c1 c2 d val w) (g : C.B1 = false) : WR C c1 c2 (don d 11) (setVl val 50 undef) w :=
 H.upd 11 _ (fun h1 => absurd h1 (by rw [g]; decide))
theorem WR.f12 (H : WR C c1 c2 d val w) (g0 : C.B1 = true) : WR C c1 c2 (don d 12) (setVl val 51 (.pointer (some ⟨C.gp, C.x.dst.toNat, none⟩))) w :=
 H.upd 12 _ (fun _ => rfl)
theorem WR.u12B1 (H : WR C c1 c2 d val w) (g : C.B1 = false) : WR C c1 c2 (don d 12) (setVl val 51 undef) w :=
 H.upd 12 _ (fun h1 => absurd h1 (by rw [g]; decide))
theorem WR.f13 (H : WR C c1 c2 d val w) (g0 : C.B1 = true) : WR C c1 c2 (don d 13) (setVl val 52 (.int .i64 C.p1)) w :=
 H.upd 13 _ (fun _ => rfl)
theorem WR.u13B1 (H : WR C c1 c2 d val w) (g : C.B1 = false) : WR C c1 c2 (don d 13) (setVl val 52 undef) w :=
 H.upd 13 _ (fun h1 => absurd h1 (by rw [g]; decide))
theorem WR.f15 (H : WR C c1 c2 d val w) (g0 : C.B1 = true) : WR C c1 c2 (don d 15) (setVl val 54 (.bool (!c1))) w :=
 H.upd 15 _ (fun _ => rfl)
theorem WR.u15B1 (H : WR C c1 c2 d val w) (g : C.B1 = false) : WR C c1 c2 (don d 15) (setVl val 54 undef) w :=
 H.upd 15 _ (fun h1 => absurd h1 (by rw [g]; decide))
theorem WR.f16 (H : WR C c1 c2 d val w) : WR C c1 c2 (don d 16) (setVl val 55 (.bool (!c1))) w :=
 H.upd 16 _ rfl
theorem WR.f17 (H : WR C c1 c2 d val w) : WR C c1 c2 (don d 17) (setVl val 56 (.bool (!c1))) w :=
 H.upd 17 _ rfl
theorem WR.f18 (H : WR C c1 c2 d val w) (g0 : c1 = true) : WR C c1 c2 (don d 18) (setVl val 57 (.pointer (some ⟨C.B8, 1, none⟩))) w :=
 H.upd 18 _ (fun _ => rfl)
theorem WR.u18c1 (H : WR C c1 c2 d val w) (g : c1 = false) : WR C c1 c2 (don d 18) (setVl val 57 undef) w :=
 H.upd 18 _ (fun h1 => absurd h1 (by rw [g]; decide))
theorem WR.f19 (H : WR C c1 c2 d val w) (g0 : c1 = true) : WR C c1 c2 (don d 19) (setVl val 58 (.int .i64 C.x.dst)) w :=
 H.upd 19 _ (fun _ => rfl)
theorem WR.u19c1 (H : WR C c1 c2 d val w) (g : c1 = false) : WR C c1 c2 (don d 19) (setVl val 58 undef) w :=
 H.upd 19 _ (fun h1 => absurd h1 (by rw [g]; decide))
theorem WR.f20 (H : WR C c1 c2 d val w) (g0 : c1 = true) : WR C c1 c2 (don d 20) (setVl val 59 (.int .i64 (C.r : Int))) w :=
 H.upd 20 _ (fun _ => rfl)
theorem WR.u20c1 (H : WR C c1 c2 d val w) (g : c1 = false) : WR C c1 c2 (don d 20) (setVl val 59 undef) w :=
 H.upd 20 _ (fun h1 => absurd h1 (by rw [g]; decide))
theorem WR.f21 (H : WR C c1 c2 d val w) (g0 : c1 = true) : WR C c1 c2 (don d 21) (setVl val 60 (.bool C.B2)) w :=
 H.upd 21 _ (fun _ => rfl)
theorem WR.u21c1 (H : WR C c1 c2 d val w) (g : c1 = false) : WR C c1 c2 (don d 21) (setVl val 60 undef) w :=
 H.upd 21 _ (fun h1 => absurd h1 (by rw [g]; decide))
theorem WR.f22 (H : WR C c1 c2 d val w) (g0 : c1 = true) : WR C c1 c2 (don d 22) (setVl val 61 (.bool C.B2)) w :=
 ⟨fun h1 h2 => by rw [qx (by decide), qx (by decide)]; exact H.lv h1 h2, H.x1, H.x2, fun h => H.n1 (by rwa [qx (by decide)] at h), H.b1, fun h => H.n2 (by rwa [qx (by decide)] at h), H.b2, H.e2, wk1 H.v39, wk1 H.v40, wk1 H.v41, wk1 H.v42, wk1 H.v43, wk2 H.v44, wk2 H.v45, wk2 H.v46, wk2 H.v47, wk2 H.v48, wk2 H.v49, wk2 H.v50, wk2 H.v51, wk2 H.v52, wk2 H.v53, wk2 H.v54, wk1 H.v55, wk1 H.v56, wk2 H.v57, wk2 H.v58, wk2 H.v59, wk2 H.v60, fun _ _ => q0s, wk3 H.v62, wk3 H.v63, wk3 H.v64, wk3 H.v65, wk3 H.v66, wk3 H.v67, wk3 H.v68, wk3 H.v69, wk3 H.v70, wk3 H.v71, wk3 H.v72, wk3 H.v73, wk2 H.v74, wk1 H.v75, fun _ h1 => absurd g0 (by rw [h1]; decide)⟩
theorem WR.u22c1 (H : WR C c1 c2 d val w) (g : c1 = false) : WR C c1 c2 (don d 22) (setVl val 61 undef) w :=
 ⟨fun h1 h2 => by rw [qx (by decide), qx (by decide)]; exact H.lv h1 h2, H.x1, H.x2, fun h => H.n1 (by rwa [qx (by decide)] at h), H.b1, fun h => H.n2 (by rwa [qx (by decide)] at h), H.b2, H.e2, wk1 H.v39, wk1 H.v40, wk1 H.v41, wk1 H.v42, wk1 H.v43, wk2 H.v44, wk2 H.v45, wk2 H.v46, wk2 H.v47, wk2 H.v48, wk2 H.v49, wk2 H.v50, wk2 H.v51, wk2 H.v52, wk2 H.v53, wk2 H.v54, wk1 H.v55, wk1 H.v56, wk2 H.v57, wk2 H.v58, wk2 H.v59, wk2 H.v60, fun h0 h1 => absurd h1 (by rw [g]; decide), wk3 H.v62, wk3 H.v63, wk3 H.v64, wk3 H.v65, wk3 H.v66, wk3 H.v67, wk3 H.v68, wk3 H.v69, wk3 H.v70, wk3 H.v71, wk3 H.v72, wk3 H.v73, wk2 H.v74, wk1 H.v75, fun _ _ => q0s⟩
theorem WR.f23 (H : WR C c1 c2 d val w) (g0 : c1 = true) (g1 : C.B2 = true) : WR C c1 c2 (don d 23) (setVl val 62 (.func (.yield C.lp) #[] #[])) w :=
 H.upd 23 _ (fun _ _ => rfl)
theorem WR.u23c1 (H : WR C c1 c2 d val w) (g : c1 = false) : WR C c1 c2 (don d 23) (setVl val 62 undef) w :=
 H.upd 23 _ (fun h1 h2 => absurd h1 (by rw [g]; decide))
theorem WR.u23B2 (H : WR C c1 c2 d val w) (g : C.B2 = false) : WR C c1 c2 (don d 23) (setVl val 62 undef) w :=
 H.upd 23 _ (fun h1 h2 => absurd h2 (by rw [g]; decide))
theorem WR.f24 (H : WR C c1 c2 d val w) (g0 : c1 = true) (g1 : C.B2 = true) : WR C c1 c2 (don d 24) (setVl val 63 (.pointer (some ⟨C.PB, 0, none⟩))) w :=
 H.upd 24 _ (fun _ _ => rfl)
theorem WR.u24c1 (H : WR C c1 c2 d val w) (g : c1 = false) : WR C c1 c2 (don d 24) (setVl val 63 undef) w :=
 H.upd 24 _ (fun h1 h2 => absurd h1 (by rw [g]; decide))
theorem WR.u24B2 (H : WR C c1 c2 d val w) (g : C.B2 = false) : WR C c1 c2 (don d 24) (setVl val 63 undef) w :=
 H.upd 24 _ (fun h1 h2 => absurd h2 (by rw [g]; decide))
theorem WR.f25 (H : WR C c1 c2 d val w) (g0 : c1 = true) (g1 : C.B2 = true) : WR C c1 c2 (don d 25) (setVl val 64 (.pointer (some ⟨C.PB, 0, none⟩))) w :=
 H.upd 25 _ (fun _ _ => rfl)
theorem WR.u25c1 (H : WR C c1 c2 d val w) (g : c1 = false) : WR C c1 c2 (don d 25) (setVl val 64 undef) w :=
 H.upd 25 _ (fun h1 h2 => absurd h1 (by rw [g]; decide))
theorem WR.u25B2 (H : WR C c1 c2 d val w) (g : C.B2 = false) : WR C c1 c2 (don d 25) (setVl val 64 undef) w :=
 H.upd 25 _ (fun h1 h2 => absurd h2 (by rw [g]; decide))
theorem WR.f26 (H : WR C c1 c2 d val w) (g0 : c1 = true) (g1 : C.B2 = true) : WR C c1 c2 (don d 26) (setVl val 65 (.pointer (some ⟨C.PB, 7, none⟩))) w :=
 H.upd 26 _ (fun _ _ => rfl)
theorem WR.u26c1 (H : WR C c1 c2 d val w) (g : c1 = false) : WR C c1 c2 (don d 26) (setVl val 65 undef) w :=
 H.upd 26 _ (fun h1 h2 => absurd h1 (by rw [g]; decide))
theorem WR.u26B2 (H : WR C c1 c2 d val w) (g : C.B2 = false) : WR C c1 c2 (don d 26) (setVl val 65 undef) w :=
 H.upd 26 _ (fun h1 h2 => absurd h2 (by rw [g]; decide))
theorem WR.f27 (H : WR C c1 c2 d val w) (g0 : c1 = true) (g1 : C.B2 = true) : WR C c1 c2 (don d 27) (setVl val 66 (.slice (some ⟨C.gp, 0, none⟩) C.n C.cp)) w :=
 H.upd 27 _ (fun _ _ => rfl)
theorem WR.u27c1 (H : WR C c1 c2 d val w) (g : c1 = false) : WR C c1 c2 (don d 27) (setVl val 66 undef) w :=
 H.upd 27 _ (fun h1 h2 => absurd h1 (by rw [g]; decide))
theorem WR.u27B2 (H : WR C c1 c2 d val w) (g : C.B2 = false) : WR C c1 c2 (don d 27) (setVl val 66 undef) w :=
 H.upd 27 _ (fun h1 h2 => absurd h2 (by rw [g]; decide))
theorem WR.f28 (H : WR C c1 c2 d val w) (g0 : c1 = true) (g1 : C.B2 = true) : WR C c1 c2 (don d 28) (setVl val 67 (.pointer (some ⟨C.B8, 2, none⟩))) w :=
 H.upd 28 _ (fun _ _ => rfl)
theorem WR.u28c1 (H : WR C c1 c2 d val w) (g : c1 = false) : WR C c1 c2 (don d 28) (setVl val 67 undef) w :=
 H.upd 28 _ (fun h1 h2 => absurd h1 (by rw [g]; decide))
theorem WR.u28B2 (H : WR C c1 c2 d val w) (g : C.B2 = false) : WR C c1 c2 (don d 28) (setVl val 67 undef) w :=
 H.upd 28 _ (fun h1 h2 => absurd h2 (by rw [g]; decide))
theorem WR.f29 (H : WR C c1 c2 d val w) (g0 : c1 = true) (g1 : C.B2 = true) : WR C c1 c2 (don d 29) (setVl val 68 (.pointer (some ⟨C.B8, 3, none⟩))) w :=
 H.upd 29 _ (fun _ _ => rfl)
theorem WR.u29c1 (H : WR C c1 c2 d val w) (g : c1 = false) : WR C c1 c2 (don d 29) (setVl val 68 undef) w :=
 H.upd 29 _ (fun h1 h2 => absurd h1 (by rw [g]; decide))
theorem WR.u29B2 (H : WR C c1 c2 d val w) (g : C.B2 = false) : WR C c1 c2 (don d 29) (setVl val 68 undef) w :=
 H.upd 29 _ (fun h1 h2 => absurd h2 (by rw [g]; decide))
theorem WR.f30 (H : WR C c1 c2 d val w) (g0 : c1 = true) (g1 : C.B2 = true) : WR C c1 c2 (don d 30) (setVl val 69 (.int .i64 C.x.a.n)) w :=
 H.upd 30 _ (fun _ _ => rfl)
theorem WR.u30c1 (H : WR C c1 c2 d val w) (g : c1 = false) : WR C c1 c2 (don d 30) (setVl val 69 undef) w :=
 H.upd 30 _ (fun h1 h2 => absurd h1 (by rw [g]; decide))
theorem WR.u30B2 (H : WR C c1 c2 d val w) (g : C.B2 = false) : WR C c1 c2 (don d 30) (setVl val 69 undef) w :=
 H.upd 30 _ (fun h1 h2 => absurd h2 (by rw [g]; decide))
theorem WR.f31 (H : WR C c1 c2 d val w) (g0 : c1 = true) (g1 : C.B2 = true) : WR C c1 c2 (don d 31) (setVl val 70 (.pointer (some ⟨C.gp, C.x.a.n.toNat, none⟩))) w :=
 H.upd 31 _ (fun _ _ => rfl)
theorem WR.u31c1 (H : WR C c1 c2 d val w) (g : c1 = false) : WR C c1 c2 (don d 31) (setVl val 70 undef) w :=
 H.upd 31 _ (fun h1 h2 => absurd h1 (by rw [g]; decide))
theorem WR.u31B2 (H : WR C c1 c2 d val w) (g : C.B2 = false) : WR C c1 c2 (don d 31) (setVl val 70 undef) w :=
 H.upd 31 _ (fun h1 h2 => absurd h2 (by rw [g]; decide))
theorem WR.f32 (H : WR C c1 c2 d val w) (g0 : c1 = true) (g1 : C.B2 = true) : WR C c1 c2 (don d 32) (setVl val 71 (.int .i64 C.p2)) w :=
 H.upd 32 _ (fun _ _ => rfl)
theorem WR.u32c1 (H : WR C c1 c2 d val w) (g : c1 = false) : WR C c1 c2 (don d 32) (setVl val 71 undef) w :=
 H.upd 32 _ (fun h1 h2 => absurd h1 (by rw [g]; decide))
theorem WR.u32B2 (H : WR C c1 c2 d val w) (g : C.B2 = false) : WR C c1 c2 (don d 32) (setVl val 71 undef) w :=
 H.upd 32 _ (fun h1 h2 => absurd h2 (by rw [g]; decide))
theorem WR.f34 (H : WR C c1 c2 d val w) (g0 : c1 = true) (g1 : C.B2 = true) : WR C c1 c2 (don d 34) (setVl val 73 (.bool (!c2))) w :=
 H.upd 34 _ (fun _ _ => rfl)
theorem WR.u34c1 (H : WR C c1 c2 d val w) (g : c1 = false) : WR C c1 c2 (don d 34) (setVl val 73 undef) w :=
 H.upd 34 _ (fun h1 h2 => absurd h1 (by rw [g]; decide))
theorem WR.u34B2 (H : WR C c1 c2 d val w) (g : C.B2 = false) : WR C c1 c2 (don d 34) (setVl val 73 undef) w :=
 H.upd 34 _ (fun h1 h2 => absurd h2 (by rw [g]; decide))
theorem WR.f35 (H : WR C c1 c2 d val w) (g0 : c1 = true) : WR C c1 c2 (don d 35) (setVl val 74 (.bool (!c2))) w :=
 H.upd 35 _ (fun _ => rfl)
theorem WR.u35c1 (H : WR C c1 c2 d val w) (g : c1 = false) : WR C c1 c2 (don d 35) (setVl val 74 undef) w :=
 H.upd 35 _ (fun h1 => absurd h1 (by rw [g]; decide))
theorem WR.f36 (H : WR C c1 c2 d val w) : WR C c1 c2 (don d 36) (setVl val 75 (.bool (!c1 || !c2))) w :=
 H.upd 36 _ rfl
theorem WR.u14B1 (H : WR C c1 c2 d val w) (g : C.B1 = false) : WR C c1 c2 (don d 14) (setVl val 53 undef) w := by
 have hq : C.q1 = [] := if_neg (by rw [g]; decide);refine ⟨fun h1 h2 => ?_, H.x1, H.x2, fun _ => H.b1 g, H.b1, fun h => H.n2 (by rwa [qx (by decide)] at h), H.b2, H.e2, wk1 H.v39, wk1 H.v40, wk1 H.v41, wk1 H.v42, wk1 H.v43, wk2 H.v44, wk2 H.v45, wk2 H.v46, wk2 H.v47, wk2 H.v48, wk2 H.v49, wk2 H.v50, wk2 H.v51, wk2 H.v52, fun h0 h1 => absurd h1 (by rw [g]; decide), wk2 H.v54, wk1 H.v55, wk1 H.v56, wk2 H.v57, wk2 H.v58, wk2 H.v59, wk2 H.v60, wk2 H.v61, wk3 H.v62, wk3 H.v63, wk3 H.v64, wk3 H.v65, wk3 H.v66, wk3 H.v67, wk3 H.v68, wk3 H.v69, wk3 H.v70, wk3 H.v71, wk3 H.v72, wk3 H.v73, wk2 H.v74, wk1 H.v75, wk2 H.v61u⟩;have h3 := H.lv h1 h2;rw [hq, ite_self] at h3;rw [qx (show (33 : Nat) ≠ 14 by decide), hq, ite_self];exact h3
theorem WR.u33c1 (H : WR C c1 c2 d val w) (g : c1 = false) : WR C c1 c2 (don d 33) (setVl val 72 undef) w := by
 refine ⟨fun h1 h2 => absurd h1 (by rw [g]; decide), H.x1, H.x2, fun h => H.n1 (by rwa [qx (by decide)] at h), H.b1, fun _ => H.e2 g, H.b2, H.e2, wk1 H.v39, wk1 H.v40, wk1 H.v41, wk1 H.v42, wk1 H.v43, wk2 H.v44, wk2 H.v45, wk2 H.v46, wk2 H.v47, wk2 H.v48, wk2 H.v49, wk2 H.v50, wk2 H.v51, wk2 H.v52, wk2 H.v53, wk2 H.v54, wk1 H.v55, wk1 H.v56, wk2 H.v57, wk2 H.v58, wk2 H.v59, wk2 H.v60, wk2 H.v61, wk3 H.v62, wk3 H.v63, wk3 H.v64, wk3 H.v65, wk3 H.v66, wk3 H.v67, wk3 H.v68, wk3 H.v69, wk3 H.v70, wk3 H.v71, fun h0 h1 h2 => absurd h1 (by rw [g]; decide), wk3 H.v73, wk2 H.v74, wk1 H.v75, wk2 H.v61u⟩
theorem WR.u33B2 (H : WR C c1 c2 d val w) (g : C.B2 = false) : WR C c1 c2 (don d 33) (setVl val 72 undef) w := by
 have hq : C.q2 = [] := if_neg (by rw [g]; decide);refine ⟨fun h1 h2 => ?_, H.x1, H.x2, fun h => H.n1 (by rwa [qx (by decide)] at h), H.b1, fun _ => H.b2 g, H.b2, H.e2, wk1 H.v39, wk1 H.v40, wk1 H.v41, wk1 H.v42, wk1 H.v43, wk2 H.v44, wk2 H.v45, wk2 H.v46, wk2 H.v47, wk2 H.v48, wk2 H.v49, wk2 H.v50, wk2 H.v51, wk2 H.v52, wk2 H.v53, wk2 H.v54, wk1 H.v55, wk1 H.v56, wk2 H.v57, wk2 H.v58, wk2 H.v59, wk2 H.v60, wk2 H.v61, wk3 H.v62, wk3 H.v63, wk3 H.v64, wk3 H.v65, wk3 H.v66, wk3 H.v67, wk3 H.v68, wk3 H.v69, wk3 H.v70, wk3 H.v71, fun h0 h1 h2 => absurd h2 (by rw [g]; decide), wk3 H.v73, wk2 H.v74, wk1 H.v75, wk2 H.v61u⟩;have h3 := H.lv h1 h2;rw [hq, ite_self] at h3;rw [qx (show (14 : Nat) ≠ 33 by decide), hq, ite_self];exact h3
theorem WR.f14 (H : WR C c1 c2 d val w) (hz : ∀ j, 14 ≤ j -> j < 37 -> d j = false) (g0 : C.B1 = true) {w' : World} {b : Bool} (ht : b = true -> C.Need w' ∧ C.J (C.ys ++ [C.p1]) w') (hf : b = false -> C.Jx (C.ys ++ [C.p1]) w') : WR C b c2 (don d 14) (setVl val 53 (.bool b)) w' := by
 have hq : C.q1 = [C.p1] := if_pos g0;have hc2 : c2 = true := H.n2 (hz 33 (by omega) (by omega));refine ⟨fun h1 _ => ?_, hf, fun h => absurd h (by rw [hc2]; decide), fun h => absurd h (by rw [q9p]; decide), fun h => absurd h (by rw [g0]; decide), fun _ => hc2, H.b2, fun _ => hc2, wk1 H.v39, wk1 H.v40, wk1 H.v41, wk1 H.v42, wk1 H.v43, wk2 H.v44, wk2 H.v45, wk2 H.v46, wk2 H.v47, wk2 H.v48, wk2 H.v49, wk2 H.v50, wk2 H.v51, wk2 H.v52, fun _ _ => q0s, fun h0 => absurd (q0i (by decide) h0) (by rw [hz 15 (by omega) (by omega)]; decide), fun h0 => absurd (q0i (by decide) h0) (by rw [hz 16 (by omega) (by omega)]; decide), fun h0 => absurd (q0i (by decide) h0) (by rw [hz 17 (by omega) (by omega)]; decide), fun h0 => absurd (q0i (by decide) h0) (by rw [hz 18 (by omega) (by omega)]; decide), fun h0 => absurd (q0i (by decide) h0) (by rw [hz 19 (by omega) (by omega)]; decide), fun h0 => absurd (q0i (by decide) h0) (by rw [hz 20 (by omega) (by omega)]; decide), fun h0 => absurd (q0i (by decide) h0) (by rw [hz 21 (by omega) (by omega)]; decide), fun h0 => absurd (q0i (by decide) h0) (by rw [hz 22 (by omega) (by omega)]; decide), fun h0 => absurd (q0i (by decide) h0) (by rw [hz 23 (by omega) (by omega)]; decide), fun h0 => absurd (q0i (by decide) h0) (by rw [hz 24 (by omega) (by omega)]; decide), fun h0 => absurd (q0i (by decide) h0) (by rw [hz 25 (by omega) (by omega)]; decide), fun h0 => absurd (q0i (by decide) h0) (by rw [hz 26 (by omega) (by omega)]; decide), fun h0 => absurd (q0i (by decide) h0) (by rw [hz 27 (by omega) (by omega)]; decide), fun h0 => absurd (q0i (by decide) h0) (by rw [hz 28 (by omega) (by omega)]; decide), fun h0 => absurd (q0i (by decide) h0) (by rw [hz 29 (by omega) (by omega)]; decide), fun h0 => absurd (q0i (by decide) h0) (by rw [hz 30 (by omega) (by omega)]; decide), fun h0 => absurd (q0i (by decide) h0) (by rw [hz 31 (by omega) (by omega)]; decide), fun h0 => absurd (q0i (by decide) h0) (by rw [hz 32 (by omega) (by omega)]; decide), fun h0 => absurd (q0i (by decide) h0) (by rw [hz 33 (by omega) (by omega)]; decide), fun h0 => absurd (q0i (by decide) h0) (by rw [hz 34 (by omega) (by omega)]; decide), fun h0 => absurd (q0i (by decide) h0) (by rw [hz 35 (by omega) (by omega)]; decide), fun h0 => absurd (q0i (by decide) h0) (by rw [hz 36 (by omega) (by omega)]; decide), fun h0 => absurd (q0i (by decide) h0) (by rw [hz 22 (by omega) (by omega)]; decide)⟩;rw [q9p, if_pos rfl, qx (show (33 : Nat) ≠ 14 by decide), hz 33 (by omega) (by omega), if_neg (by decide), List.append_nil, hq];exact ht h1
theorem WR.f33 (H : WR C c1 c2 d val w) (hz : ∀ j, 33 ≤ j -> j < 37 -> d j = false) (h14 : d 14 = true) (g0 : c1 = true) (g1 : C.B2 = true) {w' : World} {b : Bool} (ht : b = true -> C.Need w' ∧ C.J (C.ys ++ C.q1 ++ [C.p2]) w') (hf : b = false -> C.Jx (C.ys ++ C.q1 ++ [C.p2]) w') : WR C c1 b (don d 33) (setVl val 72 (.bool b)) w' := by
 have hq : C.q2 = [C.p2] := if_pos g1;refine ⟨fun _ h2 => ?_, fun h => absurd h (by rw [g0]; decide), hf, fun h => absurd h14 (by rw [qx (by decide)] at h; rw [h]; decide), H.b1, fun h => absurd h (by rw [q9p]; decide), fun h => absurd h (by rw [g1]; decide), fun h => absurd h (by rw [g0]; decide), wk1 H.v39, wk1 H.v40, wk1 H.v41, wk1 H.v42, wk1 H.v43, wk2 H.v44, wk2 H.v45, wk2 H.v46, wk2 H.v47, wk2 H.v48, wk2 H.v49, wk2 H.v50, wk2 H.v51, wk2 H.v52, wk2 H.v53, wk2 H.v54, wk1 H.v55, wk1 H.v56, wk2 H.v57, wk2 H.v58, wk2 H.v59, wk2 H.v60, wk2 H.v61, wk3 H.v62, wk3 H.v63, wk3 H.v64, wk3 H.v65, wk3 H.v66, wk3 H.v67, wk3 H.v68, wk3 H.v69, wk3 H.v70, wk3 H.v71, fun _ _ _ => q0s, fun h0 => absurd (q0i (by decide) h0) (by rw [hz 34 (by omega) (by omega)]; decide), fun h0 => absurd (q0i (by decide) h0) (by rw [hz 35 (by omega) (by omega)]; decide), fun h0 => absurd (q0i (by decide) h0) (by rw [hz 36 (by omega) (by omega)]; decide), wk2 H.v61u⟩;rw [q9p, if_pos rfl, qx (show (14 : Nat) ≠ 33 by decide), h14, if_pos rfl, hq];exact ht h2
end
end Go.Proofs.YtdanebboiekieaaGreatDoor
