/- A stable sort of ints: insertion; the walk. A stable sort of ints: merging in place; the plain law. A stable sort of ints: merging in place; one on the left. A stable sort of ints: merging in place; one on the left; the walk. -/
import Derived.Test.YtdanebboiekieaaGreatDoorQ34
import Derived.Test.YtdanebboiekieaaGreatDoorQ01
import Derived.Test.YtdanebboiekieaaGreatDoorRows
import Derived.IntWalk
import Derived.BigRegion
import Derived.BigQuiet
import Derived.Outline
import Derived.Deep.LoopGhost
import Derived.Deep.RegionLaw
import Derived.Deep.CutBlock
import Derived.Deep.DeepCutAuto
namespace Go.Proofs.YtdanebboiekieaaGreatDoor
open Go.RowKit
set_option linter.unusedSimpArgs false
set_option linter.unusedVariables false

theorem insS_mem {S P D Q T : List Int} {i j : Nat} (h : InsS S P D Q i j T) : iAt T j ∈ D ∧ (P.length < j → iAt T (j - 1) ∈ D) ∧ j < T.length ∧ P.length ≤ j ∧ T.length = P.length + D.length + Q.length := by
 obtain ⟨D1, R, L1, L2, x, rfl, h1, rfl, h2, h3, h4, h5⟩ := h.ex
 have hll := h4.length_eq
 rw [List.length_append] at hll
 refine ⟨?_, fun hj => ?_, by simp; omega, by omega, by simp; omega⟩
 ·rw [iAt_right (by omega), iAt_right (by omega), show j - P.length - L1.length = 0 by omega]
  simp [iAt]
 ·rw [iAt_right (by omega), iAt_left (by omega)]
  refine List.mem_append_left _ (h4.mem_iff.1 (List.mem_append_left _ ?_))
  unfold iAt
  rw [List.getD_eq_getElem?_getD, List.getElem?_eq_getElem (by omega)]
  exact List.getElem_mem _
/-- What the comparing closure stands on. -/
structure CmpN (S : List Int) (g n cp bx gs : Nat) (w : World) : Prop where
 row : IntAt g S w
 len : S.length = n
 box : w.heap[bx]? = some (.cells #[.slice (some ⟨g, 0, none⟩) n cp] 26 (0, 0))
 ne : g ≠ gs ∧ bx ≠ gs
theorem CmpN.keep {S : List Int} {g n cp bx gs : Nat} {w w' : World} (h : CmpN S g n cp bx gs w) (hk : CKeep gs w w') : CmpN S g n cp bx gs w' := ⟨h.row.keep hk h.ne.1, h.len, hk.blk h.box h.ne.2, h.ne⟩
set_option maxHeartbeats 8000000 in
theorem insF_calls (S : List Int) (g nn cp bx gs n c a b : Nat) (P D Q : List Int) (ha : P.length = a) (hb : P.length + D.length = b) (hn : P.length + D.length + Q.length = n) (hn1 : n ≤ 1000) (hs : D.Pairwise (· < ·)) (hD : ∀ x ∈ D, 0 ≤ x ∧ x < (nn : Int)) (w : World) (hC : CmpN S g nn cp bx gs w) (hI : IntAt gs (P ++ (D ++ Q)) w) (R : Ending → World → Prop)
 (hR : ∀ w', IntI gs (P ++ (sortW (wtS S) D ++ Q)) w w' → R (.returned (.tuple #[])) w') :
 Calls Tryz.prog 102 #[.slice (some ⟨gs, 0, none⟩) n c, .int .i64 (a : Int), .int .i64 (b : Int), .func (.func 44) #[] #[.pointer (some ⟨bx, 0, none⟩)]] w R := by
 have HR := Lib.hid hR
 have HI := Lib.hid hI
 have HC := Lib.hid hC
 have HD := Lib.hid hD
 have Hs := Lib.hid hs
 have hbn : b ≤ n := by omega
 have hb1 : b ≤ 1000 := by omega
 have ha1 : a ≤ 1000 := by omega
 have HL := Lib.hid (And.intro ha (And.intro hb hn))
 clear hR hI hC hD hs ha hb hn
 by_cases hab : ¬ a + 1 < b + 1 - 0
 ·have hD0 : D = [] := List.eq_nil_of_length_eq_zero (by have := HL.out; omega)
  subst hD0
  have e1 : ¬ (a : Int) + 1 < (b : Int) := by omega
  rw [sortW_nil] at HR
  have hf := Lib.hid (HR.out _ (IntI.refl HI.out))
  go_enter Tryz.func102, Tryz.ntmps102
  go_wp2
  go_loopg [8] 0 (fun gh vi wr => gh = 0 ∧ vi = .int .i64 ((a : Int) + 1) ∧ wr = w)
  case atStart => exact ⟨rfl, rfl, rfl⟩
  case round =>
   obtain ⟨rfl, rfl, rfl⟩ := hrel
   go_wp2
   first | exact hf.out | (go_end0; exact hf.out)
 obtain ⟨x0, D', hDx⟩ : ∃ x D', D = x :: D' := by
  cases D with
  | nil => exact absurd (by have := HL.out; simp at this; omega) hab
  | cons x D' => exact ⟨x, D', rfl⟩
 have H0 : Hid (InsO S P D Q (a + 1) (P ++ (D ++ Q))) := Lib.hid (by rw [← HL.out.1]; exact insO_start hDx)
 clear hDx hab
 have hab : a < b := by
  have := HL.out
  rcases Nat.lt_or_ge a b with h | h
  ·exact h
  ·obtain ⟨D1, R1, L, h1, h2, h3, _⟩ := H0.out.ex
   have := congrArg List.length h1
   rw [List.length_append] at this
   omega
 go_enter Tryz.func102, Tryz.ntmps102
 go_wp2
 go_loopg [8] (b - (a + 1)) (fun gh vi wr => ∃ (i : Nat) (T : List Int), a < i ∧ i ≤ b ∧ gh = b - i ∧ vi = .int .i64 i ∧ Hid (InsO S P D Q i T) ∧ Hid (IntI gs T w wr))
 case atStart => exact ⟨a + 1, _, by omega, by omega, rfl, by go_num, H0, Lib.hid (IntI.refl HI.out)⟩
 case round =>
  clear H0 HI
  obtain ⟨i, T, hai, hib, rfl, rfl, hO, hT⟩ := hrel
  by_cases hlt : i < b
  ·have i1 : (i : Int) < (b : Int) := by omega
   have H1 : Hid (InsS S P D Q i i T) := Lib.hid (insO_in hO.out (by have := HL.out; omega))
   clear hO
   go_wp2
   go_loopg [9] i (fun gh vj wr => ∃ (j : Nat) (T : List Int), a ≤ j ∧ j ≤ i ∧ gh = j ∧ vj = .int .i64 j ∧ Hid (InsS S P D Q i j T) ∧ Hid (IntI gs T w wr))
   case atStart => exact ⟨i, T, by omega, Nat.le_refl _, rfl, rfl, H1, hT⟩
   case round =>
    clear H1 hT
    obtain ⟨j, T2, haj, hji, hg, rfl, hS, hT2⟩ := hrel
    have Hg := Lib.hid hg
    clear hg
    have hm := insS_mem hS.out
    have Hm := Lib.hid hm
    have hjl : j < n := by have := HL.out; have := hm.2.2; omega
    clear hm
    have k1 : (0 : Int) ≤ (j : Int) := Int.natCast_nonneg _
    have k2 : (j : Int) < (n : Int) := by omega
    by_cases hja : a < j
    ·have k3 : (a : Int) < (j : Int) := by omega
     obtain ⟨q, hq⟩ : ∃ q : Nat, q = j - 1 := ⟨_, rfl⟩
     have k4 : (j : Int) - 1 = (q : Int) := by omega
     have k5 : (0 : Int) ≤ (q : Int) := by omega
     have k6 : (q : Int) < (n : Int) := by omega
     have c0 := hT2.out.1.cell (k := j) Hm.out.2.2.1
     have c1 := hT2.out.1.cell (k := q) (by have := Hm.out.2.2.1; omega)
     have lg := hT2.out.1.lt
     have hx1 := Hm.out.1
     have hy1 := Hm.out.2.1 (by have := HL.out; omega)
     rw [← hq] at hy1
     have Hxb := Lib.hid (HD.out _ hx1)
     have Hyb := Lib.hid (HD.out _ hy1)
     have HCr := Lib.hid (HC.out.keep hT2.out.2.2)
     have Hst := Lib.hid (insS_step (j := j) Hs.out hS.out (by have := HL.out; omega))
     have Hsp := Lib.hid (fun h => insS_stop (j := j) Hs.out hS.out (fun _ => h))
     rw [← hq] at Hst Hsp
     have Hq := Lib.hid hq
     clear hq hx1 hy1
     generalize hx : iAt T2 j = x at *
     generalize hy : iAt T2 q = y at *
     have Hx := Lib.hid hx
     have Hy := Lib.hid hy
     have hcm := cmpW_neg (S := S) (a := x) (b := y)
     generalize hz : cmpW S x y = z at *
     have Hz := Lib.hid hz
     have Hcm := Lib.hid hcm
     clear hx hy hz hcm
     have Hcall : Hid (∀ m, Calls Tryz.prog 44 #[.int .i64 x, .int .i64 y, .pointer (some ⟨bx, 0, none⟩)] (wr.drewN m) (fun e w' => e = .returned (.int .i64 z) ∧ ∃ k, w' = (wr.drewN m).drewN k)) := Lib.hid (fun m => by
      have := ofCmp_drew S g nn cp bx x y (wr.drewN m) HCr.out.row HCr.out.len HCr.out.box Hxb.out Hyb.out
      rwa [Hz.out] at this)
     go_upto_region 4 with fail
     go_big_quiet ((exact Calls.quiet_of (Hcall.out _)))
     have HTq : Hid (IntI gs T2 w (wr.drewN nq)) := Lib.hid (hT2.out.below (drewN_below wr nq))
     obtain ⟨wq, hwq⟩ : ∃ wq, wq = wr.drewN nq := ⟨_, rfl⟩
     rw [← hwq] at HTq
     rw [← hwq]
     clear hwq c0 c1 lg hT2 HCr Hcall
     have c0 := HTq.out.1.cell (k := j) Hm.out.2.2.1
     have c1 := HTq.out.1.cell (k := q) (by have := Hm.out.2.2.1; omega)
     rw [Hx.out] at c0
     rw [Hy.out] at c1
     have f0 := HTq.out.1.frozen j
     have f1 := HTq.out.1.frozen q
     have lg := HTq.out.1.lt
     by_cases hzn : z < 0
     ·have hnew := Lib.hid (Hst.out (Hcm.out.1 hzn))
      have I0 := (HTq.out.1.set j y)
      have I1 := (HTq.out.1.set q x)
      have d0 := I0.cell (k := q) (by rw [List.length_set]; have := Hm.out.2.2.1; omega)
      have d1 := I1.cell (k := j) (by rw [List.length_set]; have := Hm.out.2.2.1; omega)
      rw [iAt_set (by have := Hm.out.2.2.1; omega), if_neg (by omega)] at d0 d1
      rw [Hy.out] at d0
      rw [Hx.out] at d1
      have g0 := I0.frozen q
      have g1 := I1.frozen j
      have hsw : IntI gs (swp T2 j q) w ((wq.setCell ⟨gs, j, none⟩ (.int .i64 y)).setCell ⟨gs, q, none⟩ (.int .i64 x)).drew := by
       unfold swp
       rw [Hx.out, Hy.out]
       exact ((HTq.out.set j y).set q x).below (Below.refl _ _).drew
      have Hsw := Lib.hid hsw
      clear hsw I0 I1 hS Hst Hsp
      go_upto_region 6 with fail
      go_region
      clear c0 c1 d0 d1 f0 f1 g0 g1
      go_wp2
      go_roundg q
      case measure => have := Hg.out; have := Hq.out; omega
      case rel => exact ⟨q, _, by omega, by omega, rfl, by go_num, hnew, Hsw⟩
     ·have hnew := Lib.hid (Hsp.out (fun h => hzn (Hcm.out.2 h)))
      have k7 : (0 : Int) ≤ z := by omega
      clear hS Hst Hsp
      go_wp2
      go_roundg (b - (i + 1))
      case measure => omega
      case rel => exact ⟨i + 1, T2, by omega, by omega, rfl, by go_num, hnew, HTq⟩
    ·have k3 : ¬ (a : Int) < (j : Int) := by omega
     have hnew := Lib.hid (insS_stop (j := j) Hs.out hS.out (fun h => absurd h (by have := HL.out; omega)))
     go_upto_region 4 with fail
     go_big_quiet (fail)
     have HTq : Hid (IntI gs T2 w (wr.drewN nq)) := Lib.hid (hT2.out.below (drewN_below wr nq))
     obtain ⟨wq, hwq⟩ : ∃ wq, wq = wr.drewN nq := ⟨_, rfl⟩
     rw [← hwq] at HTq
     rw [← hwq]
     clear hwq
     go_wp2
     go_roundg (b - (i + 1))
     case measure => omega
     case rel => exact ⟨i + 1, T2, by omega, by omega, rfl, by go_num, hnew, HTq⟩
  ·obtain rfl : i = b := by omega
   have hfin := Lib.hid (HR.out _ (by
    have h1 := insO_end (by have := HL.out; rw [show P.length + D.length = i by omega]; exact hO.out)
    rw [← h1]
    exact hT.out))
   go_wp2
   first | exact hfin.out | (go_end0; exact hfin.out)
end Go.Proofs.YtdanebboiekieaaGreatDoor
namespace Go.Proofs.YtdanebboiekieaaGreatDoor
open Go.RowKit
set_option linter.unusedSimpArgs false
set_option linter.unusedVariables false

def SortB (S l : List Int) : Prop := l.Pairwise fun a b => before (wtS S) a b = true
def LessL (L M : List Int) : Prop := ∀ x ∈ L, ∀ y ∈ M, x < y
theorem before_le {S : List Int} {x y : Int} (h : x < y) (hw : ¬ wtS S x < wtS S y) : before (wtS S) x y = true := by
 unfold before
 simp
 omega
theorem before_gt {S : List Int} {x y : Int} (hw : wtS S x < wtS S y) : before (wtS S) y x = true := by
 unfold before
 simp [hw]
theorem sort_last {S l : List Int} {x y : Int} (h : SortB S (l ++ [y])) (hx : x ∈ l ++ [y]) (hr : ∀ z, before (wtS S) z z = true) : before (wtS S) x y = true := by
 rcases List.mem_append.1 hx with h1 | h1
 ·exact (List.pairwise_append.1 h).2.2 x h1 y (by simp)
 ·rw [List.mem_singleton.1 h1]; exact hr y
theorem before_self (S : List Int) (z : Int) : before (wtS S) z z = true := by
 unfold before
 simp
theorem sort_head {S l : List Int} {x y : Int} (h : SortB S (y :: l)) (hx : x ∈ y :: l) : before (wtS S) y x = true := by
 rcases List.mem_cons.1 hx with rfl | h1
 ·exact before_self S _
 ·exact (List.pairwise_cons.1 h).1 x h1
theorem cross_ok {S L1 L2 M1 M2 : List Int} (hL : SortB S (L1 ++ L2)) (hM : SortB S (M1 ++ M2)) (hx : LessL (L1 ++ L2) (M1 ++ M2))
 (h1 : ∀ l x y m, L1 = l ++ [x] → M2 = y :: m → ¬ wtS S x < wtS S y) (h2 : ∀ l x y m, L2 = x :: l → M1 = m ++ [y] → wtS S x < wtS S y) : ∀ u ∈ L1 ++ M1, ∀ v ∈ L2 ++ M2, before (wtS S) u v = true := by
 have hL' := List.pairwise_append.1 hL
 have hM' := List.pairwise_append.1 hM
 intro u hu v hv
 rcases List.mem_append.1 hu with hu | hu <;> rcases List.mem_append.1 hv with hv | hv
 ·exact hL'.2.2 u hu v hv
 ·rcases List.eq_nil_or_concat L1 with e | ⟨l, x, e⟩
  ·rw [e] at hu; cases hu
  rw [List.concat_eq_append] at e
  cases M2 with
  | nil => cases hv
  | cons y m =>
    subst e
    have hxy : before (wtS S) x y = true := before_le (hx x (by simp) y (by simp)) (h1 l x y m rfl rfl)
    exact before_trans _ _ _ _ (sort_last hL'.1 hu (before_self S)) (before_trans _ _ _ _ hxy (sort_head hM'.2.1 hv))
 ·rcases List.eq_nil_or_concat M1 with e | ⟨m, y, e⟩
  ·rw [e] at hu; cases hu
  rw [List.concat_eq_append] at e
  cases L2 with
  | nil => cases hv
  | cons x l =>
    subst e
    have hyx : before (wtS S) y x = true := before_gt (h2 l x y m rfl rfl)
    exact before_trans _ _ _ _ (sort_last hM'.1 hu (before_self S)) (before_trans _ _ _ _ hyx (sort_head hL'.2.1 hv))
 ·exact hM'.2.2 u hu v hv
/-- Two rows side by side, to be merged. -/
structure Sym (S P L M Q : List Int) (a m b : Nat) (T : List Int) : Prop where
 eq : T = P ++ (L ++ (M ++ Q))
 la : P.length = a
 lm : a + L.length = m
 lb : m + M.length = b
 sl : SortB S L
 sm : SortB S M
 le : LessL L M
theorem iAt_mem {l : List Int} {k : Nat} (h : k < l.length) : iAt l k = l[k] := by
 unfold iAt
 rw [List.getD_eq_getElem?_getD, List.getElem?_eq_getElem h]
 rfl
theorem iAt_mid {A B : List Int} {x : Int} {k : Nat} (h : A.length = k) : iAt (A ++ (x :: B)) k = x := by
 rw [iAt_right (by omega), show k - A.length = 0 by omega]
 rfl
theorem sym_split {S P L M Q T : List Int} {a m b s e : Nat} (h : Sym S P L M Q a m b T) (hs : a ≤ s ∧ s ≤ m) (he : m ≤ e ∧ e ≤ b)
 (h1 : a < s → e < b → ¬ wtS S (iAt T (s - 1)) < wtS S (iAt T e)) (h2 : s < m → m < e → wtS S (iAt T s) < wtS S (iAt T (e - 1))) :
 ∃ L1 L2 M1 M2, L = L1 ++ L2 ∧ M = M1 ++ M2 ∧ a + L1.length = s ∧ m + M1.length = e ∧ ∀ u ∈ L1 ++ M1, ∀ v ∈ L2 ++ M2, before (wtS S) u v = true := by
 obtain ⟨rfl, la, lm, lb, sl, sm, le⟩ := h
 obtain ⟨L1, L2, rfl, l1⟩ : ∃ L1 L2, L = L1 ++ L2 ∧ a + L1.length = s := ⟨L.take (s - a), L.drop (s - a), (List.take_append_drop _ _).symm, by rw [List.length_take]; omega⟩
 obtain ⟨M1, M2, rfl, m1⟩ : ∃ M1 M2, M = M1 ++ M2 ∧ m + M1.length = e := ⟨M.take (e - m), M.drop (e - m), (List.take_append_drop _ _).symm, by rw [List.length_take]; omega⟩
 rw [List.length_append] at lm lb
 refine ⟨L1, L2, M1, M2, rfl, rfl, l1, m1, cross_ok sl sm le (fun l x y mm e1 e2 => ?_) (fun l x y mm e1 e2 => ?_)⟩
 ·subst e1 e2
  have := h1 (by simp at l1; omega) (by simp at lb; omega)
  rw [List.length_append, List.length_singleton] at l1 lm
  have q1 : iAt (P ++ (l ++ [x] ++ L2 ++ (M1 ++ y :: mm ++ Q))) (s - 1) = x := by
   rw [show P ++ (l ++ [x] ++ L2 ++ (M1 ++ y :: mm ++ Q)) = (P ++ l) ++ (x :: (L2 ++ (M1 ++ y :: mm ++ Q))) by simp]
   exact iAt_mid (by rw [List.length_append]; omega)
  have q2 : iAt (P ++ (l ++ [x] ++ L2 ++ (M1 ++ y :: mm ++ Q))) e = y := by
   rw [show P ++ (l ++ [x] ++ L2 ++ (M1 ++ y :: mm ++ Q)) = (P ++ (l ++ [x] ++ L2) ++ M1) ++ (y :: (mm ++ Q)) by simp]
   exact iAt_mid (by simp only [List.length_append, List.length_singleton]; omega)
  rwa [q1, q2] at this
 ·subst e1 e2
  rw [List.length_append, List.length_singleton] at m1 lb
  have := h2 (by simp at lm; omega) (by omega)
  have q1 : iAt (P ++ (L1 ++ x :: l ++ (mm ++ [y] ++ M2 ++ Q))) s = x := by
   rw [show P ++ (L1 ++ x :: l ++ (mm ++ [y] ++ M2 ++ Q)) = (P ++ L1) ++ (x :: (l ++ (mm ++ [y] ++ M2 ++ Q))) by simp]
   exact iAt_mid (by rw [List.length_append]; omega)
  have q2 : iAt (P ++ (L1 ++ x :: l ++ (mm ++ [y] ++ M2 ++ Q))) (e - 1) = y := by
   rw [show P ++ (L1 ++ x :: l ++ (mm ++ [y] ++ M2 ++ Q)) = (P ++ (L1 ++ x :: l) ++ mm) ++ (y :: (M2 ++ Q)) by simp]
   exact iAt_mid (by simp only [List.length_append]; omega)
  rwa [q1, q2] at this
theorem sym_done {S L1 L2 M1 M2 A B : List Int} (hx : ∀ u ∈ L1 ++ M1, ∀ v ∈ L2 ++ M2, before (wtS S) u v = true) (hA : SortB S A) (pA : A.Perm (L1 ++ M1)) (hB : SortB S B) (pB : B.Perm (L2 ++ M2)) :
 SortB S (A ++ B) ∧ (A ++ B).Perm ((L1 ++ L2) ++ (M1 ++ M2)) := by
 refine ⟨List.pairwise_append.2 ⟨hA, hB, fun u hu v hv => hx u (pA.mem_iff.1 hu) v (pB.mem_iff.1 hv)⟩, (pA.append pB).trans ?_⟩
 rw [List.append_assoc, List.append_assoc]
 refine List.Perm.append_left L1 ?_
 rw [← List.append_assoc, ← List.append_assoc]
 exact List.Perm.append_right M2 List.perm_append_comm
end Go.Proofs.YtdanebboiekieaaGreatDoor
namespace Go.Proofs.YtdanebboiekieaaGreatDoor
open Go.RowKit
set_option linter.unusedSimpArgs false
set_option linter.unusedVariables false

/-- x among A, behind c of them. -/
def mvV (P A Q : List Int) (x : Int) (c : Nat) : List Int := P ++ (A.take c ++ (x :: (A.drop c ++ Q)))
theorem mvV_len {P A Q : List Int} {x : Int} {c : Nat} : (mvV P A Q x c).length = P.length + A.length + 1 + Q.length := by
 have : (A.take c).length + (A.drop c).length = A.length := by rw [← List.length_append, List.take_append_drop]
 simp only [mvV, List.length_append, List.length_cons]
 omega
theorem mv_up {P A Q : List Int} {x : Int} {c p : Nat} (hp : P.length = p) (hc : c < A.length) : swp (mvV P A Q x c) (p + c) (p + c + 1) = mvV P A Q x (c + 1) := by
 have e : swp (mvV P A Q x c) (p + c) (p + c + 1) = swpTo (mvV P A Q x c) (p + c) (p + c + 1) 1 := rfl
 have l : (A.take c).length = c := by rw [List.length_take]; omega
 have e3 : swpTo (mvV P A Q x c) (p + c) (p + c + 1) 1 = (P ++ A.take c) ++ ([A[c]] ++ ([] ++ ([x] ++ (A.drop (c + 1) ++ Q)))) :=
  swpTo_at (A := P ++ A.take c) (U := [x]) (M := []) (V := [A[c]]) (B := A.drop (c + 1) ++ Q) (by unfold mvV; rw [List.drop_eq_getElem_cons hc]; simp only [List.append_assoc, List.singleton_append, List.nil_append, List.cons_append]) rfl rfl (by rw [List.length_append]; omega) (by rw [List.length_append, List.length_singleton, List.length_nil]; omega)
 rw [e, e3]
 unfold mvV
 rw [List.take_succ_eq_append_getElem hc]
 simp only [List.append_assoc, List.singleton_append, List.nil_append, List.cons_append]
theorem mv_down {P A Q : List Int} {x : Int} {c p : Nat} (hp : P.length = p) (hc : c < A.length) : swp (mvV P A Q x (c + 1)) (p + c + 1) (p + c) = mvV P A Q x c := by
 have e : swp (mvV P A Q x (c + 1)) (p + c + 1) (p + c) = swpTo (mvV P A Q x (c + 1)) (p + c) (p + c + 1) 1 := swp_comm (by omega)
 have l : (A.take c).length = c := by rw [List.length_take]; omega
 have e3 : swpTo (mvV P A Q x (c + 1)) (p + c) (p + c + 1) 1 = (P ++ A.take c) ++ ([x] ++ ([] ++ ([A[c]] ++ (A.drop (c + 1) ++ Q)))) :=
  swpTo_at (A := P ++ A.take c) (U := [A[c]]) (M := []) (V := [x]) (B := A.drop (c + 1) ++ Q) (by unfold mvV; rw [List.take_succ_eq_append_getElem hc]; simp only [List.append_assoc, List.singleton_append, List.nil_append, List.cons_append]) rfl rfl (by rw [List.length_append]; omega) (by rw [List.length_append, List.length_singleton, List.length_nil]; omega)
 rw [e, e3]
 unfold mvV
 rw [List.drop_eq_getElem_cons hc]
 simp only [List.append_assoc, List.singleton_append, List.nil_append, List.cons_append]
theorem take_drop_perm (A : List Int) (x : Int) (c : Nat) : (A.take c ++ x :: A.drop c).Perm (x :: A) := by
 have := List.perm_middle (a := x) (l₁ := A.take c) (l₂ := A.drop c)
 rwa [List.take_append_drop] at this
theorem one_left {S P M Q T : List Int} {x : Int} {a m b i : Nat} (h : Sym S P [x] M Q a m b T) (hi : m ≤ i ∧ i ≤ b) (h1 : m < i → wtS S x < wtS S (iAt T (i - 1))) (h2 : i < b → ¬ wtS S x < wtS S (iAt T i)) :
 SortB S (M.take (i - m) ++ x :: M.drop (i - m)) := by
 have hT := h.eq
 have l1 := h.la
 have l2 := h.lm
 have l3 := h.lb
 have l4 := h.le
 rw [List.length_singleton] at l2
 have hs : SortB S (M.take (i - m) ++ M.drop (i - m)) := by rw [List.take_append_drop]; exact h.sm
 have hs' := List.pairwise_append.1 hs
 have at_ : ∀ k, k < M.length → iAt T (m + k) = M[k]! := fun k hk => by
  rw [hT, iAt_right (by omega), iAt_right (by simp; omega), iAt_left (by simp; omega)]
  unfold iAt
  rw [List.length_singleton, show m + k - P.length - 1 = k by omega, List.getD_eq_getElem?_getD, List.getElem?_eq_getElem hk, List.getElem!_eq_getElem?_getD, List.getElem?_eq_getElem hk]
  rfl
 have e1 : ∀ y ∈ M.take (i - m), before (wtS S) y x = true := fun y hy => by
  rcases List.eq_nil_or_concat (M.take (i - m)) with e | ⟨l, z, e⟩
  ·rw [e] at hy; cases hy
  rw [List.concat_eq_append] at e
  have hl : (M.take (i - m)).length = i - m := by rw [List.length_take]; omega
  rw [e, List.length_append, List.length_singleton] at hl
  have hz : iAt T (i - 1) = z := by
   have h5 := at_ (i - 1 - m) (by omega)
   rw [show m + (i - 1 - m) = i - 1 by omega] at h5
   rw [h5]
   have h6 : (M.take (i - m))[i - 1 - m]? = some z := by rw [e, List.getElem?_append_right (by omega), show i - 1 - m - l.length = 0 by omega]; rfl
   rw [List.getElem?_take, if_pos (by omega)] at h6
   rw [List.getElem!_eq_getElem?_getD, h6]
   rfl
  have h7 := h1 (by omega)
  rw [hz] at h7
  rw [e] at hy hs'
  exact before_trans _ _ _ _ (sort_last hs'.1 hy (before_self S)) (before_gt h7)
 have e2 : ∀ y ∈ M.drop (i - m), before (wtS S) x y = true := fun y hy => by
  have hlt : i - m < M.length := by
   rcases Nat.lt_or_ge (i - m) M.length with h | h
   ·exact h
   ·rw [List.drop_eq_nil_of_le h] at hy; cases hy
  have h7 := h2 (by omega)
  have h5 := at_ (i - m) hlt
  rw [show m + (i - m) = i by omega] at h5
  rw [h5, List.getElem!_eq_getElem?_getD, List.getElem?_eq_getElem hlt] at h7
  have hd := List.drop_eq_getElem_cons hlt
  have h8 : before (wtS S) x M[i - m] = true := before_le (l4 x (by simp) _ (List.getElem_mem hlt)) h7
  rw [hd] at hy hs'
  exact before_trans _ _ _ _ h8 (sort_head hs'.2.1 hy)
 refine List.pairwise_append.2 ⟨hs'.1, List.pairwise_cons.2 ⟨e2, hs'.2.1⟩, fun u hu v hv => ?_⟩
 rcases List.mem_cons.1 hv with rfl | hv
 ·exact e1 u hu
 ·exact hs'.2.2 u hu v hv
theorem sym_at {S P L M Q T : List Int} {a m b k : Nat} (h : Sym S P L M Q a m b T) (h1 : a ≤ k) (h2 : k < b) : iAt T k ∈ L ++ M := by
 obtain ⟨rfl, la, lm, lb, _, _, _⟩ := h
 rw [iAt_right (by omega), ← List.append_assoc, iAt_left (by rw [List.length_append]; omega), iAt_mem (by rw [List.length_append]; omega)]
 exact List.getElem_mem _
theorem sym_len {S P L M Q T : List Int} {a m b : Nat} (h : Sym S P L M Q a m b T) : T.length = b + Q.length := by
 obtain ⟨rfl, la, lm, lb, _, _, _⟩ := h
 simp
 omega
end Go.Proofs.YtdanebboiekieaaGreatDoor
namespace Go.Proofs.YtdanebboiekieaaGreatDoor
open Go.RowKit
set_option linter.unusedSimpArgs false
set_option linter.unusedVariables false

set_option maxRecDepth 100000 in
set_option maxHeartbeats 8000000 in
theorem symA_calls (S : List Int) (g nn cp bx gs n c a m b : Nat) (P M Q T : List Int) (x : Int) (hSy : Sym S P [x] M Q a m b T) (hm : 0 < M.length) (hn : b + Q.length = n) (hn1 : n ≤ 1000) (hD : ∀ y ∈ [x] ++ M, 0 ≤ y ∧ y < (nn : Int)) (w : World) (hC : CmpN S g nn cp bx gs w) (hI : IntAt gs T w) (R : Ending → World → Prop)
 (hR : ∀ w' D, SortB S D → D.Perm ([x] ++ M) → IntI gs (P ++ (D ++ Q)) w w' → R (.returned (.tuple #[])) w') :
 Calls Tryz.prog 103 #[.slice (some ⟨gs, 0, none⟩) n c, .int .i64 (a : Int), .int .i64 (m : Int), .int .i64 (b : Int), .func (.func 44) #[] #[.pointer (some ⟨bx, 0, none⟩)]] w R := by
 have HR := Lib.hid hR
 have HC := Lib.hid hC
 have HD := Lib.hid hD
 have HSy := Lib.hid hSy
 have hl := sym_len hSy
 have hma : m = a + 1 := by have := hSy.lm; simp at this; omega
 have hbm : m + M.length = b := hSy.lb
 have HL := Lib.hid (And.intro hl (And.intro hbm hSy.la))
 have ha1 : a ≤ 1000 := by omega
 have hb1 : b ≤ 1000 := by omega
 have hm1 : m ≤ 1000 := by omega
 have e0 : (m : Int) - (a : Int) = 1 := by omega
 have hmb : m < b := by omega
 have hbn : b ≤ n := by omega
 have Hn := Lib.hid hn
 have Hma := Lib.hid hma
 have HI0 := Lib.hid (IntI.refl hI)
 clear hR hC hD hSy hl hbm hn hma hI hm
 go_enter Tryz.func103, Tryz.ntmps103
 go_wp2
 go_loopg [10, 11] (b - m) (fun gh vi vj wr => ∃ (i j : Nat), m ≤ i ∧ i ≤ j ∧ j ≤ b ∧ gh = j - i ∧ vi = .int .i64 i ∧ vj = .int .i64 j ∧ Hid (m < i → wtS S x < wtS S (iAt T (i - 1))) ∧ Hid (j < b → ¬ wtS S x < wtS S (iAt T j)) ∧ Hid (IntI gs T w wr))
 case atStart => exact ⟨m, b, Nat.le_refl _, by omega, Nat.le_refl _, rfl, rfl, rfl, Lib.hid (fun h => absurd h (by omega)), Lib.hid (fun h => absurd h (by omega)), HI0⟩
 case round =>
  clear HI0
  obtain ⟨i, j, hi, hij, hj, hg, rfl, rfl, h1, h2, hT⟩ := hrel
  have Hg := Lib.hid hg
  clear hg
  by_cases hlt : i < j
  ·have k1 : (i : Int) < (j : Int) := by omega
   go_upto_region 5 with fail
   obtain ⟨h, hh⟩ : ∃ h : Nat, h = (i + j) / 2 := ⟨_, rfl⟩
   have e1 : ((i : Int) + (j : Int)) / 2 = (h : Int) := by omega
   rw [e1]
   have hih : i ≤ h := by omega
   have hhj : h < j := by omega
   clear e1 hh
   have c0 := hT.out.1.cell (k := h) (by have := HL.out; omega)
   have c1 := hT.out.1.cell (k := a) (by have := HL.out; omega)
   have lg := hT.out.1.lt
   have hxa : iAt T a = x := by
    rw [HSy.out.eq]
    exact iAt_mid HL.out.2.2
   have hyD := HD.out _ (sym_at HSy.out (k := h) (by omega) (by omega))
   have hxD := HD.out x (by simp)
   have HCr := Lib.hid (HC.out.keep hT.out.2.2)
   have n1 := Lib.hid (fun q : wtS S x < wtS S (iAt T h) => (fun _ => by rw [show h + 1 - 1 = h by omega]; exact q : m < h + 1 → wtS S x < wtS S (iAt T (h + 1 - 1))))
   have n2 := Lib.hid (fun q : ¬ wtS S x < wtS S (iAt T h) => (fun _ => q : h < b → ¬ wtS S x < wtS S (iAt T h)))
   rw [hxa] at c1
   obtain ⟨y, hy⟩ : ∃ y, y = iAt T h := ⟨_, rfl⟩
   rw [← hy] at c0 hyD
   have Hy := Lib.hid hy
   have hcm := cmpW_neg (S := S) (a := y) (b := x)
   obtain ⟨z, hz⟩ : ∃ z, z = cmpW S y x := ⟨_, rfl⟩
   rw [← hz] at hcm
   have Hcm := Lib.hid hcm
   have Hcall : Hid (∀ m, Calls Tryz.prog 44 #[.int .i64 y, .int .i64 x, .pointer (some ⟨bx, 0, none⟩)] (wr.drewN m) (fun e w' => e = .returned (.int .i64 z) ∧ ∃ k, w' = (wr.drewN m).drewN k)) := Lib.hid (fun m => by
    have := ofCmp_drew S g nn cp bx y x (wr.drewN m) HCr.out.row HCr.out.len HCr.out.box hyD hxD
    rwa [← hz] at this)
   have q1 : (0 : Int) ≤ (h : Int) := by omega
   have q2 : (h : Int) < (n : Int) := by omega
   have q3 : (0 : Int) ≤ (a : Int) := by omega
   have q4 : (a : Int) < (n : Int) := by omega
   clear hy hcm hz hyD hxD hxa
   go_big_quiet ((exact Calls.quiet_of (Hcall.out _)))
   have HTq : Hid (IntI gs T w (wr.drewN nq)) := Lib.hid (hT.out.below (drewN_below wr nq))
   obtain ⟨wq, hwq⟩ : ∃ wq, wq = wr.drewN nq := ⟨_, rfl⟩
   rw [← hwq] at HTq
   rw [← hwq]
   clear hwq c0 c1 lg hT HCr Hcall
   by_cases hzn : z < 0
   ·have hnew := Lib.hid (n1.out (by rw [← Hy.out]; exact Hcm.out.1 hzn))
    go_wp2
    go_roundg (j - (h + 1))
    case measure => have := Hg.out; omega
    case rel => exact ⟨h + 1, j, by omega, by omega, by omega, rfl, by go_num, rfl, hnew, h2, HTq⟩
   ·have hnew := Lib.hid (n2.out (by rw [← Hy.out]; exact fun q => hzn (Hcm.out.2 q)))
    have q5 : (0 : Int) ≤ z := by omega
    go_wp2
    go_roundg (h - i)
    case measure => have := Hg.out; omega
    case rel => exact ⟨i, h, by omega, by omega, by omega, rfl, rfl, rfl, h1, hnew, HTq⟩
  ·obtain rfl : i = j := by omega
   have k1 : ¬ (i : Int) < (i : Int) := by omega
   obtain ⟨d, hd⟩ : ∃ d : Nat, d = i - m := ⟨_, rfl⟩
   have hsrt := one_left HSy.out (i := i) ⟨hi, hj⟩ h1.out h2.out
   rw [← hd] at hsrt
   have Hsrt := Lib.hid hsrt
   have hT0 : IntI gs (mvV P M Q x 0) w wr := by
    have := hT.out
    rw [HSy.out.eq] at this
    exact this
   have HT0 := Lib.hid hT0
   have Hd := Lib.hid hd
   have e2 : (i : Int) - 1 = (a : Int) + (d : Int) := by have := Hma.out; omega
   have hdm : d ≤ M.length := by have := HL.out; omega
   clear hsrt hT0 hT h1 h2 hd
   go_wp2
   go_loopg [13] d (fun gh vk wr => ∃ (e k : Nat), e ≤ d ∧ gh = d - e ∧ k = a + e ∧ vk = .int .i64 k ∧ Hid (IntI gs (mvV P M Q x e) w wr))
   case atStart => exact ⟨0, a, Nat.zero_le _, rfl, rfl, rfl, HT0⟩
   case round =>
    clear HT0
    obtain ⟨e, k, hed, hg, hk, rfl, hT⟩ := hrel
    have Hg := Lib.hid hg
    have Hk := Lib.hid hk
    have hkd : e < d ∨ ¬ e < d := by omega
    rcases hkd with hkd | hkd
    ·have k2 : (k : Int) < (a : Int) + (d : Int) := by omega
     have hml := mvV_len (P := P) (A := M) (Q := Q) (x := x) (c := e)
     have hup := mv_up (P := P) (A := M) (Q := Q) (x := x) (c := e) HL.out.2.2 (by omega)
     have hnl : (mvV P M Q x e).length = n := by have := HL.out; have := Hma.out; have := Hn.out; omega
     clear hml hg hk
     obtain ⟨T2, hT2⟩ : ∃ T2, T2 = mvV P M Q x e := ⟨_, rfl⟩
     rw [← hT2] at hT hup hnl
     rw [← Hk.out] at hup
     obtain ⟨q, hq⟩ : ∃ q : Nat, q = k + 1 := ⟨_, rfl⟩
     rw [← hq] at hup
     have hkn : q < n := by have := HL.out; have := Hma.out; have := Hk.out; omega
     have e3 : (k : Int) + 1 = (q : Int) := by omega
     have c0 := hT.out.1.cell (k := k) (by omega)
     have c1 := hT.out.1.cell (k := q) (by omega)
     have f0 := hT.out.1.frozen k
     have f1 := hT.out.1.frozen q
     have lg := hT.out.1.lt
     have I0 := (hT.out.1.set k (iAt T2 q))
     have I1 := (hT.out.1.set q (iAt T2 k))
     have d0 := I0.cell (k := q) (by rw [List.length_set]; omega)
     have d1 := I1.cell (k := k) (by rw [List.length_set]; omega)
     rw [iAt_set (by omega), if_neg (by omega)] at d0 d1
     have g0 := I0.frozen q
     have g1 := I1.frozen k
     have hsw : IntI gs (mvV P M Q x (e + 1)) w ((wr.setCell ⟨gs, k, none⟩ (.int .i64 (iAt T2 q))).setCell ⟨gs, q, none⟩ (.int .i64 (iAt T2 k))).drew := by
      rw [← hup]
      exact ((hT.out.set k (iAt T2 q)).set q (iAt T2 k)).below (Below.refl _ _).drew
     have Hsw := Lib.hid hsw
     have Hq := Lib.hid hq
     obtain ⟨u, hu⟩ : ∃ u, u = iAt T2 k := ⟨_, rfl⟩
     obtain ⟨v, hv⟩ : ∃ v, v = iAt T2 q := ⟨_, rfl⟩
     rw [← hu, ← hv] at Hsw
     rw [← hv] at c1 d0
     rw [← hu] at c0 d1
     rw [← hv] at g0
     rw [← hu] at g1
     have q1 : (0 : Int) ≤ (k : Int) := by omega
     have q2 : (k : Int) < (n : Int) := by omega
     have q3 : (0 : Int) ≤ (q : Int) := by omega
     have q4 : (q : Int) < (n : Int) := by omega
     clear hsw I0 I1 hT hup hT2 hnl hu hv hq
     go_upto_region 11 with fail
     go_region
     clear c0 c1 d0 d1 f0 f1 g0 g1 lg
     go_wp2
     go_roundg (d - (e + 1))
     case measure => have := Hg.out; omega
     case rel => exact ⟨e + 1, q, by omega, rfl, by have := Hk.out; have := Hq.out; omega, by go_num, Hsw⟩
    ·have hde : e = d := by omega
     have k2 : ¬ (k : Int) < (a : Int) + (d : Int) := by omega
     have hfin := Lib.hid (HR.out _ (M.take d ++ x :: M.drop d) Hsrt.out (take_drop_perm M x d) (by
      have := hT.out
      rw [hde] at this
      unfold mvV at this
      simpa only [List.append_assoc, List.cons_append] using this))
     clear hg hk hT
     go_wp2
     first | exact hfin.out | (go_end0; exact hfin.out) | (refine bodyPost_ret (results_none rfl _ _ _) rfl ?_; exact hfin.out)
end Go.Proofs.YtdanebboiekieaaGreatDoor
