/- The walks, part 21. -/
import Derived.Test.YtdanebboiekieaaGreatDoorP20
set_option linter.unusedSimpArgs false
set_option linter.unusedVariables false
set_option maxRecDepth 100000
set_option maxHeartbeats 16000000
namespace Go.Proofs.YtdanebboiekieaaGreatDoor
open Go.RowKit
def wtS (S : List Int) (r : Int) : Int := iAt S r.toNat
theorem q64 {S : List Int} {a b : Int} : cmpW S a b < 0 ↔ wtS S b < wtS S a := by
 unfold cmpW cmpI wtS
 split
 ·omega
 ·split <;> omega
theorem q2i (w : World) (n : Nat) : Below w.heap.size w (w.drewN n) := qm (Below.refl _ _) n
theorem q45 (S : List Int) (g n cp bx : Nat) (a b : Int) (w : World) (hI : IntAt g S w) (hl : S.length = n) (hb : w.heap[bx]? = some (.cells #[.slice (some ⟨g, 0, none⟩) n cp] 26 (0, 0))) (ha : 0 ≤ a ∧ a < (n : Int)) (hbb : 0 ≤ b ∧ b < (n : Int)) :
 Calls Tryz.prog 44 #[.int .i64 a, .int .i64 b, .pointer (some ⟨bx, 0, none⟩)] w (fun e w' => e = .returned (.int .i64 (cmpW S a b)) ∧ ∃ m, w' = w.drewN m) := by
 obtain ⟨R, hR⟩ : ∃ R : Ending -> World -> Prop, R = fun e w' => e = .returned (.int .i64 (cmpW S a b)) ∧ ∃ m, w' = w.drewN m := ⟨_, rfl⟩;rw [<- hR]
 have HR : Hid (∀ m, R (.returned (.int .i64 (cmpW S a b))) (w.drewN m)) := lh (by
  intro m;rw [hR];exact ⟨rfl, m, rfl⟩)
 clear hR;obtain ⟨i, rfl⟩ : ∃ i : Nat, a = (i : Int) := ⟨a.toNat, by omega⟩;obtain ⟨j, rfl⟩ : ∃ j : Nat, b = (j : Int) := ⟨b.toNat, by omega⟩;unfold cmpW at HR;rw [Int.toNat_natCast, Int.toNat_natCast] at HR;have c0 := hI.cell (k := i) (by omega);have c1 := hI.cell (k := j) (by omega);have lg := hI.lt;have x0 : w.cell? ⟨bx, 0, none⟩ = some (.slice (some ⟨g, 0, none⟩) n cp) := cqq hb;have l0 := qa hb;have k1 := nnn i;have k2 := nnn j;have k3 : (i : Int) < (n : Int) := by omega
 have k4 : (j : Int) < (n : Int) := by omega
 generalize iAt S i = p at *;generalize iAt S j = q at *;clear hI hl hb ha hbb
 go_enter Tryz.func44, Tryz.ntmps44
 go_wp2
 go_quiet ((go_at_call 45; exact Calls.quiet_of_same (qb9 _ _ _)))
 all_goals (go_wp2; exact HR.out _)
structure InsS (S : List Int) (P D Q : List Int) (i j : Nat) (T : List Int) : Prop where
 ex : ∃ (D1 R L1 L2 : List Int) (x : Int), D = D1 ++ x :: R ∧ D1.length + P.length = i ∧ T = P ++ (L1 ++ (x :: (L2 ++ (R ++ Q)))) ∧ P.length + L1.length = j ∧ (L1 ++ L2).Pairwise (fun a b => q01 (wtS S) a b = true) ∧ (L1 ++ L2).Perm D1 ∧ ∀ y ∈ L2, q01 (wtS S) x y = true
structure InsO (S : List Int) (P D Q : List Int) (i : Nat) (T : List Int) : Prop where
 ex : ∃ (D1 R L : List Int), D = D1 ++ R ∧ D1.length + P.length = i ∧ T = P ++ (L ++ (R ++ Q)) ∧ L.Pairwise (fun a b => q01 (wtS S) a b = true) ∧ L.Perm D1
theorem qgs {S P D Q : List Int} {x : Int} {D' : List Int} (h : D = x :: D') : InsO S P D Q (P.length + 1) (P ++ (D ++ Q)) :=
 ⟨[x], D', [x], h, by simp; omega, by rw [h]; rfl, by simp, List.Perm.refl _⟩
theorem qlj {S P D Q T : List Int} (h : InsO S P D Q (P.length + D.length) T) : T = P ++ (sortW (wtS S) D ++ Q) := by
 obtain ⟨D1, R, L, rfl, h1, rfl, h2, h3⟩ := h.ex;rw [List.length_append] at h1;have : R = [] := List.eq_nil_of_length_eq_zero (by omega);subst this;rw [List.append_nil, <- q4w h3 h2];rfl
theorem qna {S P D Q T : List Int} {i : Nat} (h : InsO S P D Q i T) (hi : i < P.length + D.length) : InsS S P D Q i i T := by
 obtain ⟨D1, R, L, rfl, h1, rfl, h2, h3⟩ := h.ex
 cases R with
 | nil => simp at hi; omega
 | cons x R => exact ⟨D1, R, L, [], x, rfl, h1, by simp, by have := h3.length_eq; omega, by simpa using h2, by simpa using h3, by simp⟩
theorem qiy {S P D Q T : List Int} {i j : Nat} (hs : D.Pairwise (· < ·)) (h : InsS S P D Q i j T) (hj : P.length < j) (hc : wtS S (iAt T (j - 1)) < wtS S (iAt T j)) : InsS S P D Q i (j - 1) (swp T j (j - 1)) := by
 obtain ⟨D1, R, L1, L2, x, rfl, h1, rfl, h2, h3, h4, h5⟩ := h.ex
 obtain ⟨L, y, rfl⟩ : ∃ L y, L1 = L ++ [y] := by
  rcases List.eq_nil_or_concat L1 with e | ⟨L, y, e⟩
  ·rw [e] at h2; simp at h2; omega
  ·exact ⟨L, y, by rw [e, List.concat_eq_append]⟩
 rw [List.length_append, List.length_singleton] at h2
 have e0 : iAt (P ++ (L ++ [y] ++ (x :: (L2 ++ (R ++ Q))))) (j - 1) = y := by
  rw [List.append_assoc, q05 (by omega), q05 (by omega), show j - 1 - P.length - L.length = 0 by omega];rfl
 have e1 : iAt (P ++ (L ++ [y] ++ (x :: (L2 ++ (R ++ Q))))) j = x := by
  rw [List.append_assoc, q05 (by omega), q05 (by omega), show j - P.length - L.length = 1 by omega];rfl
 rw [e0, e1] at hc;refine ⟨D1, R, L, y :: L2, x, rfl, h1, ?_, by omega, by simpa using h3, by simpa using h4, ?_⟩
 ·have e2 : swp (P ++ (L ++ [y] ++ (x :: (L2 ++ (R ++ Q))))) j (j - 1) = swpTo (P ++ (L ++ [y] ++ (x :: (L2 ++ (R ++ Q))))) (j - 1) j 1 := qfq (by omega)
  have e3 : swpTo (P ++ (L ++ [y] ++ (x :: (L2 ++ (R ++ Q))))) (j - 1) j 1 = (P ++ L) ++ ([x] ++ ([] ++ ([y] ++ (L2 ++ (R ++ Q))))) :=
   q5d (A := P ++ L) (U := [y]) (M := []) (V := [x]) (B := L2 ++ (R ++ Q)) (by simp) rfl rfl (by rw [List.length_append]; omega) (by rw [List.length_append, List.length_singleton, List.length_nil]; omega)
  rw [e2, e3];simp
 ·intro z hz
  rcases List.mem_cons.1 hz with rfl | hz
  ·unfold q01;simp [hc]
  ·exact h5 z hz
theorem qc7 {S P D Q T : List Int} {i j : Nat} (hs : D.Pairwise (· < ·)) (h : InsS S P D Q i j T) (hc : P.length < j -> ¬ wtS S (iAt T (j - 1)) < wtS S (iAt T j)) : InsO S P D Q (i + 1) T := by
 obtain ⟨D1, R, L1, L2, x, rfl, h1, rfl, h2, h3, h4, h5⟩ := h.ex
 have hlt : ∀ y ∈ L1 ++ L2, y < x := fun y hy => by
  have := (List.pairwise_append.1 hs).2.2 y (h4.mem_iff.1 hy) x (by simp);exact this
 have hL : ∀ y ∈ L1, q01 (wtS S) y x = true := by
  rcases List.eq_nil_or_concat L1 with e | ⟨L, y, e⟩
  ·rw [e]; simp
  ·rw [List.concat_eq_append] at e;subst e;rw [List.length_append, List.length_singleton] at h2;have hc := hc (by omega)
   have e0 : iAt (P ++ (L ++ [y] ++ (x :: (L2 ++ (R ++ Q))))) (j - 1) = y := by
    rw [List.append_assoc, q05 (by omega), q05 (by omega), show j - 1 - P.length - L.length = 0 by omega];rfl
   have e1 : iAt (P ++ (L ++ [y] ++ (x :: (L2 ++ (R ++ Q))))) j = x := by
    rw [List.append_assoc, q05 (by omega), q05 (by omega), show j - P.length - L.length = 1 by omega];rfl
   rw [e0, e1] at hc
   have hyx : q01 (wtS S) y x = true := by
    have := hlt y (by simp);unfold q01;simp;omega
   intro z hz
   rcases List.mem_append.1 hz with hz | hz
   ·rw [List.append_assoc] at h3;exact q0a _ _ _ _ ((List.pairwise_append.1 h3).2.2 z hz y (by simp)) hyx
   ·rw [List.mem_singleton.1 hz]; exact hyx
 refine ⟨D1 ++ [x], R, L1 ++ x :: L2, by simp, by simp; omega, by simp, ?_, ?_⟩
 ·have h6 := List.pairwise_append.1 h3;refine List.pairwise_append.2 ⟨h6.1, List.pairwise_cons.2 ⟨h5, h6.2.1⟩, fun a ha b hb => ?_⟩
  rcases List.mem_cons.1 hb with rfl | hb
  ·exact hL a ha
  ·exact h6.2.2 a ha b hb
 ·exact (List.perm_middle.trans (h4.cons x)).trans (List.perm_append_singleton x D1).symm
theorem qll {S P D Q T : List Int} {i j : Nat} (h : InsS S P D Q i j T) : iAt T j ∈ D ∧ (P.length < j -> iAt T (j - 1) ∈ D) ∧ j < T.length ∧ P.length ≤ j ∧ T.length = P.length + D.length + Q.length := by
 obtain ⟨D1, R, L1, L2, x, rfl, h1, rfl, h2, h3, h4, h5⟩ := h.ex;have hll := h4.length_eq;rw [List.length_append] at hll;refine ⟨?_, fun hj => ?_, by simp; omega, by omega, by simp; omega⟩
 ·rw [q05 (by omega), q05 (by omega), show j - P.length - L1.length = 0 by omega];simp [iAt]
 ·rw [q05 (by omega), q3s (by omega)];refine List.mem_append_left _ (h4.mem_iff.1 (List.mem_append_left _ ?_));unfold iAt;rw [List.getD_eq_getElem?_getD, List.getElem?_eq_getElem (by omega)];exact List.getElem_mem _
structure CmpN (S : List Int) (g n cp bx gs : Nat) (w : World) : Prop where
 row : IntAt g S w
 len : S.length = n
 box : w.heap[bx]? = some (.cells #[.slice (some ⟨g, 0, none⟩) n cp] 26 (0, 0))
 ne : g ≠ gs ∧ bx ≠ gs
theorem CmpN.keep {S : List Int} {g n cp bx gs : Nat} {w w' : World} (h : CmpN S g n cp bx gs w) (hk : CKeep gs w w') : CmpN S g n cp bx gs w' := ⟨h.row.keep hk h.ne.1, h.len, hk.blk h.box h.ne.2, h.ne⟩
theorem q9v (S : List Int) (g nn cp bx gs n c a b : Nat) (P D Q : List Int) (ha : P.length = a) (hb : P.length + D.length = b) (hn : P.length + D.length + Q.length = n) (hn1 : n ≤ 1000) (hs : D.Pairwise (· < ·)) (hD : ∀ x ∈ D, 0 ≤ x ∧ x < (nn : Int)) (w : World) (hC : CmpN S g nn cp bx gs w) (hI : IntAt gs (P ++ (D ++ Q)) w) (R : Ending -> World -> Prop)
 (hR : ∀ w', IntI gs (P ++ (sortW (wtS S) D ++ Q)) w w' -> R (.returned (.tuple #[])) w') :
 Calls Tryz.prog 102 #[.slice (some ⟨gs, 0, none⟩) n c, .int .i64 (a : Int), .int .i64 (b : Int), .func (.func 44) #[] #[.pointer (some ⟨bx, 0, none⟩)]] w R := by
 obtain ⟨HR, HI, HC, HD, Hs⟩ := lh5 hR hI hC hD hs;have hbn : b ≤ n := by omega
 have hb1 : b ≤ 1000 := by omega
 have ha1 : a ≤ 1000 := by omega
 have HL := lh (And.intro ha (And.intro hb hn));clear hR hI hC hD hs ha hb hn
 by_cases hab : ¬ a + 1 < b + 1 - 0
 ·have hD0 : D = [] := List.eq_nil_of_length_eq_zero (by have := HL.out; omega);subst hD0;have e1 : ¬ (a : Int) + 1 < (b : Int) := by omega
  rw [qcv] at HR;have hf := lh (HR.out _ (IntI.refl HI.out))
  go_enter Tryz.func102, Tryz.ntmps102
  go_wp2
  go_loopg [8] 0 (fun gh vi wr => gh = 0 ∧ vi = .int .i64 ((a : Int) + 1) ∧ wr = w)
  case atStart => exact ⟨rfl, rfl, rfl⟩
  case round =>
   obtain ⟨rfl, rfl, rfl⟩ := hrel;go_wp2
   first | exact hf.out | (go_end0; exact hf.out)
 obtain ⟨x0, D', hDx⟩ : ∃ x D', D = x :: D' := by
  cases D with
  | nil => exact absurd (by have := HL.out; simp at this; omega) hab
  | cons x D' => exact ⟨x, D', rfl⟩
 have H0 : Hid (InsO S P D Q (a + 1) (P ++ (D ++ Q))) := lh (by rw [<- HL.out.1]; exact qgs hDx);clear hDx hab
 have hab : a < b := by
  have := HL.out
  rcases Nat.lt_or_ge a b with h | h
  ·exact h
  ·obtain ⟨D1, R1, L, h1, h2, h3, _⟩ := H0.out.ex;have := congrArg List.length h1;rw [List.length_append] at this;omega
 go_enter Tryz.func102, Tryz.ntmps102
 go_wp2
 go_loopg [8] (b - (a + 1)) (fun gh vi wr => ∃ (i : Nat) (T : List Int), a < i ∧ i ≤ b ∧ gh = b - i ∧ vi = .int .i64 i ∧ Hid (InsO S P D Q i T) ∧ Hid (IntI gs T w wr))
 case atStart => exact ⟨a + 1, _, by omega, by omega, rfl, by go_num, H0, lh (IntI.refl HI.out)⟩
 case round =>
  clear H0 HI;obtain ⟨i, T, hai, hib, rfl, rfl, hO, hT⟩ := hrel
  by_cases hlt : i < b
  ·have i1 : (i : Int) < (b : Int) := by omega
   have H1 : Hid (InsS S P D Q i i T) := lh (qna hO.out (by have := HL.out; omega));clear hO;go_wp2
   go_loopg [9] i (fun gh vj wr => ∃ (j : Nat) (T : List Int), a ≤ j ∧ j ≤ i ∧ gh = j ∧ vj = .int .i64 j ∧ Hid (InsS S P D Q i j T) ∧ Hid (IntI gs T w wr))
   case atStart => exact ⟨i, T, by omega, Nat.le_refl _, rfl, rfl, H1, hT⟩
   case round =>
    clear H1 hT;obtain ⟨j, T2, haj, hji, hg, rfl, hS, hT2⟩ := hrel;have Hg := lh hg;clear hg;have hm := qll hS.out;have Hm := lh hm;have hjl : j < n := by have := HL.out; have := hm.2.2; omega
    clear hm;have k1 := nnn j;have k2 : (j : Int) < (n : Int) := by omega
    by_cases hja : a < j
    ·have k3 : (a : Int) < (j : Int) := by omega
     obtain ⟨q, hq⟩ : ∃ q : Nat, q = j - 1 := ⟨_, rfl⟩;have k4 : (j : Int) - 1 = (q : Int) := by omega
     have k5 : (0 : Int) ≤ (q : Int) := by omega
     have k6 : (q : Int) < (n : Int) := by omega
     have c0 := hT2.out.1.cell (k := j) Hm.out.2.2.1;have c1 := hT2.out.1.cell (k := q) (by have := Hm.out.2.2.1; omega);have lg := hT2.out.1.lt;have hx1 := Hm.out.1;have hy1 := Hm.out.2.1 (by have := HL.out; omega);rw [<- hq] at hy1;have Hxb := lh (HD.out _ hx1);have Hyb := lh (HD.out _ hy1);have HCr := lh (HC.out.keep hT2.out.2.2);have Hst := lh (qiy (j := j) Hs.out hS.out (by have := HL.out; omega));have Hsp := lh (fun h => qc7 (j := j) Hs.out hS.out (fun _ => h));rw [<- hq] at Hst Hsp;have Hq := lh hq;clear hq hx1 hy1;generalize hx : iAt T2 j = x at *;generalize hy : iAt T2 q = y at *;obtain ⟨Hx, Hy⟩ := lh2 hx hy;have hcm := q64 (S := S) (a := x) (b := y);generalize hz : cmpW S x y = z at *;obtain ⟨Hz, Hcm⟩ := lh2 hz hcm;clear hx hy hz hcm
     have Hcall : Hid (∀ m, Calls Tryz.prog 44 #[.int .i64 x, .int .i64 y, .pointer (some ⟨bx, 0, none⟩)] (wr.drewN m) (fun e w' => e = .returned (.int .i64 z) ∧ ∃ k, w' = (wr.drewN m).drewN k)) := lh (fun m => by
      have := q45 S g nn cp bx x y (wr.drewN m) HCr.out.row HCr.out.len HCr.out.box Hxb.out Hyb.out
      rwa [Hz.out] at this)
     go_upto_region 4 with fail
     go_big_quiet ((exact Calls.quiet_of (Hcall.out _)))
     have HTq : Hid (IntI gs T2 w (wr.drewN nq)) := lh (hT2.out.below (q2i wr nq));obtain ⟨wq, hwq⟩ := nmm (wr.drewN nq);rw [<- hwq] at HTq;rw [<- hwq];clear hwq c0 c1 lg hT2 HCr Hcall;have c0 := HTq.out.1.cell (k := j) Hm.out.2.2.1;have c1 := HTq.out.1.cell (k := q) (by have := Hm.out.2.2.1; omega);rw [Hx.out] at c0;rw [Hy.out] at c1;have f0 := HTq.out.1.frozen j;have f1 := HTq.out.1.frozen q;have lg := HTq.out.1.lt
     by_cases hzn : z < 0
     ·have hnew := lh (Hst.out (Hcm.out.1 hzn));have I0 := (HTq.out.1.set j y);have I1 := (HTq.out.1.set q x);have d0 := I0.cell (k := q) (by rw [List.length_set]; have := Hm.out.2.2.1; omega);have d1 := I1.cell (k := j) (by rw [List.length_set]; have := Hm.out.2.2.1; omega);rw [q4q (by have := Hm.out.2.2.1; omega), if_neg (by omega)] at d0 d1;rw [Hy.out] at d0;rw [Hx.out] at d1;have g0 := I0.frozen q;have g1 := I1.frozen j
      have hsw : IntI gs (swp T2 j q) w ((wq.setCell ⟨gs, j, none⟩ (.int .i64 y)).setCell ⟨gs, q, none⟩ (.int .i64 x)).drew := by
       unfold swp;rw [Hx.out, Hy.out];exact ((HTq.out.set j y).set q x).below (Below.refl _ _).drew
      have Hsw := lh hsw;clear hsw I0 I1 hS Hst Hsp
      go_upto_region 6 with fail
      go_region
      clear c0 c1 d0 d1 f0 f1 g0 g1;go_wp2
      go_roundg q
      case measure => have := Hg.out; have := Hq.out; omega
      case rel => exact ⟨q, _, by omega, by omega, rfl, by go_num, hnew, Hsw⟩
     ·have hnew := lh (Hsp.out (fun h => hzn (Hcm.out.2 h)));have k7 : (0 : Int) ≤ z := by omega
      clear hS Hst Hsp;go_wp2
      go_roundg (b - (i + 1))
      case measure => omega
      case rel => exact ⟨i + 1, T2, by omega, by omega, rfl, by go_num, hnew, HTq⟩
    ·have k3 : ¬ (a : Int) < (j : Int) := by omega
     have hnew := lh (qc7 (j := j) Hs.out hS.out (fun h => absurd h (by have := HL.out; omega)))
     go_upto_region 4 with fail
     go_big_quiet (fail)
     have HTq : Hid (IntI gs T2 w (wr.drewN nq)) := lh (hT2.out.below (q2i wr nq));obtain ⟨wq, hwq⟩ := nmm (wr.drewN nq);rw [<- hwq] at HTq;rw [<- hwq];clear hwq;go_wp2
     go_roundg (b - (i + 1))
     case measure => omega
     case rel => exact ⟨i + 1, T2, by omega, by omega, rfl, by go_num, hnew, HTq⟩
  ·obtain rfl : i = b := by omega
   have hfin := lh (HR.out _ (by
    have h1 := qlj (by have := HL.out; rw [show P.length + D.length = i by omega]; exact hO.out);rw [<- h1];exact hT.out))
   go_wp2
   first | exact hfin.out | (go_end0; exact hfin.out)
def SortB (S l : List Int) : Prop := l.Pairwise fun a b => q01 (wtS S) a b = true
def LessL (L M : List Int) : Prop := ∀ x ∈ L, ∀ y ∈ M, x < y
theorem q87 {S : List Int} {x y : Int} (h : x < y) (hw : ¬ wtS S x < wtS S y) : q01 (wtS S) x y = true := by
 unfold q01;simp;omega
theorem q86 {S : List Int} {x y : Int} (hw : wtS S x < wtS S y) : q01 (wtS S) y x = true := by
 unfold q01;simp [hw]
theorem q6u {S l : List Int} {x y : Int} (h : SortB S (l ++ [y])) (hx : x ∈ l ++ [y]) (hr : ∀ z, q01 (wtS S) z z = true) : q01 (wtS S) x y = true := by
 rcases List.mem_append.1 hx with h1 | h1
 ·exact (List.pairwise_append.1 h).2.2 x h1 y (by simp)
 ·rw [List.mem_singleton.1 h1]; exact hr y
theorem q3b (S : List Int) (z : Int) : q01 (wtS S) z z = true := by
 unfold q01;simp
theorem q6t {S l : List Int} {x y : Int} (h : SortB S (y :: l)) (hx : x ∈ y :: l) : q01 (wtS S) y x = true := by
 rcases List.mem_cons.1 hx with rfl | h1
 ·exact q3b S _
 ·exact (List.pairwise_cons.1 h).1 x h1
theorem ql8 {S L1 L2 M1 M2 : List Int} (hL : SortB S (L1 ++ L2)) (hM : SortB S (M1 ++ M2)) (hx : LessL (L1 ++ L2) (M1 ++ M2))
 (h1 : ∀ l x y m, L1 = l ++ [x] -> M2 = y :: m -> ¬ wtS S x < wtS S y) (h2 : ∀ l x y m, L2 = x :: l -> M1 = m ++ [y] -> wtS S x < wtS S y) : ∀ u ∈ L1 ++ M1, ∀ v ∈ L2 ++ M2, q01 (wtS S) u v = true := by
 have hL' := List.pairwise_append.1 hL;have hM' := List.pairwise_append.1 hM;intro u hu v hv
 rcases List.mem_append.1 hu with hu | hu <;> rcases List.mem_append.1 hv with hv | hv
 ·exact hL'.2.2 u hu v hv
 ·rcases List.eq_nil_or_concat L1 with e | ⟨l, x, e⟩
  ·rw [e] at hu; cases hu
  rw [List.concat_eq_append] at e
  cases M2 with
  | nil => cases hv
  | cons y m =>
    subst e;have hxy : q01 (wtS S) x y = true := q87 (hx x (by simp) y (by simp)) (h1 l x y m rfl rfl);exact q0a _ _ _ _ (q6u hL'.1 hu (q3b S)) (q0a _ _ _ _ hxy (q6t hM'.2.1 hv))
 ·rcases List.eq_nil_or_concat M1 with e | ⟨m, y, e⟩
  ·rw [e] at hu; cases hu
  rw [List.concat_eq_append] at e
  cases L2 with
  | nil => cases hv
  | cons x l =>
    subst e;have hyx : q01 (wtS S) y x = true := q86 (h2 l x y m rfl rfl);exact q0a _ _ _ _ (q6u hM'.1 hu (q3b S)) (q0a _ _ _ _ hyx (q6t hL'.2.1 hv))
 ·exact hM'.2.2 u hu v hv
structure Sym (S P L M Q : List Int) (a m b : Nat) (T : List Int) : Prop where
 eq : T = P ++ (L ++ (M ++ Q))
 la : P.length = a
 lm : a + L.length = m
 lb : m + M.length = b
 sl : SortB S L
 sm : SortB S M
 le : LessL L M
theorem qir {l : List Int} {k : Nat} (h : k < l.length) : iAt l k = l[k] := by
 unfold iAt;rw [List.getD_eq_getElem?_getD, List.getElem?_eq_getElem h];rfl
theorem q71 {A B : List Int} {x : Int} {k : Nat} (h : A.length = k) : iAt (A ++ (x :: B)) k = x := by
 rw [q05 (by omega), show k - A.length = 0 by omega];rfl
theorem qcz {S P L M Q T : List Int} {a m b s e : Nat} (h : Sym S P L M Q a m b T) (hs : a ≤ s ∧ s ≤ m) (he : m ≤ e ∧ e ≤ b)
 (h1 : a < s -> e < b -> ¬ wtS S (iAt T (s - 1)) < wtS S (iAt T e)) (h2 : s < m -> m < e -> wtS S (iAt T s) < wtS S (iAt T (e - 1))) :
 ∃ L1 L2 M1 M2, L = L1 ++ L2 ∧ M = M1 ++ M2 ∧ a + L1.length = s ∧ m + M1.length = e ∧ ∀ u ∈ L1 ++ M1, ∀ v ∈ L2 ++ M2, q01 (wtS S) u v = true := by
 obtain ⟨rfl, la, lm, lb, sl, sm, le⟩ := h;obtain ⟨L1, L2, rfl, l1⟩ : ∃ L1 L2, L = L1 ++ L2 ∧ a + L1.length = s := ⟨L.take (s - a), L.drop (s - a), (List.take_append_drop _ _).symm, by rw [List.length_take]; omega⟩;obtain ⟨M1, M2, rfl, m1⟩ : ∃ M1 M2, M = M1 ++ M2 ∧ m + M1.length = e := ⟨M.take (e - m), M.drop (e - m), (List.take_append_drop _ _).symm, by rw [List.length_take]; omega⟩;rw [List.length_append] at lm lb;refine ⟨L1, L2, M1, M2, rfl, rfl, l1, m1, ql8 sl sm le (fun l x y mm e1 e2 => ?_) (fun l x y mm e1 e2 => ?_)⟩
 ·subst e1 e2;have := h1 (by simp at l1; omega) (by simp at lb; omega);rw [List.length_append, List.length_singleton] at l1 lm
  have q1 : iAt (P ++ (l ++ [x] ++ L2 ++ (M1 ++ y :: mm ++ Q))) (s - 1) = x := by
   rw [show P ++ (l ++ [x] ++ L2 ++ (M1 ++ y :: mm ++ Q)) = (P ++ l) ++ (x :: (L2 ++ (M1 ++ y :: mm ++ Q))) by simp];exact q71 (by rw [List.length_append]; omega)
  have q2 : iAt (P ++ (l ++ [x] ++ L2 ++ (M1 ++ y :: mm ++ Q))) e = y := by
   rw [show P ++ (l ++ [x] ++ L2 ++ (M1 ++ y :: mm ++ Q)) = (P ++ (l ++ [x] ++ L2) ++ M1) ++ (y :: (mm ++ Q)) by simp];exact q71 (by simp only [List.length_append, List.length_singleton]; omega)
  rwa [q1, q2] at this
 ·subst e1 e2;rw [List.length_append, List.length_singleton] at m1 lb;have := h2 (by simp at lm; omega) (by omega)
  have q1 : iAt (P ++ (L1 ++ x :: l ++ (mm ++ [y] ++ M2 ++ Q))) s = x := by
   rw [show P ++ (L1 ++ x :: l ++ (mm ++ [y] ++ M2 ++ Q)) = (P ++ L1) ++ (x :: (l ++ (mm ++ [y] ++ M2 ++ Q))) by simp];exact q71 (by rw [List.length_append]; omega)
  have q2 : iAt (P ++ (L1 ++ x :: l ++ (mm ++ [y] ++ M2 ++ Q))) (e - 1) = y := by
   rw [show P ++ (L1 ++ x :: l ++ (mm ++ [y] ++ M2 ++ Q)) = (P ++ (L1 ++ x :: l) ++ mm) ++ (y :: (M2 ++ Q)) by simp];exact q71 (by simp only [List.length_append]; omega)
  rwa [q1, q2] at this
theorem qfr {S L1 L2 M1 M2 A B : List Int} (hx : ∀ u ∈ L1 ++ M1, ∀ v ∈ L2 ++ M2, q01 (wtS S) u v = true) (hA : SortB S A) (pA : A.Perm (L1 ++ M1)) (hB : SortB S B) (pB : B.Perm (L2 ++ M2)) :
 SortB S (A ++ B) ∧ (A ++ B).Perm ((L1 ++ L2) ++ (M1 ++ M2)) := by
 refine ⟨List.pairwise_append.2 ⟨hA, hB, fun u hu v hv => hx u (pA.mem_iff.1 hu) v (pB.mem_iff.1 hv)⟩, (pA.append pB).trans ?_⟩;rw [List.append_assoc, List.append_assoc];refine List.Perm.append_left L1 ?_;rw [<- List.append_assoc, <- List.append_assoc];exact List.Perm.append_right M2 List.perm_append_comm
def mvV (P A Q : List Int) (x : Int) (c : Nat) : List Int := P ++ (A.take c ++ (x :: (A.drop c ++ Q)))
theorem qj9 {P A Q : List Int} {x : Int} {c : Nat} : (mvV P A Q x c).length = P.length + A.length + 1 + Q.length := by
 have : (A.take c).length + (A.drop c).length = A.length := by rw [<- List.length_append, List.take_append_drop]
 simp only [mvV, List.length_append, List.length_cons];omega
theorem qoa {P A Q : List Int} {x : Int} {c p : Nat} (hp : P.length = p) (hc : c < A.length) : swp (mvV P A Q x c) (p + c) (p + c + 1) = mvV P A Q x (c + 1) := by
 have e : swp (mvV P A Q x c) (p + c) (p + c + 1) = swpTo (mvV P A Q x c) (p + c) (p + c + 1) 1 := rfl;have l : (A.take c).length = c := by rw [List.length_take]; omega
 have e3 : swpTo (mvV P A Q x c) (p + c) (p + c + 1) 1 = (P ++ A.take c) ++ ([A[c]] ++ ([] ++ ([x] ++ (A.drop (c + 1) ++ Q)))) :=
  q5d (A := P ++ A.take c) (U := [x]) (M := []) (V := [A[c]]) (B := A.drop (c + 1) ++ Q) (by unfold mvV; rw [List.drop_eq_getElem_cons hc]; simp only [List.append_assoc, List.singleton_append, List.nil_append, List.cons_append]) rfl rfl (by rw [List.length_append]; omega) (by rw [List.length_append, List.length_singleton, List.length_nil]; omega)
 rw [e, e3];unfold mvV;rw [List.take_succ_eq_append_getElem hc];simp only [List.append_assoc, List.singleton_append, List.nil_append, List.cons_append]
theorem qnf {P A Q : List Int} {x : Int} {c p : Nat} (hp : P.length = p) (hc : c < A.length) : swp (mvV P A Q x (c + 1)) (p + c + 1) (p + c) = mvV P A Q x c := by
 have e : swp (mvV P A Q x (c + 1)) (p + c + 1) (p + c) = swpTo (mvV P A Q x (c + 1)) (p + c) (p + c + 1) 1 := qfq (by omega);have l : (A.take c).length = c := by rw [List.length_take]; omega
 have e3 : swpTo (mvV P A Q x (c + 1)) (p + c) (p + c + 1) 1 = (P ++ A.take c) ++ ([x] ++ ([] ++ ([A[c]] ++ (A.drop (c + 1) ++ Q)))) :=
  q5d (A := P ++ A.take c) (U := [A[c]]) (M := []) (V := [x]) (B := A.drop (c + 1) ++ Q) (by unfold mvV; rw [List.take_succ_eq_append_getElem hc]; simp only [List.append_assoc, List.singleton_append, List.nil_append, List.cons_append]) rfl rfl (by rw [List.length_append]; omega) (by rw [List.length_append, List.length_singleton, List.length_nil]; omega)
 rw [e, e3];unfold mvV;rw [List.drop_eq_getElem_cons hc];simp only [List.append_assoc, List.singleton_append, List.nil_append, List.cons_append]
theorem q5i (A : List Int) (x : Int) (c : Nat) : (A.take c ++ x :: A.drop c).Perm (x :: A) := by
 have := List.perm_middle (a := x) (l₁ := A.take c) (l₂ := A.drop c)
 rwa [List.take_append_drop] at this
theorem qlv {S P M Q T : List Int} {x : Int} {a m b i : Nat} (h : Sym S P [x] M Q a m b T) (hi : m ≤ i ∧ i ≤ b) (h1 : m < i -> wtS S x < wtS S (iAt T (i - 1))) (h2 : i < b -> ¬ wtS S x < wtS S (iAt T i)) :
 SortB S (M.take (i - m) ++ x :: M.drop (i - m)) := by
 have hT := h.eq;have l1 := h.la;have l2 := h.lm;have l3 := h.lb;have l4 := h.le;rw [List.length_singleton] at l2;have hs : SortB S (M.take (i - m) ++ M.drop (i - m)) := by rw [List.take_append_drop]; exact h.sm
 have hs' := List.pairwise_append.1 hs
 have at_ : ∀ k, k < M.length -> iAt T (m + k) = M[k]! := fun k hk => by
  rw [hT, q05 (by omega), q05 (by simp; omega), q3s (by simp; omega)];unfold iAt;rw [List.length_singleton, show m + k - P.length - 1 = k by omega, List.getD_eq_getElem?_getD, List.getElem?_eq_getElem hk, List.getElem!_eq_getElem?_getD, List.getElem?_eq_getElem hk];rfl
 have e1 : ∀ y ∈ M.take (i - m), q01 (wtS S) y x = true := fun y hy => by
  rcases List.eq_nil_or_concat (M.take (i - m)) with e | ⟨l, z, e⟩
  ·rw [e] at hy; cases hy
  rw [List.concat_eq_append] at e;have hl : (M.take (i - m)).length = i - m := by rw [List.length_take]; omega
  rw [e, List.length_append, List.length_singleton] at hl
  have hz : iAt T (i - 1) = z := by
   have h5 := at_ (i - 1 - m) (by omega);rw [show m + (i - 1 - m) = i - 1 by omega] at h5;rw [h5];have h6 : (M.take (i - m))[i - 1 - m]? = some z := by rw [e, List.getElem?_append_right (by omega), show i - 1 - m - l.length = 0 by omega]; rfl
   rw [List.getElem?_take, if_pos (by omega)] at h6;rw [List.getElem!_eq_getElem?_getD, h6];rfl
  have h7 := h1 (by omega);rw [hz] at h7;rw [e] at hy hs';exact q0a _ _ _ _ (q6u hs'.1 hy (q3b S)) (q86 h7)
 have e2 : ∀ y ∈ M.drop (i - m), q01 (wtS S) x y = true := fun y hy => by
  have hlt : i - m < M.length := by
   rcases Nat.lt_or_ge (i - m) M.length with h | h
   ·exact h
   ·rw [List.drop_eq_nil_of_le h] at hy; cases hy
  have h7 := h2 (by omega);have h5 := at_ (i - m) hlt;rw [show m + (i - m) = i by omega] at h5;rw [h5, List.getElem!_eq_getElem?_getD, List.getElem?_eq_getElem hlt] at h7;have hd := List.drop_eq_getElem_cons hlt;have h8 : q01 (wtS S) x M[i - m] = true := q87 (l4 x (by simp) _ (List.getElem_mem hlt)) h7;rw [hd] at hy hs';exact q0a _ _ _ _ h8 (q6t hs'.2.1 hy)
 refine List.pairwise_append.2 ⟨hs'.1, List.pairwise_cons.2 ⟨e2, hs'.2.1⟩, fun u hu v hv => ?_⟩
 rcases List.mem_cons.1 hv with rfl | hv
 ·exact e1 u hu
 ·exact hs'.2.2 u hu v hv
theorem qa6 {S P L M Q T : List Int} {a m b k : Nat} (h : Sym S P L M Q a m b T) (h1 : a ≤ k) (h2 : k < b) : iAt T k ∈ L ++ M := by
 obtain ⟨rfl, la, lm, lb, _, _, _⟩ := h;rw [q05 (by omega), <- List.append_assoc, q3s (by rw [List.length_append]; omega), qir (by rw [List.length_append]; omega)];exact List.getElem_mem _
theorem q3n {S P L M Q T : List Int} {a m b : Nat} (h : Sym S P L M Q a m b T) : T.length = b + Q.length := by
 obtain ⟨rfl, la, lm, lb, _, _, _⟩ := h;simp;omega
theorem qhh (S : List Int) (g nn cp bx gs n c a m b : Nat) (P M Q T : List Int) (x : Int) (hSy : Sym S P [x] M Q a m b T) (hm : 0 < M.length) (hn : b + Q.length = n) (hn1 : n ≤ 1000) (hD : ∀ y ∈ [x] ++ M, 0 ≤ y ∧ y < (nn : Int)) (w : World) (hC : CmpN S g nn cp bx gs w) (hI : IntAt gs T w) (R : Ending -> World -> Prop)
 (hR : ∀ w' D, SortB S D -> D.Perm ([x] ++ M) -> IntI gs (P ++ (D ++ Q)) w w' -> R (.returned (.tuple #[])) w') :
 Calls Tryz.prog 103 #[.slice (some ⟨gs, 0, none⟩) n c, .int .i64 (a : Int), .int .i64 (m : Int), .int .i64 (b : Int), .func (.func 44) #[] #[.pointer (some ⟨bx, 0, none⟩)]] w R := by
 obtain ⟨HR, HC, HD, HSy⟩ := lh4 hR hC hD hSy;have hl := q3n hSy;have hma : m = a + 1 := by have := hSy.lm; simp at this; omega
 have hbm : m + M.length = b := hSy.lb;have HL := lh (And.intro hl (And.intro hbm hSy.la));have ha1 : a ≤ 1000 := by omega
 have hb1 : b ≤ 1000 := by omega
 have hm1 : m ≤ 1000 := by omega
 have e0 : (m : Int) - (a : Int) = 1 := by omega
 have hmb : m < b := by omega
 have hbn : b ≤ n := by omega
 obtain ⟨Hn, Hma⟩ := lh2 hn hma;have HI0 := lh (IntI.refl hI);clear hR hC hD hSy hl hbm hn hma hI hm
 go_enter Tryz.func103, Tryz.ntmps103
 go_wp2
 go_loopg [10, 11] (b - m) (fun gh vi vj wr => ∃ (i j : Nat), m ≤ i ∧ i ≤ j ∧ j ≤ b ∧ gh = j - i ∧ vi = .int .i64 i ∧ vj = .int .i64 j ∧ Hid (m < i -> wtS S x < wtS S (iAt T (i - 1))) ∧ Hid (j < b -> ¬ wtS S x < wtS S (iAt T j)) ∧ Hid (IntI gs T w wr))
 case atStart => exact ⟨m, b, Nat.le_refl _, by omega, Nat.le_refl _, rfl, rfl, rfl, lh (fun h => absurd h (by omega)), lh (fun h => absurd h (by omega)), HI0⟩
 case round =>
  clear HI0;obtain ⟨i, j, hi, hij, hj, hg, rfl, rfl, h1, h2, hT⟩ := hrel;have Hg := lh hg;clear hg
  by_cases hlt : i < j
  ·have k1 : (i : Int) < (j : Int) := by omega
   go_upto_region 5 with fail
   obtain ⟨h, hh⟩ : ∃ h : Nat, h = (i + j) / 2 := ⟨_, rfl⟩;have e1 : ((i : Int) + (j : Int)) / 2 = (h : Int) := by omega
   rw [e1];have hih : i ≤ h := by omega
   have hhj : h < j := by omega
   clear e1 hh;have c0 := hT.out.1.cell (k := h) (by have := HL.out; omega);have c1 := hT.out.1.cell (k := a) (by have := HL.out; omega);have lg := hT.out.1.lt
   have hxa : iAt T a = x := by
    rw [HSy.out.eq];exact q71 HL.out.2.2
   have hyD := HD.out _ (qa6 HSy.out (k := h) (by omega) (by omega));have hxD := HD.out x (by simp);have HCr := lh (HC.out.keep hT.out.2.2);have n1 := lh (fun q : wtS S x < wtS S (iAt T h) => (fun _ => by rw [show h + 1 - 1 = h by omega]; exact q : m < h + 1 -> wtS S x < wtS S (iAt T (h + 1 - 1))));have n2 := lh (fun q : ¬ wtS S x < wtS S (iAt T h) => (fun _ => q : h < b -> ¬ wtS S x < wtS S (iAt T h)));rw [hxa] at c1;obtain ⟨y, hy⟩ := nmm (iAt T h);rw [<- hy] at c0 hyD;have Hy := lh hy;have hcm := q64 (S := S) (a := y) (b := x);obtain ⟨z, hz⟩ := nmm (cmpW S y x);rw [<- hz] at hcm;have Hcm := lh hcm
   have Hcall : Hid (∀ m, Calls Tryz.prog 44 #[.int .i64 y, .int .i64 x, .pointer (some ⟨bx, 0, none⟩)] (wr.drewN m) (fun e w' => e = .returned (.int .i64 z) ∧ ∃ k, w' = (wr.drewN m).drewN k)) := lh (fun m => by
    have := q45 S g nn cp bx y x (wr.drewN m) HCr.out.row HCr.out.len HCr.out.box hyD hxD
    rwa [<- hz] at this)
   have q1 : (0 : Int) ≤ (h : Int) := by omega
   have q2 : (h : Int) < (n : Int) := by omega
   have q3 : (0 : Int) ≤ (a : Int) := by omega
   have q4 : (a : Int) < (n : Int) := by omega
   clear hy hcm hz hyD hxD hxa
   go_big_quiet ((exact Calls.quiet_of (Hcall.out _)))
   have HTq : Hid (IntI gs T w (wr.drewN nq)) := lh (hT.out.below (q2i wr nq));obtain ⟨wq, hwq⟩ := nmm (wr.drewN nq);rw [<- hwq] at HTq;rw [<- hwq];clear hwq c0 c1 lg hT HCr Hcall
   by_cases hzn : z < 0
   ·have hnew := lh (n1.out (by rw [<- Hy.out]; exact Hcm.out.1 hzn));go_wp2
    go_roundg (j - (h + 1))
    case measure => have := Hg.out; omega
    case rel => exact ⟨h + 1, j, by omega, by omega, by omega, rfl, by go_num, rfl, hnew, h2, HTq⟩
   ·have hnew := lh (n2.out (by rw [<- Hy.out]; exact fun q => hzn (Hcm.out.2 q)));have q5 : (0 : Int) ≤ z := by omega
    go_wp2
    go_roundg (h - i)
    case measure => have := Hg.out; omega
    case rel => exact ⟨i, h, by omega, by omega, by omega, rfl, rfl, rfl, h1, hnew, HTq⟩
  ·obtain rfl : i = j := by omega
   have k1 : ¬ (i : Int) < (i : Int) := by omega
   obtain ⟨d, hd⟩ : ∃ d : Nat, d = i - m := ⟨_, rfl⟩;have hsrt := qlv HSy.out (i := i) ⟨hi, hj⟩ h1.out h2.out;rw [<- hd] at hsrt;have Hsrt := lh hsrt
   have hT0 : IntI gs (mvV P M Q x 0) w wr := by
    have := hT.out;rw [HSy.out.eq] at this;exact this
   obtain ⟨HT0, Hd⟩ := lh2 hT0 hd;have e2 : (i : Int) - 1 = (a : Int) + (d : Int) := by have := Hma.out; omega
   have hdm : d ≤ M.length := by have := HL.out; omega
   clear hsrt hT0 hT h1 h2 hd;go_wp2
   go_loopg [13] d (fun gh vk wr => ∃ (e k : Nat), e ≤ d ∧ gh = d - e ∧ k = a + e ∧ vk = .int .i64 k ∧ Hid (IntI gs (mvV P M Q x e) w wr))
   case atStart => exact ⟨0, a, Nat.zero_le _, rfl, rfl, rfl, HT0⟩
   case round =>
    clear HT0;obtain ⟨e, k, hed, hg, hk, rfl, hT⟩ := hrel;obtain ⟨Hg, Hk⟩ := lh2 hg hk;have hkd : e < d ∨ ¬ e < d := by omega
    rcases hkd with hkd | hkd
    ·have k2 : (k : Int) < (a : Int) + (d : Int) := by omega
     have hml := qj9 (P := P) (A := M) (Q := Q) (x := x) (c := e);have hup := qoa (P := P) (A := M) (Q := Q) (x := x) (c := e) HL.out.2.2 (by omega);have hnl : (mvV P M Q x e).length = n := by have := HL.out; have := Hma.out; have := Hn.out; omega
     clear hml hg hk;obtain ⟨T2, hT2⟩ := nmm (mvV P M Q x e);rw [<- hT2] at hT hup hnl;rw [<- Hk.out] at hup;obtain ⟨q, hq⟩ : ∃ q : Nat, q = k + 1 := ⟨_, rfl⟩;rw [<- hq] at hup;have hkn : q < n := by have := HL.out; have := Hma.out; have := Hk.out; omega
     have e3 : (k : Int) + 1 = (q : Int) := by omega
     have c0 := hT.out.1.cell (k := k) (by omega);have c1 := hT.out.1.cell (k := q) (by omega);have f0 := hT.out.1.frozen k;have f1 := hT.out.1.frozen q;have lg := hT.out.1.lt;have I0 := (hT.out.1.set k (iAt T2 q));have I1 := (hT.out.1.set q (iAt T2 k));have d0 := I0.cell (k := q) (by rw [List.length_set]; omega);have d1 := I1.cell (k := k) (by rw [List.length_set]; omega);rw [q4q (by omega), if_neg (by omega)] at d0 d1;have g0 := I0.frozen q;have g1 := I1.frozen k
     have hsw : IntI gs (mvV P M Q x (e + 1)) w ((wr.setCell ⟨gs, k, none⟩ (.int .i64 (iAt T2 q))).setCell ⟨gs, q, none⟩ (.int .i64 (iAt T2 k))).drew := by
      rw [<- hup];exact ((hT.out.set k (iAt T2 q)).set q (iAt T2 k)).below (Below.refl _ _).drew
     obtain ⟨Hsw, Hq⟩ := lh2 hsw hq;obtain ⟨u, hu⟩ := nmm (iAt T2 k);obtain ⟨v, hv⟩ := nmm (iAt T2 q);rw [<- hu, <- hv] at Hsw;rw [<- hv] at c1 d0;rw [<- hu] at c0 d1;rw [<- hv] at g0;rw [<- hu] at g1;have q1 : (0 : Int) ≤ (k : Int) := by omega
     have q2 : (k : Int) < (n : Int) := by omega
     have q3 : (0 : Int) ≤ (q : Int) := by omega
     have q4 : (q : Int) < (n : Int) := by omega
     clear hsw I0 I1 hT hup hT2 hnl hu hv hq
     go_upto_region 11 with fail
     go_region
     clear c0 c1 d0 d1 f0 f1 g0 g1 lg;go_wp2
     go_roundg (d - (e + 1))
     case measure => have := Hg.out; omega
     case rel => exact ⟨e + 1, q, by omega, rfl, by have := Hk.out; have := Hq.out; omega, by go_num, Hsw⟩
    ·have hde : e = d := by omega
     have k2 : ¬ (k : Int) < (a : Int) + (d : Int) := by omega
     have hfin := lh (HR.out _ (M.take d ++ x :: M.drop d) Hsrt.out (q5i M x d) (by
      have := hT.out;rw [hde] at this;unfold mvV at this;simpa only [List.append_assoc, List.cons_append] using this))
     clear hg hk hT;go_wp2
     first | exact hfin.out | (go_end0; exact hfin.out) | (refine bodyPost_ret (results_none rfl _ _ _) rfl ?_; exact hfin.out)
theorem qjd {S P L Q T : List Int} {y : Int} {a m b i : Nat} (h : Sym S P L [y] Q a m b T) (hi : a ≤ i ∧ i ≤ m) (h1 : a < i -> ¬ wtS S (iAt T (i - 1)) < wtS S y) (h2 : i < m -> wtS S (iAt T i) < wtS S y) :
 SortB S (L.take (i - a) ++ y :: L.drop (i - a)) := by
 have hT := h.eq;have l1 := h.la;have l2 := h.lm;have l4 := h.le;have hs : SortB S (L.take (i - a) ++ L.drop (i - a)) := by rw [List.take_append_drop]; exact h.sl
 have hs' := List.pairwise_append.1 hs
 have at_ : ∀ k, k < L.length -> iAt T (a + k) = L[k]! := fun k hk => by
  rw [hT, q05 (by omega), q3s (by omega)];unfold iAt;rw [show a + k - P.length = k by omega, List.getD_eq_getElem?_getD, List.getElem?_eq_getElem hk, List.getElem!_eq_getElem?_getD, List.getElem?_eq_getElem hk];rfl
 have e1 : ∀ u ∈ L.take (i - a), q01 (wtS S) u y = true := fun u hu => by
  rcases List.eq_nil_or_concat (L.take (i - a)) with e | ⟨l, z, e⟩
  ·rw [e] at hu; cases hu
  rw [List.concat_eq_append] at e;have hl : (L.take (i - a)).length = i - a := by rw [List.length_take]; omega
  rw [e, List.length_append, List.length_singleton] at hl;have h6 : (L.take (i - a))[i - 1 - a]? = some z := by rw [e, List.getElem?_append_right (by omega), show i - 1 - a - l.length = 0 by omega]; rfl
  have hzL : z ∈ L := List.mem_of_mem_take (List.mem_of_getElem? h6)
  have hz : iAt T (i - 1) = z := by
   have h5 := at_ (i - 1 - a) (by omega);rw [show a + (i - 1 - a) = i - 1 by omega] at h5;rw [h5];rw [List.getElem?_take, if_pos (by omega)] at h6;rw [List.getElem!_eq_getElem?_getD, h6];rfl
  have h7 := h1 (by omega);rw [hz] at h7;rw [e] at hu hs';exact q0a _ _ _ _ (q6u hs'.1 hu (q3b S)) (q87 (l4 z hzL y (by simp)) h7)
 have e2 : ∀ u ∈ L.drop (i - a), q01 (wtS S) y u = true := fun u hu => by
  have hlt : i - a < L.length := by
   rcases Nat.lt_or_ge (i - a) L.length with h | h
   ·exact h
   ·rw [List.drop_eq_nil_of_le h] at hu; cases hu
  have h7 := h2 (by omega);have h5 := at_ (i - a) hlt;rw [show a + (i - a) = i by omega] at h5;rw [h5, List.getElem!_eq_getElem?_getD, List.getElem?_eq_getElem hlt] at h7;have hd := List.drop_eq_getElem_cons hlt;have h8 : q01 (wtS S) y L[i - a] = true := q86 h7;rw [hd] at hu hs';exact q0a _ _ _ _ h8 (q6t hs'.2.1 hu)
 refine List.pairwise_append.2 ⟨hs'.1, List.pairwise_cons.2 ⟨e2, hs'.2.1⟩, fun u hu v hv => ?_⟩
 rcases List.mem_cons.1 hv with rfl | hv
 ·exact e1 u hu
 ·exact hs'.2.2 u hu v hv
theorem qhi (S : List Int) (g nn cp bx gs n c a m b : Nat) (P L Q T : List Int) (y : Int) (hSy : Sym S P L [y] Q a m b T) (hm : 1 < L.length) (hn : b + Q.length = n) (hn1 : n ≤ 1000) (hD : ∀ v ∈ L ++ [y], 0 ≤ v ∧ v < (nn : Int)) (w : World) (hC : CmpN S g nn cp bx gs w) (hI : IntAt gs T w) (R : Ending -> World -> Prop)
 (hR : ∀ w' D, SortB S D -> D.Perm (L ++ [y]) -> IntI gs (P ++ (D ++ Q)) w w' -> R (.returned (.tuple #[])) w') :
 Calls Tryz.prog 103 #[.slice (some ⟨gs, 0, none⟩) n c, .int .i64 (a : Int), .int .i64 (m : Int), .int .i64 (b : Int), .func (.func 44) #[] #[.pointer (some ⟨bx, 0, none⟩)]] w R := by
 obtain ⟨HR, HC, HD, HSy⟩ := lh4 hR hC hD hSy;have hl := q3n hSy;have hma : b = m + 1 := by have := hSy.lb; simp at this; omega
 have hbm : a + L.length = m := hSy.lm;have HL := lh (And.intro hl (And.intro hbm hSy.la));have ha1 : a ≤ 1000 := by omega
 have hb1 : b ≤ 1000 := by omega
 have hm1 : m ≤ 1000 := by omega
 have e0 : ¬ (m : Int) - (a : Int) = 1 := by omega
 have e00 : (b : Int) - (m : Int) = 1 := by omega
 have e0b : ((m : Int) - (a : Int) == 1) = false := by simp; omega
 have hmb : a < m := by omega
 have hbn : b ≤ n := by omega
 obtain ⟨Hn, Hma⟩ := lh2 hn hma;have HI0 := lh (IntI.refl hI);clear hR hC hD hSy hl hbm hn hma hI hm
 go_enter Tryz.func103, Tryz.ntmps103
 go_wp2
 go_loopg [14, 15] (m - a) (fun gh vi vj wr => ∃ (i j : Nat), a ≤ i ∧ i ≤ j ∧ j ≤ m ∧ gh = j - i ∧ vi = .int .i64 i ∧ vj = .int .i64 j ∧ Hid (a < i -> ¬ wtS S (iAt T (i - 1)) < wtS S y) ∧ Hid (j < m -> wtS S (iAt T j) < wtS S y) ∧ Hid (IntI gs T w wr))
 case atStart => exact ⟨a, m, Nat.le_refl _, by omega, Nat.le_refl _, rfl, rfl, rfl, lh (fun h => absurd h (by omega)), lh (fun h => absurd h (by omega)), HI0⟩
 case round =>
  clear HI0;obtain ⟨i, j, hi, hij, hj, hg, rfl, rfl, h1, h2, hT⟩ := hrel;have Hg := lh hg;clear hg
  by_cases hlt : i < j
  ·have k1 : (i : Int) < (j : Int) := by omega
   go_upto_region 17 with fail
   obtain ⟨h, hh⟩ : ∃ h : Nat, h = (i + j) / 2 := ⟨_, rfl⟩;have e1 : ((i : Int) + (j : Int)) / 2 = (h : Int) := by omega
   rw [e1];have hih : i ≤ h := by omega
   have hhj : h < j := by omega
   clear e1 hh;have c0 := hT.out.1.cell (k := h) (by have := HL.out; omega);have c1 := hT.out.1.cell (k := m) (by have := HL.out; omega);have lg := hT.out.1.lt
   have hxa : iAt T m = y := by
    rw [HSy.out.eq, <- List.append_assoc];exact q71 (by have := HL.out; rw [List.length_append]; omega)
   have hyD := HD.out _ (qa6 HSy.out (k := h) (by omega) (by omega));have hxD := HD.out y (by simp);have HCr := lh (HC.out.keep hT.out.2.2);have n1 := lh (fun q : ¬ wtS S (iAt T h) < wtS S y => (fun _ => by rw [show h + 1 - 1 = h by omega]; exact q : a < h + 1 -> ¬ wtS S (iAt T (h + 1 - 1)) < wtS S y));have n2 := lh (fun q : wtS S (iAt T h) < wtS S y => (fun _ => q : h < m -> wtS S (iAt T h) < wtS S y));rw [hxa] at c1;obtain ⟨u, hy⟩ := nmm (iAt T h);rw [<- hy] at c0 hyD;have Hy := lh hy;have hcm := q64 (S := S) (a := y) (b := u);obtain ⟨z, hz⟩ := nmm (cmpW S y u);rw [<- hz] at hcm;have Hcm := lh hcm
   have Hcall : Hid (∀ m, Calls Tryz.prog 44 #[.int .i64 y, .int .i64 u, .pointer (some ⟨bx, 0, none⟩)] (wr.drewN m) (fun e w' => e = .returned (.int .i64 z) ∧ ∃ k, w' = (wr.drewN m).drewN k)) := lh (fun m => by
    have := q45 S g nn cp bx y u (wr.drewN m) HCr.out.row HCr.out.len HCr.out.box hxD hyD
    rwa [<- hz] at this)
   have q1 : (0 : Int) ≤ (h : Int) := by omega
   have q2 : (h : Int) < (n : Int) := by omega
   have q3 : (0 : Int) ≤ (m : Int) := by omega
   have q4 : (m : Int) < (n : Int) := by omega
   clear hy hcm hz hyD hxD hxa
   go_big_quiet ((exact Calls.quiet_of (Hcall.out _)))
   have HTq : Hid (IntI gs T w (wr.drewN nq)) := lh (hT.out.below (q2i wr nq));obtain ⟨wq, hwq⟩ := nmm (wr.drewN nq);rw [<- hwq] at HTq;rw [<- hwq];clear hwq c0 c1 lg hT HCr Hcall
   by_cases hzn : z < 0
   ·have hnew := lh (n2.out (by rw [<- Hy.out]; exact Hcm.out.1 hzn));simp only [decide_eq_true hzn, Bool.not_true];go_wp2
    go_roundg (h - i)
    case measure => have := Hg.out; omega
    case rel => exact ⟨i, h, by omega, by omega, by omega, rfl, rfl, rfl, h1, hnew, HTq⟩
   ·have hnew := lh (n1.out (by rw [<- Hy.out]; exact fun q => hzn (Hcm.out.2 q)));have q5 : (0 : Int) ≤ z := by omega
    simp only [decide_eq_false hzn, Bool.not_false];go_wp2
    go_roundg (j - (h + 1))
    case measure => have := Hg.out; omega
    case rel => exact ⟨h + 1, j, by omega, by omega, by omega, rfl, by go_num, rfl, hnew, h2, HTq⟩
  ·obtain rfl : i = j := by omega
   have k1 : ¬ (i : Int) < (i : Int) := by omega
   obtain ⟨d, hd⟩ : ∃ d : Nat, d = i - a := ⟨_, rfl⟩;have hsrt := qjd HSy.out (i := i) ⟨hi, hj⟩ h1.out h2.out;rw [<- hd] at hsrt;have Hsrt := lh hsrt
   have hT0 : IntI gs (mvV P L Q y L.length) w wr := by
    have := hT.out;rw [HSy.out.eq] at this;unfold mvV;rw [List.take_length, List.drop_length];exact this
   obtain ⟨HT0, Hd⟩ := lh2 hT0 hd;have hdm : d ≤ L.length := by have := HL.out; omega
   clear hsrt hT0 hT h1 h2 hd;go_wp2
   go_loopg [17] (L.length - d) (fun gh vk wr => ∃ (e k : Nat), d ≤ e ∧ e ≤ L.length ∧ gh = e - d ∧ k = a + e ∧ vk = .int .i64 k ∧ Hid (IntI gs (mvV P L Q y e) w wr))
   case atStart => exact ⟨L.length, m, hdm, Nat.le_refl _, rfl, by have := HL.out; omega, rfl, HT0⟩
   case round =>
    clear HT0;obtain ⟨e, k, hde, heL, hg, hk, rfl, hT⟩ := hrel;obtain ⟨Hg, Hk⟩ := lh2 hg hk;have hkd : d < e ∨ ¬ d < e := by omega
    rcases hkd with hkd | hkd
    ·have k2 : (i : Int) < (k : Int) := by have := Hd.out; omega
     obtain ⟨e', rfl⟩ : ∃ e', e = e' + 1 := ⟨e - 1, by omega⟩;have hml := qj9 (P := P) (A := L) (Q := Q) (x := y) (c := e' + 1);have hup := qnf (P := P) (A := L) (Q := Q) (x := y) (c := e') HL.out.2.2 (by omega);have hnl : (mvV P L Q y (e' + 1)).length = n := by have := HL.out; have := Hma.out; have := Hn.out; omega
     clear hml hg hk;obtain ⟨T2, hT2⟩ : ∃ T2, T2 = mvV P L Q y (e' + 1) := ⟨_, rfl⟩;rw [<- hT2] at hT hup hnl;obtain ⟨q, hq⟩ : ∃ q : Nat, q = a + e' := ⟨_, rfl⟩;rw [show a + e' + 1 = k by have := Hk.out; omega, <- hq] at hup;have hkq : k = q + 1 := by have := Hk.out; omega
     have hkn : k < n := by have := HL.out; have := Hma.out; have := Hk.out; have := Hn.out; omega
     have e3 : (k : Int) - 1 = (q : Int) := by omega
     have c0 := hT.out.1.cell (k := k) (by omega);have c1 := hT.out.1.cell (k := q) (by omega);have f0 := hT.out.1.frozen k;have f1 := hT.out.1.frozen q;have lg := hT.out.1.lt;have I0 := (hT.out.1.set k (iAt T2 q));have I1 := (hT.out.1.set q (iAt T2 k));have d0 := I0.cell (k := q) (by rw [List.length_set]; omega);have d1 := I1.cell (k := k) (by rw [List.length_set]; omega);rw [q4q (by omega), if_neg (by omega)] at d0 d1;have g0 := I0.frozen q;have g1 := I1.frozen k
     have hsw : IntI gs (mvV P L Q y e') w ((wr.setCell ⟨gs, k, none⟩ (.int .i64 (iAt T2 q))).setCell ⟨gs, q, none⟩ (.int .i64 (iAt T2 k))).drew := by
      rw [<- hup];exact ((hT.out.set k (iAt T2 q)).set q (iAt T2 k)).below (Below.refl _ _).drew
     obtain ⟨Hsw, Hq⟩ := lh2 hsw hq;obtain ⟨u, hu⟩ := nmm (iAt T2 k);obtain ⟨v, hv⟩ := nmm (iAt T2 q);rw [<- hu, <- hv] at Hsw;rw [<- hv] at c1 d0;rw [<- hu] at c0 d1;rw [<- hv] at g0;rw [<- hu] at g1;have q1 : (0 : Int) ≤ (k : Int) := by omega
     have q2 : (k : Int) < (n : Int) := by omega
     have q3 : (0 : Int) ≤ (q : Int) := by omega
     have q4 : (q : Int) < (n : Int) := by omega
     clear hsw I0 I1 hT hup hT2 hnl hu hv hq hkq
     go_upto_region 23 with fail
     go_region
     clear c0 c1 d0 d1 f0 f1 g0 g1 lg;go_wp2
     go_roundg (e' - d)
     case measure => have := Hg.out; omega
     case rel => exact ⟨e', q, by omega, by omega, rfl, Hq.out, by go_num, Hsw⟩
    ·have hde2 : e = d := by omega
     have k2 : ¬ (i : Int) < (k : Int) := by have := Hd.out; omega
     have hfin := lh (HR.out _ (L.take d ++ y :: L.drop d) Hsrt.out ((q5i L y d).trans (List.perm_append_singleton y L).symm) (by
      have := hT.out;rw [hde2] at this;unfold mvV at this;simpa only [List.append_assoc, List.cons_append] using this))
     clear hg hk hT;go_wp2
     first | exact hfin.out | (go_end0; exact hfin.out) | (refine bodyPost_ret (results_none rfl _ _ _) rfl ?_; exact hfin.out)
end Go.Proofs.YtdanebboiekieaaGreatDoor
