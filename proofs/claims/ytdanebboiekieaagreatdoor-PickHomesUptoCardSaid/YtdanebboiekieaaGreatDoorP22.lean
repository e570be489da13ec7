/- The walks, part 22. -/
import Derived.Test.YtdanebboiekieaaGreatDoorP21
set_option linter.unusedSimpArgs false
set_option linter.unusedVariables false
set_option maxRecDepth 100000
set_option maxHeartbeats 16000000
namespace Go.Proofs.YtdanebboiekieaaGreatDoor
open Go.RowKit
theorem q3y {G S : List Int} {m i j : Nat} (h : Rot G m i j S) (h0 : i = 0 ∨ j = 0) : S = G := by
 obtain ⟨A, X, Y, B, rfl, h1, h2, h3, h4⟩ := h
 rcases h0 with h0 | h0
 ·have : X = [] := List.eq_nil_of_length_eq_zero (by omega);subst this;rw [<- h4];simp
 ·have : Y = [] := List.eq_nil_of_length_eq_zero (by omega);subst this;rw [<- h4];simp
theorem q06 {S P L M Q T : List Int} {a m b : Nat} (h : Sym S P L M Q a m b T) (h0 : a = m ∨ m = b ∨ ¬ a < m ∨ ¬ m < b) : SortB S (L ++ M) := by
 have h1 := h.lm;have h2 := h.lb
 by_cases h3 : L = []
 ·subst h3;exact h.sm
 ·have h4 : 0 < L.length := Nat.pos_of_ne_zero (fun h => h3 (List.eq_nil_of_length_eq_zero h));have : M = [] := List.eq_nil_of_length_eq_zero (by omega);subst this;rw [List.append_nil];exact h.sl
def qhq (S : List Int) (g nn cp bx gs n c k : Nat) : Prop := ∀ (P L M Q T : List Int) (a m b : Nat), b - a ≤ k -> Sym S P L M Q a m b T -> 0 < L.length -> 0 < M.length -> b + Q.length = n -> (∀ v ∈ L ++ M, 0 ≤ v ∧ v < (nn : Int)) -> ∀ w, CmpN S g nn cp bx gs w -> IntAt gs T w -> ∀ R : Ending -> World -> Prop,
 (∀ w' D, SortB S D -> D.Perm (L ++ M) -> IntI gs (P ++ (D ++ Q)) w w' -> R (.returned (.tuple #[])) w') ->
  Calls Tryz.prog 103 #[.slice (some ⟨gs, 0, none⟩) n c, .int .i64 (a : Int), .int .i64 (m : Int), .int .i64 (b : Int), .func (.func 44) #[] #[.pointer (some ⟨bx, 0, none⟩)]] w R
theorem qhj (S : List Int) (g nn cp bx gs n c k : Nat) (ih : qhq S g nn cp bx gs n c k) (hn1 : n ≤ 1000) (P L M Q T : List Int) (a m b : Nat) (hk : b - a ≤ k + 1) (hSy : Sym S P L M Q a m b T) (hL2 : 1 < L.length) (hM2 : 1 < M.length) (hn : b + Q.length = n) (hD : ∀ v ∈ L ++ M, 0 ≤ v ∧ v < (nn : Int)) (w : World) (hC : CmpN S g nn cp bx gs w) (hI : IntAt gs T w) (R : Ending -> World -> Prop)
 (hR : ∀ w' D, SortB S D -> D.Perm (L ++ M) -> IntI gs (P ++ (D ++ Q)) w w' -> R (.returned (.tuple #[])) w') :
 Calls Tryz.prog 103 #[.slice (some ⟨gs, 0, none⟩) n c, .int .i64 (a : Int), .int .i64 (m : Int), .int .i64 (b : Int), .func (.func 44) #[] #[.pointer (some ⟨bx, 0, none⟩)]] w R := by
 obtain ⟨HR, HC, HD, HSy, IH⟩ := lh5 hR hC hD hSy ih;have hl := q3n hSy;have hla := hSy.la;have hlm := hSy.lm;have hlb := hSy.lb;have HL := lh (And.intro hl (And.intro hla (And.intro hlm (And.intro hlb hn))));have hb1 : b ≤ n := by omega
 have ham : a + 1 < m := by omega
 have hmb : m + 1 < b := by omega
 have Hk := lh hk;have HI0 := lh (IntI.refl hI);obtain ⟨mid, hmid⟩ : ∃ mid : Nat, mid = (a + b) / 2 := ⟨_, rfl⟩;have emid : ((a : Int) + (b : Int)) / 2 = (mid : Int) := by omega
 have hm1 : 2 * mid ≤ a + b := by omega
 have hm2 : a + b < 2 * mid + 2 := by omega
 have e0 : ¬ (m : Int) - (a : Int) = 1 := by omega
 have e1 : ¬ (b : Int) - (m : Int) = 1 := by omega
 have e0b : ((m : Int) - (a : Int) == 1) = false := by simp; omega
 have e1b : ((b : Int) - (m : Int) == 1) = false := by simp; omega
 have b1 : a ≤ 1000 := by omega
 have b2 : m ≤ 1000 := by omega
 have b3 : b ≤ 1000 := by omega
 have b4 : mid ≤ 1000 := by omega
 obtain ⟨nn', hnn⟩ : ∃ nn' : Nat, nn' = mid + m := ⟨_, rfl⟩;have ennn : (mid : Int) + (m : Int) = (nn' : Int) := by omega
 have b5 : nn' ≤ 2000 := by omega
 have Hnn := lh hnn;obtain ⟨p, hp⟩ : ∃ p : Nat, p = nn' - 1 := ⟨_, rfl⟩;have ep : (nn' : Int) - 1 = (p : Int) := by omega
 have Hp := lh hp;obtain ⟨nb, hnb⟩ : ∃ nb : Nat, nb = nn' - b := ⟨_, rfl⟩;have enb : mid < m -> (nn' : Int) - (b : Int) = (nb : Int) := fun h => by omega
 have Hnb := lh hnb;have b6 : nb ≤ 1000 := by omega
 clear hR hC hD hSy ih hk hl hla hlm hlb hn hI hL2 hM2 hmid hnn hp hnb
 rcases Nat.lt_or_ge mid m with hc | hc
 ·have enb := enb hc;have hgt : (mid : Int) < (m : Int) := by omega
  go_enter Tryz.func103, Tryz.ntmps103
  go_upto_region 32 with fail
  have Hf : Hid (nb ≤ mid ∧ ∀ c : Nat, nb ≤ c -> c < mid -> a ≤ c ∧ c < m ∧ m ≤ p - c ∧ p - c < b ∧ c ≤ p) := lh (by
   have h1 := Hnn.out;have h2 := Hp.out;have h3 := Hnb.out;exact ⟨by omega, fun c h4 h5 => ⟨by omega, by omega, by omega, by omega, by omega⟩⟩)
  have hlohi := Hf.out.1;go_wp2
  go_loopg [20, 21] (mid - nb) (fun gh vi vj wr => ∃ (i j : Nat), nb ≤ i ∧ i ≤ j ∧ j ≤ mid ∧ gh = j - i ∧ vi = .int .i64 i ∧ vj = .int .i64 j ∧ Hid (nb < i -> ¬ wtS S (iAt T (i - 1)) < wtS S (iAt T (p - (i - 1)))) ∧ Hid (j < mid -> wtS S (iAt T j) < wtS S (iAt T (p - j))) ∧ Hid (IntI gs T w wr))
  case atStart => exact ⟨nb, mid, Nat.le_refl _, hlohi, Nat.le_refl _, rfl, rfl, rfl, lh (fun h => absurd h (by omega)), lh (fun h => absurd h (by omega)), HI0⟩
  case round =>
   clear HI0;obtain ⟨i, j, hi, hij, hj, hg, rfl, rfl, h1, h2, hT⟩ := hrel;have Hg := lh hg;clear hg
   by_cases hlt : i < j
   ·have k1 : (i : Int) < (j : Int) := by omega
    have b7 : j ≤ 1000 := by omega
    go_upto_region 35 with fail
    obtain ⟨h, hh⟩ : ∃ h : Nat, h = (i + j) / 2 := ⟨_, rfl⟩;have e3 : ((i : Int) + (j : Int)) / 2 = (h : Int) := by omega
    rw [e3];have hih : i ≤ h := by omega
    have hhj : h < j := by omega
    clear e3 hh;obtain ⟨f1, f2, f3, f4, f5⟩ := Hf.out.2 h (by omega) (by omega);obtain ⟨t, ht⟩ : ∃ t : Nat, t = p - h := ⟨_, rfl⟩;have e4 : (p : Int) - (h : Int) = (t : Int) := by omega
    rw [<- ht] at f3 f4;have c0 := hT.out.1.cell (k := h) (by have := HL.out; omega);have c1 := hT.out.1.cell (k := t) (by have := HL.out; omega);have lg := hT.out.1.lt;have hyD := HD.out _ (qa6 HSy.out (k := h) (by omega) (by omega));have hxD := HD.out _ (qa6 HSy.out (k := t) (by omega) (by omega));have HCr := lh (HC.out.keep hT.out.2.2);have n1 := lh (fun q : ¬ wtS S (iAt T h) < wtS S (iAt T t) => (fun _ => by rw [show h + 1 - 1 = h by omega, <- ht]; exact q : nb < h + 1 -> ¬ wtS S (iAt T (h + 1 - 1)) < wtS S (iAt T (p - (h + 1 - 1)))));have n2 := lh (fun q : wtS S (iAt T h) < wtS S (iAt T t) => (fun _ => by rw [<- ht]; exact q : h < mid -> wtS S (iAt T h) < wtS S (iAt T (p - h))));obtain ⟨u, hu⟩ := nmm (iAt T h);obtain ⟨y, hy⟩ := nmm (iAt T t);rw [<- hu] at c0 hyD;rw [<- hy] at c1 hxD;obtain ⟨Hu, Hy⟩ := lh2 hu hy;have hcm := q64 (S := S) (a := y) (b := u);obtain ⟨z, hz⟩ := nmm (cmpW S y u);rw [<- hz] at hcm;have Hcm := lh hcm
    have Hcall : Hid (∀ m, Calls Tryz.prog 44 #[.int .i64 y, .int .i64 u, .pointer (some ⟨bx, 0, none⟩)] (wr.drewN m) (fun e w' => e = .returned (.int .i64 z) ∧ ∃ k, w' = (wr.drewN m).drewN k)) := lh (fun m => by
     have := q45 S g nn cp bx y u (wr.drewN m) HCr.out.row HCr.out.len HCr.out.box hxD hyD
     rwa [<- hz] at this)
    have q1 : (0 : Int) ≤ (h : Int) := by omega
    have q2 : (h : Int) < (n : Int) := by omega
    have q3 : (0 : Int) ≤ (t : Int) := by omega
    have q4 : (t : Int) < (n : Int) := by omega
    have b8 : h ≤ 1000 := by omega
    have b9 : t ≤ 1000 := by omega
    clear hu hy hcm hz hyD hxD ht
    go_big_quiet ((exact Calls.quiet_of (Hcall.out _)))
    have HTq : Hid (IntI gs T w (wr.drewN nq)) := lh (hT.out.below (q2i wr nq));obtain ⟨wq, hwq⟩ := nmm (wr.drewN nq);rw [<- hwq] at HTq;rw [<- hwq];clear hwq c0 c1 lg hT HCr Hcall
    by_cases hzn : z < 0
    ·have hnew := lh (n2.out (by rw [<- Hy.out, <- Hu.out]; exact Hcm.out.1 hzn));simp only [decide_eq_true hzn, Bool.not_true];go_wp2
     go_roundg (h - i)
     case measure => have := Hg.out; omega
     case rel => exact ⟨i, h, by omega, by omega, by omega, rfl, rfl, rfl, h1, hnew, HTq⟩
    ·have hnew := lh (n1.out (by rw [<- Hy.out, <- Hu.out]; exact fun q => hzn (Hcm.out.2 q)));have q5 : (0 : Int) ≤ z := by omega
     simp only [decide_eq_false hzn, Bool.not_false];go_wp2
     go_roundg (j - (h + 1))
     case measure => have := Hg.out; omega
     case rel => exact ⟨h + 1, j, by omega, by omega, by omega, rfl, by go_num, rfl, hnew, h2, HTq⟩
   ·obtain rfl : i = j := by omega
    have k1 : ¬ (i : Int) < (i : Int) := by omega
    obtain ⟨e, he⟩ : ∃ e : Nat, e = nn' - i := ⟨_, rfl⟩
    have hen : a ≤ i ∧ i ≤ m ∧ m ≤ e ∧ e ≤ b ∧ i + e = mid + m := by
     have h1 := Hnn.out;have h3 := Hnb.out;omega
    have ee : (nn' : Int) - (i : Int) = (e : Int) := by have := Hnn.out; omega
    obtain ⟨L1, L2, M1, M2, hLL, hMM, hl1, hm1', hcr⟩ := qcz HSy.out (s := i) (e := e) ⟨hen.1, hen.2.1⟩ ⟨hen.2.2.1, hen.2.2.2.1⟩
     (fun h4 h5 => by
      have h6 := Hnn.out;have h7 := Hp.out;have h8 := Hnb.out;have h9 := h1.out (by omega)
      rwa [show p - (i - 1) = e by omega] at h9)
     (fun h4 h5 => by
      have h6 := Hnn.out;have h7 := Hp.out;have h8 := Hnb.out;have h9 := h2.out (by omega)
      rwa [show p - i = e - 1 by omega] at h9)
    obtain ⟨Hcr, Hen, HLL, HMM, Hl1, Hm1⟩ := lh6 hcr hen hLL hMM hl1 hm1';clear h1 h2 he hcr hen hLL hMM hl1 hm1';have b7 : i ≤ 1000 := by omega
    have hG0 : Rot (P ++ (L1 ++ (M1 ++ (L2 ++ (M2 ++ Q))))) m (m - i) (e - m) T := ⟨P ++ L1, L2, M1, M2 ++ Q, by rw [HSy.out.eq, HLL.out, HMM.out]; simp only [List.append_assoc], by have h1 := HL.out; have h2 := Hl1.out; have h3 := congrArg List.length HLL.out; rw [List.length_append] at h3 ⊢; omega, by have h1 := HL.out; have h2 := Hl1.out; have h3 := congrArg List.length HLL.out; rw [List.length_append] at h3; omega, by have := Hm1.out; omega, by simp only [List.append_assoc]⟩;obtain ⟨G, hG⟩ : ∃ G, G = P ++ (L1 ++ (M1 ++ (L2 ++ (M2 ++ Q)))) := ⟨_, rfl⟩;rw [<- hG] at hG0;obtain ⟨HG, Hrot⟩ := lh2 hG hG0;have hlen : L1.length + L2.length = L.length ∧ M1.length + M2.length = M.length := by rw [HLL.out, HMM.out, List.length_append, List.length_append]; exact ⟨rfl, rfl⟩
    have Hlen := lh hlen;have hsl := HSy.out.sl;have hsm := HSy.out.sm;have hle := HSy.out.le;rw [HLL.out] at hsl hle;rw [HMM.out] at hsm hle;have hsl2 := List.pairwise_append.1 hsl;have hsm2 := List.pairwise_append.1 hsm;have HS1 : Hid (Sym S P L1 M1 (L2 ++ (M2 ++ Q)) a i mid G) := lh ⟨HG.out, HL.out.2.1, Hl1.out, by have := Hm1.out; have := Hen.out; omega, hsl2.1, hsm2.1, fun x hx y hy => hle x (List.mem_append_left _ hx) y (List.mem_append_left _ hy)⟩;have HS2 : Hid (∀ A : List Int, A.length = L1.length + M1.length -> Sym S (P ++ A) L2 M2 Q mid e b (P ++ (A ++ (L2 ++ (M2 ++ Q))))) := lh fun A hA => ⟨by rw [List.append_assoc], by rw [List.length_append, hA]; have h1 := Hl1.out; have h2 := Hm1.out; have h3 := Hen.out; have h4 := HL.out; omega, by have h1 := Hl1.out; have h2 := Hm1.out; have h3 := Hen.out; have h4 := HL.out; have h5 := Hlen.out; omega, by have h1 := Hl1.out; have h2 := Hm1.out; have h3 := Hen.out; have h4 := HL.out; have h5 := Hlen.out; omega, hsl2.2.1, hsm2.2.1, fun x hx y hy => hle x (List.mem_append_right _ hx) y (List.mem_append_right _ hy)⟩;have HD1 : Hid (∀ v ∈ L1 ++ M1, 0 ≤ v ∧ v < (nn : Int)) := lh fun v hv => HD.out v (by rw [HLL.out, HMM.out]; rcases List.mem_append.1 hv with h | h <;> simp [h])
    have HD2 : Hid (∀ v ∈ L2 ++ M2, 0 ≤ v ∧ v < (nn : Int)) := lh fun v hv => HD.out v (by rw [HLL.out, HMM.out]; rcases List.mem_append.1 hv with h | h <;> simp [h])
    have HZ : Hid (∀ A B w9, SortB S A -> A.Perm (L1 ++ M1) -> SortB S B -> B.Perm (L2 ++ M2) -> IntI gs ((P ++ A) ++ (B ++ Q)) w w9 -> R (.returned (.tuple #[])) w9) := lh fun A B w9 h1 h2 h3 h4 h5 => by
     have h6 := qfr Hcr.out h1 h2 h3 h4;refine HR.out w9 (A ++ B) h6.1 (by rw [HLL.out, HMM.out]; exact h6.2) ?_;simpa only [List.append_assoc] using h5
    have HTG : Hid (T.length = n) := lh (by have := HL.out; omega);clear hG0 hG hlen hsl hsm hle hsl2 hsm2;have hen := Hen.out
    rcases (show (i < m ∧ m < e ∧ a < i ∧ e < b) ∨ (i < m ∧ m < e ∧ a < i ∧ ¬ e < b) ∨ (i < m ∧ m < e ∧ ¬ a < i ∧ e < b) ∨ (i < m ∧ m < e ∧ ¬ a < i ∧ ¬ e < b) ∨ (¬ i < m ∧ m < e ∧ a < i ∧ e < b) ∨ (¬ i < m ∧ m < e ∧ a < i ∧ ¬ e < b) ∨ (i < m ∧ ¬ m < e ∧ a < i ∧ e < b) ∨ (i < m ∧ ¬ m < e ∧ ¬ a < i ∧ e < b) ∨ (¬ i < m ∧ ¬ m < e ∧ a < i ∧ e < b) by omega) with ⟨z1, z2, z3, z4⟩ | ⟨z1, z2, z3, z4⟩ | ⟨z1, z2, z3, z4⟩ | ⟨z1, z2, z3, z4⟩ | ⟨z1, z2, z3, z4⟩ | ⟨z1, z2, z3, z4⟩ | ⟨z1, z2, z3, z4⟩ | ⟨z1, z2, z3, z4⟩ | ⟨z1, z2, z3, z4⟩
    ·have y1 : (i : Int) < (m : Int) := by omega
     have y2 : (m : Int) < (e : Int) := by omega
     have y3 : (a : Int) < (i : Int) := by omega
     have y4 : (e : Int) < (b : Int) := by omega
     have y5 : (i : Int) < (mid : Int) := by omega
     have y6 : (mid : Int) < (e : Int) := by omega
     clear hen
     go_wp2_with fail
     refine q1a gs n c T G HTG.out i m e z1 z2 hn1 Hrot.out _ _ hT.out.1 _ (fun w2 h2 => ?_);have mid2 := lh (hT.out.trans h2);clear h2
     go_wp2_with fail
     refine IH.out P L1 M1 (L2 ++ (M2 ++ Q)) G a i mid (by have := Hk.out; omega) HS1.out (by have := Hl1.out; omega) (by have := Hm1.out; omega) (by have h1 := HS1.out.lb; have h2 := q3n HS1.out; have h3 := (q3j Hrot.out).1; have h4 := HTG.out; omega) HD1.out _ (HC.out.keep mid2.out.2.2) mid2.out.1 _ (fun w3 A hA pA h3 => ?_);have mid3 : Hid (IntI gs (P ++ (A ++ (L2 ++ (M2 ++ Q)))) w w3) := lh (mid2.out.trans h3);have hAl : A.length = L1.length + M1.length := by rw [pA.length_eq, List.length_append]
     have HS3 := lh (HS2.out A hAl);have HA := lh (And.intro hA pA);clear hA pA hAl
     go_wp2_with fail
     refine IH.out (P ++ A) L2 M2 Q _ mid e b (by have := Hk.out; omega) HS3.out (by have := HS3.out.lm; omega) (by have := HS3.out.lb; omega) HL.out.2.2.2.2 HD2.out _ (HC.out.keep mid3.out.2.2) mid3.out.1 _ (fun w4 B hB pB h4 => ?_);have hfin := lh (HZ.out A B w4 HA.out.1 HA.out.2 hB pB (mid3.out.trans h4));clear hB pB h4;go_wp2
     all_goals first | exact hfin.out | (go_end0; exact hfin.out) | (refine bodyPost_ret (results_none rfl _ _ _) rfl ?_; first | done | exact hfin.out)
    ·have y1 : (i : Int) < (m : Int) := by omega
     have y2 : (m : Int) < (e : Int) := by omega
     have y3 : (a : Int) < (i : Int) := by omega
     have y4 : ¬ (e : Int) < (b : Int) := by omega
     have y5 : (i : Int) < (mid : Int) := by omega
     have y6 : (mid : Int) < (e : Int) := by omega
     clear hen
     go_wp2_with fail
     refine q1a gs n c T G HTG.out i m e z1 z2 hn1 Hrot.out _ _ hT.out.1 _ (fun w2 h2 => ?_);have mid2 := lh (hT.out.trans h2);clear h2
     go_wp2_with fail
     refine IH.out P L1 M1 (L2 ++ (M2 ++ Q)) G a i mid (by have := Hk.out; omega) HS1.out (by have := Hl1.out; omega) (by have := Hm1.out; omega) (by have h1 := HS1.out.lb; have h2 := q3n HS1.out; have h3 := (q3j Hrot.out).1; have h4 := HTG.out; omega) HD1.out _ (HC.out.keep mid2.out.2.2) mid2.out.1 _ (fun w3 A hA pA h3 => ?_);have mid3 : Hid (IntI gs (P ++ (A ++ (L2 ++ (M2 ++ Q)))) w w3) := lh (mid2.out.trans h3);have hAl : A.length = L1.length + M1.length := by rw [pA.length_eq, List.length_append]
     have HS3 := lh (HS2.out A hAl);have HA := lh (And.intro hA pA);clear hA pA hAl;have hfin := lh (HZ.out A (L2 ++ M2) _ HA.out.1 HA.out.2 (q06 HS3.out (by omega)) (List.Perm.refl _) (by have := mid3.out; simpa only [List.append_assoc] using this));go_wp2
     all_goals first | exact hfin.out | (go_end0; exact hfin.out) | (refine bodyPost_ret (results_none rfl _ _ _) rfl ?_; first | done | exact hfin.out)
    ·have y1 : (i : Int) < (m : Int) := by omega
     have y2 : (m : Int) < (e : Int) := by omega
     have y3 : ¬ (a : Int) < (i : Int) := by omega
     have y4 : (e : Int) < (b : Int) := by omega
     have y5 : (i : Int) < (mid : Int) := by omega
     have y6 : (mid : Int) < (e : Int) := by omega
     clear hen
     go_wp2_with fail
     refine q1a gs n c T G HTG.out i m e z1 z2 hn1 Hrot.out _ _ hT.out.1 _ (fun w2 h2 => ?_);have mid2 := lh (hT.out.trans h2);clear h2;have mid3 : Hid (∃ A, A = L1 ++ M1) := lh ⟨_, rfl⟩;obtain ⟨A, hA0⟩ := mid3.out;have hA : SortB S A := by rw [hA0]; exact q06 HS1.out (by omega)
     have pA : A.Perm (L1 ++ M1) := by rw [hA0]
     have mid3 : Hid (∃ w9, IntI gs (P ++ (A ++ (L2 ++ (M2 ++ Q)))) w w9 ∧ w9 = w2) := lh ⟨_, by rw [hA0, List.append_assoc, <- HG.out]; exact mid2.out, rfl⟩;have mid3 : Hid (IntI gs (P ++ (A ++ (L2 ++ (M2 ++ Q)))) w w2) := lh (by obtain ⟨w9, h8, h9⟩ := mid3.out; rw [<- h9]; exact h8);have hAl : A.length = L1.length + M1.length := by rw [pA.length_eq, List.length_append]
     have HS3 := lh (HS2.out A hAl);have HA := lh (And.intro hA pA);clear hA pA hAl
     go_wp2_with fail
     refine IH.out (P ++ A) L2 M2 Q _ mid e b (by have := Hk.out; omega) HS3.out (by have := HS3.out.lm; omega) (by have := HS3.out.lb; omega) HL.out.2.2.2.2 HD2.out _ (HC.out.keep mid3.out.2.2) mid3.out.1 _ (fun w4 B hB pB h4 => ?_);have hfin := lh (HZ.out A B w4 HA.out.1 HA.out.2 hB pB (mid3.out.trans h4));clear hB pB h4;go_wp2
     all_goals first | exact hfin.out | (go_end0; exact hfin.out) | (refine bodyPost_ret (results_none rfl _ _ _) rfl ?_; first | done | exact hfin.out)
    ·have y1 : (i : Int) < (m : Int) := by omega
     have y2 : (m : Int) < (e : Int) := by omega
     have y3 : ¬ (a : Int) < (i : Int) := by omega
     have y4 : ¬ (e : Int) < (b : Int) := by omega
     have y5 : (i : Int) < (mid : Int) := by omega
     have y6 : (mid : Int) < (e : Int) := by omega
     clear hen
     go_wp2_with fail
     refine q1a gs n c T G HTG.out i m e z1 z2 hn1 Hrot.out _ _ hT.out.1 _ (fun w2 h2 => ?_);have mid2 := lh (hT.out.trans h2);clear h2;have mid3 : Hid (∃ A, A = L1 ++ M1) := lh ⟨_, rfl⟩;obtain ⟨A, hA0⟩ := mid3.out;have hA : SortB S A := by rw [hA0]; exact q06 HS1.out (by omega)
     have pA : A.Perm (L1 ++ M1) := by rw [hA0]
     have mid3 : Hid (∃ w9, IntI gs (P ++ (A ++ (L2 ++ (M2 ++ Q)))) w w9 ∧ w9 = w2) := lh ⟨_, by rw [hA0, List.append_assoc, <- HG.out]; exact mid2.out, rfl⟩;have mid3 : Hid (IntI gs (P ++ (A ++ (L2 ++ (M2 ++ Q)))) w w2) := lh (by obtain ⟨w9, h8, h9⟩ := mid3.out; rw [<- h9]; exact h8);have hAl : A.length = L1.length + M1.length := by rw [pA.length_eq, List.length_append]
     have HS3 := lh (HS2.out A hAl);have HA := lh (And.intro hA pA);clear hA pA hAl;have hfin := lh (HZ.out A (L2 ++ M2) _ HA.out.1 HA.out.2 (q06 HS3.out (by omega)) (List.Perm.refl _) (by have := mid3.out; simpa only [List.append_assoc] using this));go_wp2
     all_goals first | exact hfin.out | (go_end0; exact hfin.out) | (refine bodyPost_ret (results_none rfl _ _ _) rfl ?_; first | done | exact hfin.out)
    ·have y1 : ¬ (i : Int) < (m : Int) := by omega
     have y2 : (m : Int) < (e : Int) := by omega
     have y3 : (a : Int) < (i : Int) := by omega
     have y4 : (e : Int) < (b : Int) := by omega
     have y5 : (i : Int) < (mid : Int) := by omega
     have y6 : ¬ (mid : Int) < (e : Int) := by omega
     clear hen
     have mid2 : Hid (IntI gs G w wr) := lh (by
      have h1 := q3y Hrot.out (by omega);rw [<- h1];exact hT.out)
     go_wp2_with fail
     refine IH.out P L1 M1 (L2 ++ (M2 ++ Q)) G a i mid (by have := Hk.out; omega) HS1.out (by have := Hl1.out; omega) (by have := Hm1.out; omega) (by have h1 := HS1.out.lb; have h2 := q3n HS1.out; have h3 := (q3j Hrot.out).1; have h4 := HTG.out; omega) HD1.out _ (HC.out.keep mid2.out.2.2) mid2.out.1 _ (fun w3 A hA pA h3 => ?_);have mid3 : Hid (IntI gs (P ++ (A ++ (L2 ++ (M2 ++ Q)))) w w3) := lh (mid2.out.trans h3);have hAl : A.length = L1.length + M1.length := by rw [pA.length_eq, List.length_append]
     have HS3 := lh (HS2.out A hAl);have HA := lh (And.intro hA pA);clear hA pA hAl;have hfin := lh (HZ.out A (L2 ++ M2) _ HA.out.1 HA.out.2 (q06 HS3.out (by omega)) (List.Perm.refl _) (by have := mid3.out; simpa only [List.append_assoc] using this));go_wp2
     all_goals first | exact hfin.out | (go_end0; exact hfin.out) | (refine bodyPost_ret (results_none rfl _ _ _) rfl ?_; first | done | exact hfin.out)
    ·have y1 : ¬ (i : Int) < (m : Int) := by omega
     have y2 : (m : Int) < (e : Int) := by omega
     have y3 : (a : Int) < (i : Int) := by omega
     have y4 : ¬ (e : Int) < (b : Int) := by omega
     have y5 : (i : Int) < (mid : Int) := by omega
     have y6 : ¬ (mid : Int) < (e : Int) := by omega
     clear hen
     have mid2 : Hid (IntI gs G w wr) := lh (by
      have h1 := q3y Hrot.out (by omega);rw [<- h1];exact hT.out)
     go_wp2_with fail
     refine IH.out P L1 M1 (L2 ++ (M2 ++ Q)) G a i mid (by have := Hk.out; omega) HS1.out (by have := Hl1.out; omega) (by have := Hm1.out; omega) (by have h1 := HS1.out.lb; have h2 := q3n HS1.out; have h3 := (q3j Hrot.out).1; have h4 := HTG.out; omega) HD1.out _ (HC.out.keep mid2.out.2.2) mid2.out.1 _ (fun w3 A hA pA h3 => ?_);have mid3 : Hid (IntI gs (P ++ (A ++ (L2 ++ (M2 ++ Q)))) w w3) := lh (mid2.out.trans h3);have hAl : A.length = L1.length + M1.length := by rw [pA.length_eq, List.length_append]
     have HS3 := lh (HS2.out A hAl);have HA := lh (And.intro hA pA);clear hA pA hAl;have hfin := lh (HZ.out A (L2 ++ M2) _ HA.out.1 HA.out.2 (q06 HS3.out (by omega)) (List.Perm.refl _) (by have := mid3.out; simpa only [List.append_assoc] using this));go_wp2
     all_goals first | exact hfin.out | (go_end0; exact hfin.out) | (refine bodyPost_ret (results_none rfl _ _ _) rfl ?_; first | done | exact hfin.out)
    ·have y1 : (i : Int) < (m : Int) := by omega
     have y2 : ¬ (m : Int) < (e : Int) := by omega
     have y3 : (a : Int) < (i : Int) := by omega
     have y4 : (e : Int) < (b : Int) := by omega
     have y5 : ¬ (i : Int) < (mid : Int) := by omega
     have y6 : (mid : Int) < (e : Int) := by omega
     clear hen
     have mid2 : Hid (IntI gs G w wr) := lh (by
      have h1 := q3y Hrot.out (by omega);rw [<- h1];exact hT.out)
     have mid3 : Hid (∃ A, A = L1 ++ M1) := lh ⟨_, rfl⟩;obtain ⟨A, hA0⟩ := mid3.out;have hA : SortB S A := by rw [hA0]; exact q06 HS1.out (by omega)
     have pA : A.Perm (L1 ++ M1) := by rw [hA0]
     have mid3 : Hid (∃ w9, IntI gs (P ++ (A ++ (L2 ++ (M2 ++ Q)))) w w9 ∧ w9 = wr) := lh ⟨_, by rw [hA0, List.append_assoc, <- HG.out]; exact mid2.out, rfl⟩;have mid3 : Hid (IntI gs (P ++ (A ++ (L2 ++ (M2 ++ Q)))) w wr) := lh (by obtain ⟨w9, h8, h9⟩ := mid3.out; rw [<- h9]; exact h8);have hAl : A.length = L1.length + M1.length := by rw [pA.length_eq, List.length_append]
     have HS3 := lh (HS2.out A hAl);have HA := lh (And.intro hA pA);clear hA pA hAl
     go_wp2_with fail
     refine IH.out (P ++ A) L2 M2 Q _ mid e b (by have := Hk.out; omega) HS3.out (by have := HS3.out.lm; omega) (by have := HS3.out.lb; omega) HL.out.2.2.2.2 HD2.out _ (HC.out.keep mid3.out.2.2) mid3.out.1 _ (fun w4 B hB pB h4 => ?_);have hfin := lh (HZ.out A B w4 HA.out.1 HA.out.2 hB pB (mid3.out.trans h4));clear hB pB h4;go_wp2
     all_goals first | exact hfin.out | (go_end0; exact hfin.out) | (refine bodyPost_ret (results_none rfl _ _ _) rfl ?_; first | done | exact hfin.out)
    ·have y1 : (i : Int) < (m : Int) := by omega
     have y2 : ¬ (m : Int) < (e : Int) := by omega
     have y3 : ¬ (a : Int) < (i : Int) := by omega
     have y4 : (e : Int) < (b : Int) := by omega
     have y5 : ¬ (i : Int) < (mid : Int) := by omega
     have y6 : (mid : Int) < (e : Int) := by omega
     clear hen
     have mid2 : Hid (IntI gs G w wr) := lh (by
      have h1 := q3y Hrot.out (by omega);rw [<- h1];exact hT.out)
     have mid3 : Hid (∃ A, A = L1 ++ M1) := lh ⟨_, rfl⟩;obtain ⟨A, hA0⟩ := mid3.out;have hA : SortB S A := by rw [hA0]; exact q06 HS1.out (by omega)
     have pA : A.Perm (L1 ++ M1) := by rw [hA0]
     have mid3 : Hid (∃ w9, IntI gs (P ++ (A ++ (L2 ++ (M2 ++ Q)))) w w9 ∧ w9 = wr) := lh ⟨_, by rw [hA0, List.append_assoc, <- HG.out]; exact mid2.out, rfl⟩;have mid3 : Hid (IntI gs (P ++ (A ++ (L2 ++ (M2 ++ Q)))) w wr) := lh (by obtain ⟨w9, h8, h9⟩ := mid3.out; rw [<- h9]; exact h8);have hAl : A.length = L1.length + M1.length := by rw [pA.length_eq, List.length_append]
     have HS3 := lh (HS2.out A hAl);have HA := lh (And.intro hA pA);clear hA pA hAl
     go_wp2_with fail
     refine IH.out (P ++ A) L2 M2 Q _ mid e b (by have := Hk.out; omega) HS3.out (by have := HS3.out.lm; omega) (by have := HS3.out.lb; omega) HL.out.2.2.2.2 HD2.out _ (HC.out.keep mid3.out.2.2) mid3.out.1 _ (fun w4 B hB pB h4 => ?_);have hfin := lh (HZ.out A B w4 HA.out.1 HA.out.2 hB pB (mid3.out.trans h4));clear hB pB h4;go_wp2
     all_goals first | exact hfin.out | (go_end0; exact hfin.out) | (refine bodyPost_ret (results_none rfl _ _ _) rfl ?_; first | done | exact hfin.out)
    ·have y1 : ¬ (i : Int) < (m : Int) := by omega
     have y2 : ¬ (m : Int) < (e : Int) := by omega
     have y3 : (a : Int) < (i : Int) := by omega
     have y4 : (e : Int) < (b : Int) := by omega
     have y5 : ¬ (i : Int) < (mid : Int) := by omega
     have y6 : ¬ (mid : Int) < (e : Int) := by omega
     clear hen
     have mid2 : Hid (IntI gs G w wr) := lh (by
      have h1 := q3y Hrot.out (by omega);rw [<- h1];exact hT.out)
     have mid3 : Hid (∃ A, A = L1 ++ M1) := lh ⟨_, rfl⟩;obtain ⟨A, hA0⟩ := mid3.out;have hA : SortB S A := by rw [hA0]; exact q06 HS1.out (by omega)
     have pA : A.Perm (L1 ++ M1) := by rw [hA0]
     have mid3 : Hid (∃ w9, IntI gs (P ++ (A ++ (L2 ++ (M2 ++ Q)))) w w9 ∧ w9 = wr) := lh ⟨_, by rw [hA0, List.append_assoc, <- HG.out]; exact mid2.out, rfl⟩;have mid3 : Hid (IntI gs (P ++ (A ++ (L2 ++ (M2 ++ Q)))) w wr) := lh (by obtain ⟨w9, h8, h9⟩ := mid3.out; rw [<- h9]; exact h8);have hAl : A.length = L1.length + M1.length := by rw [pA.length_eq, List.length_append]
     have HS3 := lh (HS2.out A hAl);have HA := lh (And.intro hA pA);clear hA pA hAl;have hfin := lh (HZ.out A (L2 ++ M2) _ HA.out.1 HA.out.2 (q06 HS3.out (by omega)) (List.Perm.refl _) (by have := mid3.out; simpa only [List.append_assoc] using this));go_wp2
     all_goals first | exact hfin.out | (go_end0; exact hfin.out) | (refine bodyPost_ret (results_none rfl _ _ _) rfl ?_; first | done | exact hfin.out)
 ·have hgt : ¬ (mid : Int) < (m : Int) := by omega
  go_enter Tryz.func103, Tryz.ntmps103
  go_upto_region 32 with fail
  have Hf : Hid (a ≤ m ∧ ∀ c : Nat, a ≤ c -> c < m -> a ≤ c ∧ c < m ∧ m ≤ p - c ∧ p - c < b ∧ c ≤ p) := lh (by
   have h1 := Hnn.out;have h2 := Hp.out;have h3 := Hnb.out;exact ⟨by omega, fun c h4 h5 => ⟨by omega, by omega, by omega, by omega, by omega⟩⟩)
  have hlohi := Hf.out.1;go_wp2
  go_loopg [20, 21] (m - a) (fun gh vi vj wr => ∃ (i j : Nat), a ≤ i ∧ i ≤ j ∧ j ≤ m ∧ gh = j - i ∧ vi = .int .i64 i ∧ vj = .int .i64 j ∧ Hid (a < i -> ¬ wtS S (iAt T (i - 1)) < wtS S (iAt T (p - (i - 1)))) ∧ Hid (j < m -> wtS S (iAt T j) < wtS S (iAt T (p - j))) ∧ Hid (IntI gs T w wr))
  case atStart => exact ⟨a, m, Nat.le_refl _, hlohi, Nat.le_refl _, rfl, rfl, rfl, lh (fun h => absurd h (by omega)), lh (fun h => absurd h (by omega)), HI0⟩
  case round =>
   clear HI0;obtain ⟨i, j, hi, hij, hj, hg, rfl, rfl, h1, h2, hT⟩ := hrel;have Hg := lh hg;clear hg
   by_cases hlt : i < j
   ·have k1 : (i : Int) < (j : Int) := by omega
    have b7 : j ≤ 1000 := by omega
    go_upto_region 35 with fail
    obtain ⟨h, hh⟩ : ∃ h : Nat, h = (i + j) / 2 := ⟨_, rfl⟩;have e3 : ((i : Int) + (j : Int)) / 2 = (h : Int) := by omega
    rw [e3];have hih : i ≤ h := by omega
    have hhj : h < j := by omega
    clear e3 hh;obtain ⟨f1, f2, f3, f4, f5⟩ := Hf.out.2 h (by omega) (by omega);obtain ⟨t, ht⟩ : ∃ t : Nat, t = p - h := ⟨_, rfl⟩;have e4 : (p : Int) - (h : Int) = (t : Int) := by omega
    rw [<- ht] at f3 f4;have c0 := hT.out.1.cell (k := h) (by have := HL.out; omega);have c1 := hT.out.1.cell (k := t) (by have := HL.out; omega);have lg := hT.out.1.lt;have hyD := HD.out _ (qa6 HSy.out (k := h) (by omega) (by omega));have hxD := HD.out _ (qa6 HSy.out (k := t) (by omega) (by omega));have HCr := lh (HC.out.keep hT.out.2.2);have n1 := lh (fun q : ¬ wtS S (iAt T h) < wtS S (iAt T t) => (fun _ => by rw [show h + 1 - 1 = h by omega, <- ht]; exact q : a < h + 1 -> ¬ wtS S (iAt T (h + 1 - 1)) < wtS S (iAt T (p - (h + 1 - 1)))));have n2 := lh (fun q : wtS S (iAt T h) < wtS S (iAt T t) => (fun _ => by rw [<- ht]; exact q : h < m -> wtS S (iAt T h) < wtS S (iAt T (p - h))));obtain ⟨u, hu⟩ := nmm (iAt T h);obtain ⟨y, hy⟩ := nmm (iAt T t);rw [<- hu] at c0 hyD;rw [<- hy] at c1 hxD;obtain ⟨Hu, Hy⟩ := lh2 hu hy;have hcm := q64 (S := S) (a := y) (b := u);obtain ⟨z, hz⟩ := nmm (cmpW S y u);rw [<- hz] at hcm;have Hcm := lh hcm
    have Hcall : Hid (∀ m, Calls Tryz.prog 44 #[.int .i64 y, .int .i64 u, .pointer (some ⟨bx, 0, none⟩)] (wr.drewN m) (fun e w' => e = .returned (.int .i64 z) ∧ ∃ k, w' = (wr.drewN m).drewN k)) := lh (fun m => by
     have := q45 S g nn cp bx y u (wr.drewN m) HCr.out.row HCr.out.len HCr.out.box hxD hyD
     rwa [<- hz] at this)
    have q1 : (0 : Int) ≤ (h : Int) := by omega
    have q2 : (h : Int) < (n : Int) := by omega
    have q3 : (0 : Int) ≤ (t : Int) := by omega
    have q4 : (t : Int) < (n : Int) := by omega
    have b8 : h ≤ 1000 := by omega
    have b9 : t ≤ 1000 := by omega
    clear hu hy hcm hz hyD hxD ht
    go_big_quiet ((exact Calls.quiet_of (Hcall.out _)))
    have HTq : Hid (IntI gs T w (wr.drewN nq)) := lh (hT.out.below (q2i wr nq));obtain ⟨wq, hwq⟩ := nmm (wr.drewN nq);rw [<- hwq] at HTq;rw [<- hwq];clear hwq c0 c1 lg hT HCr Hcall
    by_cases hzn : z < 0
    ·have hnew := lh (n2.out (by rw [<- Hy.out, <- Hu.out]; exact Hcm.out.1 hzn));simp only [decide_eq_true hzn, Bool.not_true];go_wp2
     go_roundg (h - i)
     case measure => have := Hg.out; omega
     case rel => exact ⟨i, h, by omega, by omega, by omega, rfl, rfl, rfl, h1, hnew, HTq⟩
    ·have hnew := lh (n1.out (by rw [<- Hy.out, <- Hu.out]; exact fun q => hzn (Hcm.out.2 q)));have q5 : (0 : Int) ≤ z := by omega
     simp only [decide_eq_false hzn, Bool.not_false];go_wp2
     go_roundg (j - (h + 1))
     case measure => have := Hg.out; omega
     case rel => exact ⟨h + 1, j, by omega, by omega, by omega, rfl, by go_num, rfl, hnew, h2, HTq⟩
   ·obtain rfl : i = j := by omega
    have k1 : ¬ (i : Int) < (i : Int) := by omega
    obtain ⟨e, he⟩ : ∃ e : Nat, e = nn' - i := ⟨_, rfl⟩
    have hen : a ≤ i ∧ i ≤ m ∧ m ≤ e ∧ e ≤ b ∧ i + e = mid + m := by
     have h1 := Hnn.out;have h3 := Hnb.out;omega
    have ee : (nn' : Int) - (i : Int) = (e : Int) := by have := Hnn.out; omega
    obtain ⟨L1, L2, M1, M2, hLL, hMM, hl1, hm1', hcr⟩ := qcz HSy.out (s := i) (e := e) ⟨hen.1, hen.2.1⟩ ⟨hen.2.2.1, hen.2.2.2.1⟩
     (fun h4 h5 => by
      have h6 := Hnn.out;have h7 := Hp.out;have h8 := Hnb.out;have h9 := h1.out (by omega)
      rwa [show p - (i - 1) = e by omega] at h9)
     (fun h4 h5 => by
      have h6 := Hnn.out;have h7 := Hp.out;have h8 := Hnb.out;have h9 := h2.out (by omega)
      rwa [show p - i = e - 1 by omega] at h9)
    obtain ⟨Hcr, Hen, HLL, HMM, Hl1, Hm1⟩ := lh6 hcr hen hLL hMM hl1 hm1';clear h1 h2 he hcr hen hLL hMM hl1 hm1';have b7 : i ≤ 1000 := by omega
    have hG0 : Rot (P ++ (L1 ++ (M1 ++ (L2 ++ (M2 ++ Q))))) m (m - i) (e - m) T := ⟨P ++ L1, L2, M1, M2 ++ Q, by rw [HSy.out.eq, HLL.out, HMM.out]; simp only [List.append_assoc], by have h1 := HL.out; have h2 := Hl1.out; have h3 := congrArg List.length HLL.out; rw [List.length_append] at h3 ⊢; omega, by have h1 := HL.out; have h2 := Hl1.out; have h3 := congrArg List.length HLL.out; rw [List.length_append] at h3; omega, by have := Hm1.out; omega, by simp only [List.append_assoc]⟩;obtain ⟨G, hG⟩ : ∃ G, G = P ++ (L1 ++ (M1 ++ (L2 ++ (M2 ++ Q)))) := ⟨_, rfl⟩;rw [<- hG] at hG0;obtain ⟨HG, Hrot⟩ := lh2 hG hG0;have hlen : L1.length + L2.length = L.length ∧ M1.length + M2.length = M.length := by rw [HLL.out, HMM.out, List.length_append, List.length_append]; exact ⟨rfl, rfl⟩
    have Hlen := lh hlen;have hsl := HSy.out.sl;have hsm := HSy.out.sm;have hle := HSy.out.le;rw [HLL.out] at hsl hle;rw [HMM.out] at hsm hle;have hsl2 := List.pairwise_append.1 hsl;have hsm2 := List.pairwise_append.1 hsm;have HS1 : Hid (Sym S P L1 M1 (L2 ++ (M2 ++ Q)) a i mid G) := lh ⟨HG.out, HL.out.2.1, Hl1.out, by have := Hm1.out; have := Hen.out; omega, hsl2.1, hsm2.1, fun x hx y hy => hle x (List.mem_append_left _ hx) y (List.mem_append_left _ hy)⟩;have HS2 : Hid (∀ A : List Int, A.length = L1.length + M1.length -> Sym S (P ++ A) L2 M2 Q mid e b (P ++ (A ++ (L2 ++ (M2 ++ Q))))) := lh fun A hA => ⟨by rw [List.append_assoc], by rw [List.length_append, hA]; have h1 := Hl1.out; have h2 := Hm1.out; have h3 := Hen.out; have h4 := HL.out; omega, by have h1 := Hl1.out; have h2 := Hm1.out; have h3 := Hen.out; have h4 := HL.out; have h5 := Hlen.out; omega, by have h1 := Hl1.out; have h2 := Hm1.out; have h3 := Hen.out; have h4 := HL.out; have h5 := Hlen.out; omega, hsl2.2.1, hsm2.2.1, fun x hx y hy => hle x (List.mem_append_right _ hx) y (List.mem_append_right _ hy)⟩;have HD1 : Hid (∀ v ∈ L1 ++ M1, 0 ≤ v ∧ v < (nn : Int)) := lh fun v hv => HD.out v (by rw [HLL.out, HMM.out]; rcases List.mem_append.1 hv with h | h <;> simp [h])
    have HD2 : Hid (∀ v ∈ L2 ++ M2, 0 ≤ v ∧ v < (nn : Int)) := lh fun v hv => HD.out v (by rw [HLL.out, HMM.out]; rcases List.mem_append.1 hv with h | h <;> simp [h])
    have HZ : Hid (∀ A B w9, SortB S A -> A.Perm (L1 ++ M1) -> SortB S B -> B.Perm (L2 ++ M2) -> IntI gs ((P ++ A) ++ (B ++ Q)) w w9 -> R (.returned (.tuple #[])) w9) := lh fun A B w9 h1 h2 h3 h4 h5 => by
     have h6 := qfr Hcr.out h1 h2 h3 h4;refine HR.out w9 (A ++ B) h6.1 (by rw [HLL.out, HMM.out]; exact h6.2) ?_;simpa only [List.append_assoc] using h5
    have HTG : Hid (T.length = n) := lh (by have := HL.out; omega);clear hG0 hG hlen hsl hsm hle hsl2 hsm2;have hen := Hen.out
    rcases (show (i < m ∧ m < e ∧ a < i ∧ e < b) ∨ (i < m ∧ m < e ∧ a < i ∧ ¬ e < b) ∨ (i < m ∧ m < e ∧ ¬ a < i ∧ e < b) ∨ (i < m ∧ m < e ∧ ¬ a < i ∧ ¬ e < b) ∨ (¬ i < m ∧ m < e ∧ a < i ∧ e < b) ∨ (¬ i < m ∧ m < e ∧ a < i ∧ ¬ e < b) ∨ (i < m ∧ ¬ m < e ∧ a < i ∧ e < b) ∨ (i < m ∧ ¬ m < e ∧ ¬ a < i ∧ e < b) ∨ (¬ i < m ∧ ¬ m < e ∧ a < i ∧ e < b) by omega) with ⟨z1, z2, z3, z4⟩ | ⟨z1, z2, z3, z4⟩ | ⟨z1, z2, z3, z4⟩ | ⟨z1, z2, z3, z4⟩ | ⟨z1, z2, z3, z4⟩ | ⟨z1, z2, z3, z4⟩ | ⟨z1, z2, z3, z4⟩ | ⟨z1, z2, z3, z4⟩ | ⟨z1, z2, z3, z4⟩
    ·have y1 : (i : Int) < (m : Int) := by omega
     have y2 : (m : Int) < (e : Int) := by omega
     have y3 : (a : Int) < (i : Int) := by omega
     have y4 : (e : Int) < (b : Int) := by omega
     have y5 : (i : Int) < (mid : Int) := by omega
     have y6 : (mid : Int) < (e : Int) := by omega
     clear hen
     go_wp2_with fail
     refine q1a gs n c T G HTG.out i m e z1 z2 hn1 Hrot.out _ _ hT.out.1 _ (fun w2 h2 => ?_);have m2 := lh (hT.out.trans h2);clear h2
     go_wp2_with fail
     refine IH.out P L1 M1 (L2 ++ (M2 ++ Q)) G a i mid (by have := Hk.out; omega) HS1.out (by have := Hl1.out; omega) (by have := Hm1.out; omega) (by have h1 := HS1.out.lb; have h2 := q3n HS1.out; have h3 := (q3j Hrot.out).1; have h4 := HTG.out; omega) HD1.out _ (HC.out.keep m2.out.2.2) m2.out.1 _ (fun w3 A hA pA h3 => ?_);have m3 : Hid (IntI gs (P ++ (A ++ (L2 ++ (M2 ++ Q)))) w w3) := lh (m2.out.trans h3);have hAl : A.length = L1.length + M1.length := by rw [pA.length_eq, List.length_append]
     have HS3 := lh (HS2.out A hAl);have HA := lh (And.intro hA pA);clear hA pA hAl
     go_wp2_with fail
     refine IH.out (P ++ A) L2 M2 Q _ mid e b (by have := Hk.out; omega) HS3.out (by have := HS3.out.lm; omega) (by have := HS3.out.lb; omega) HL.out.2.2.2.2 HD2.out _ (HC.out.keep m3.out.2.2) m3.out.1 _ (fun w4 B hB pB h4 => ?_);have hfin := lh (HZ.out A B w4 HA.out.1 HA.out.2 hB pB (m3.out.trans h4));clear hB pB h4;go_wp2
     all_goals first | exact hfin.out | (go_end0; exact hfin.out) | (refine bodyPost_ret (results_none rfl _ _ _) rfl ?_; first | done | exact hfin.out)
    ·have y1 : (i : Int) < (m : Int) := by omega
     have y2 : (m : Int) < (e : Int) := by omega
     have y3 : (a : Int) < (i : Int) := by omega
     have y4 : ¬ (e : Int) < (b : Int) := by omega
     have y5 : (i : Int) < (mid : Int) := by omega
     have y6 : (mid : Int) < (e : Int) := by omega
     clear hen
     go_wp2_with fail
     refine q1a gs n c T G HTG.out i m e z1 z2 hn1 Hrot.out _ _ hT.out.1 _ (fun w2 h2 => ?_);have m2 := lh (hT.out.trans h2);clear h2
     go_wp2_with fail
     refine IH.out P L1 M1 (L2 ++ (M2 ++ Q)) G a i mid (by have := Hk.out; omega) HS1.out (by have := Hl1.out; omega) (by have := Hm1.out; omega) (by have h1 := HS1.out.lb; have h2 := q3n HS1.out; have h3 := (q3j Hrot.out).1; have h4 := HTG.out; omega) HD1.out _ (HC.out.keep m2.out.2.2) m2.out.1 _ (fun w3 A hA pA h3 => ?_);have m3 : Hid (IntI gs (P ++ (A ++ (L2 ++ (M2 ++ Q)))) w w3) := lh (m2.out.trans h3);have hAl : A.length = L1.length + M1.length := by rw [pA.length_eq, List.length_append]
     have HS3 := lh (HS2.out A hAl);have HA := lh (And.intro hA pA);clear hA pA hAl;have hfin := lh (HZ.out A (L2 ++ M2) _ HA.out.1 HA.out.2 (q06 HS3.out (by omega)) (List.Perm.refl _) (by have := m3.out; simpa only [List.append_assoc] using this));go_wp2
     all_goals first | exact hfin.out | (go_end0; exact hfin.out) | (refine bodyPost_ret (results_none rfl _ _ _) rfl ?_; first | done | exact hfin.out)
    ·have y1 : (i : Int) < (m : Int) := by omega
     have y2 : (m : Int) < (e : Int) := by omega
     have y3 : ¬ (a : Int) < (i : Int) := by omega
     have y4 : (e : Int) < (b : Int) := by omega
     have y5 : (i : Int) < (mid : Int) := by omega
     have y6 : (mid : Int) < (e : Int) := by omega
     clear hen
     go_wp2_with fail
     refine q1a gs n c T G HTG.out i m e z1 z2 hn1 Hrot.out _ _ hT.out.1 _ (fun w2 h2 => ?_);have m2 := lh (hT.out.trans h2);clear h2;have m3 : Hid (∃ A, A = L1 ++ M1) := lh ⟨_, rfl⟩;obtain ⟨A, hA0⟩ := m3.out;have hA : SortB S A := by rw [hA0]; exact q06 HS1.out (by omega)
     have pA : A.Perm (L1 ++ M1) := by rw [hA0]
     have m3 : Hid (∃ w9, IntI gs (P ++ (A ++ (L2 ++ (M2 ++ Q)))) w w9 ∧ w9 = w2) := lh ⟨_, by rw [hA0, List.append_assoc, <- HG.out]; exact m2.out, rfl⟩;have m3 : Hid (IntI gs (P ++ (A ++ (L2 ++ (M2 ++ Q)))) w w2) := lh (by obtain ⟨w9, h8, h9⟩ := m3.out; rw [<- h9]; exact h8);have hAl : A.length = L1.length + M1.length := by rw [pA.length_eq, List.length_append]
     have HS3 := lh (HS2.out A hAl);have HA := lh (And.intro hA pA);clear hA pA hAl
     go_wp2_with fail
     refine IH.out (P ++ A) L2 M2 Q _ mid e b (by have := Hk.out; omega) HS3.out (by have := HS3.out.lm; omega) (by have := HS3.out.lb; omega) HL.out.2.2.2.2 HD2.out _ (HC.out.keep m3.out.2.2) m3.out.1 _ (fun w4 B hB pB h4 => ?_);have hfin := lh (HZ.out A B w4 HA.out.1 HA.out.2 hB pB (m3.out.trans h4));clear hB pB h4;go_wp2
     all_goals first | exact hfin.out | (go_end0; exact hfin.out) | (refine bodyPost_ret (results_none rfl _ _ _) rfl ?_; first | done | exact hfin.out)
    ·have y1 : (i : Int) < (m : Int) := by omega
     have y2 : (m : Int) < (e : Int) := by omega
     have y3 : ¬ (a : Int) < (i : Int) := by omega
     have y4 : ¬ (e : Int) < (b : Int) := by omega
     have y5 : (i : Int) < (mid : Int) := by omega
     have y6 : (mid : Int) < (e : Int) := by omega
     clear hen
     go_wp2_with fail
     refine q1a gs n c T G HTG.out i m e z1 z2 hn1 Hrot.out _ _ hT.out.1 _ (fun w2 h2 => ?_);have m2 := lh (hT.out.trans h2);clear h2;have m3 : Hid (∃ A, A = L1 ++ M1) := lh ⟨_, rfl⟩;obtain ⟨A, hA0⟩ := m3.out;have hA : SortB S A := by rw [hA0]; exact q06 HS1.out (by omega)
     have pA : A.Perm (L1 ++ M1) := by rw [hA0]
     have m3 : Hid (∃ w9, IntI gs (P ++ (A ++ (L2 ++ (M2 ++ Q)))) w w9 ∧ w9 = w2) := lh ⟨_, by rw [hA0, List.append_assoc, <- HG.out]; exact m2.out, rfl⟩;have m3 : Hid (IntI gs (P ++ (A ++ (L2 ++ (M2 ++ Q)))) w w2) := lh (by obtain ⟨w9, h8, h9⟩ := m3.out; rw [<- h9]; exact h8);have hAl : A.length = L1.length + M1.length := by rw [pA.length_eq, List.length_append]
     have HS3 := lh (HS2.out A hAl);have HA := lh (And.intro hA pA);clear hA pA hAl;have hfin := lh (HZ.out A (L2 ++ M2) _ HA.out.1 HA.out.2 (q06 HS3.out (by omega)) (List.Perm.refl _) (by have := m3.out; simpa only [List.append_assoc] using this));go_wp2
     all_goals first | exact hfin.out | (go_end0; exact hfin.out) | (refine bodyPost_ret (results_none rfl _ _ _) rfl ?_; first | done | exact hfin.out)
    ·have y1 : ¬ (i : Int) < (m : Int) := by omega
     have y2 : (m : Int) < (e : Int) := by omega
     have y3 : (a : Int) < (i : Int) := by omega
     have y4 : (e : Int) < (b : Int) := by omega
     have y5 : (i : Int) < (mid : Int) := by omega
     have y6 : ¬ (mid : Int) < (e : Int) := by omega
     clear hen
     have m2 : Hid (IntI gs G w wr) := lh (by
      have h1 := q3y Hrot.out (by omega);rw [<- h1];exact hT.out)
     go_wp2_with fail
     refine IH.out P L1 M1 (L2 ++ (M2 ++ Q)) G a i mid (by have := Hk.out; omega) HS1.out (by have := Hl1.out; omega) (by have := Hm1.out; omega) (by have h1 := HS1.out.lb; have h2 := q3n HS1.out; have h3 := (q3j Hrot.out).1; have h4 := HTG.out; omega) HD1.out _ (HC.out.keep m2.out.2.2) m2.out.1 _ (fun w3 A hA pA h3 => ?_);have m3 : Hid (IntI gs (P ++ (A ++ (L2 ++ (M2 ++ Q)))) w w3) := lh (m2.out.trans h3);have hAl : A.length = L1.length + M1.length := by rw [pA.length_eq, List.length_append]
     have HS3 := lh (HS2.out A hAl);have HA := lh (And.intro hA pA);clear hA pA hAl;have hfin := lh (HZ.out A (L2 ++ M2) _ HA.out.1 HA.out.2 (q06 HS3.out (by omega)) (List.Perm.refl _) (by have := m3.out; simpa only [List.append_assoc] using this));go_wp2
     all_goals first | exact hfin.out | (go_end0; exact hfin.out) | (refine bodyPost_ret (results_none rfl _ _ _) rfl ?_; first | done | exact hfin.out)
    ·have y1 : ¬ (i : Int) < (m : Int) := by omega
     have y2 : (m : Int) < (e : Int) := by omega
     have y3 : (a : Int) < (i : Int) := by omega
     have y4 : ¬ (e : Int) < (b : Int) := by omega
     have y5 : (i : Int) < (mid : Int) := by omega
     have y6 : ¬ (mid : Int) < (e : Int) := by omega
     clear hen
     have m2 : Hid (IntI gs G w wr) := lh (by
      have h1 := q3y Hrot.out (by omega);rw [<- h1];exact hT.out)
     go_wp2_with fail
     refine IH.out P L1 M1 (L2 ++ (M2 ++ Q)) G a i mid (by have := Hk.out; omega) HS1.out (by have := Hl1.out; omega) (by have := Hm1.out; omega) (by have h1 := HS1.out.lb; have h2 := q3n HS1.out; have h3 := (q3j Hrot.out).1; have h4 := HTG.out; omega) HD1.out _ (HC.out.keep m2.out.2.2) m2.out.1 _ (fun w3 A hA pA h3 => ?_);have m3 : Hid (IntI gs (P ++ (A ++ (L2 ++ (M2 ++ Q)))) w w3) := lh (m2.out.trans h3);have hAl : A.length = L1.length + M1.length := by rw [pA.length_eq, List.length_append]
     have HS3 := lh (HS2.out A hAl);have HA := lh (And.intro hA pA);clear hA pA hAl;have hfin := lh (HZ.out A (L2 ++ M2) _ HA.out.1 HA.out.2 (q06 HS3.out (by omega)) (List.Perm.refl _) (by have := m3.out; simpa only [List.append_assoc] using this));go_wp2
     all_goals first | exact hfin.out | (go_end0; exact hfin.out) | (refine bodyPost_ret (results_none rfl _ _ _) rfl ?_; first | done | exact hfin.out)
    ·have y1 : (i : Int) < (m : Int) := by omega
     have y2 : ¬ (m : Int) < (e : Int) := by omega
     have y3 : (a : Int) < (i : Int) := by omega
     have y4 : (e : Int) < (b : Int) := by omega
     have y5 : ¬ (i : Int) < (mid : Int) := by omega
     have y6 : (mid : Int) < (e : Int) := by omega
     clear hen
     have m2 : Hid (IntI gs G w wr) := lh (by
      have h1 := q3y Hrot.out (by omega);rw [<- h1];exact hT.out)
     have m3 : Hid (∃ A, A = L1 ++ M1) := lh ⟨_, rfl⟩;obtain ⟨A, hA0⟩ := m3.out;have hA : SortB S A := by rw [hA0]; exact q06 HS1.out (by omega)
     have pA : A.Perm (L1 ++ M1) := by rw [hA0]
     have m3 : Hid (∃ w9, IntI gs (P ++ (A ++ (L2 ++ (M2 ++ Q)))) w w9 ∧ w9 = wr) := lh ⟨_, by rw [hA0, List.append_assoc, <- HG.out]; exact m2.out, rfl⟩;have m3 : Hid (IntI gs (P ++ (A ++ (L2 ++ (M2 ++ Q)))) w wr) := lh (by obtain ⟨w9, h8, h9⟩ := m3.out; rw [<- h9]; exact h8);have hAl : A.length = L1.length + M1.length := by rw [pA.length_eq, List.length_append]
     have HS3 := lh (HS2.out A hAl);have HA := lh (And.intro hA pA);clear hA pA hAl
     go_wp2_with fail
     refine IH.out (P ++ A) L2 M2 Q _ mid e b (by have := Hk.out; omega) HS3.out (by have := HS3.out.lm; omega) (by have := HS3.out.lb; omega) HL.out.2.2.2.2 HD2.out _ (HC.out.keep m3.out.2.2) m3.out.1 _ (fun w4 B hB pB h4 => ?_);have hfin := lh (HZ.out A B w4 HA.out.1 HA.out.2 hB pB (m3.out.trans h4));clear hB pB h4;go_wp2
     all_goals first | exact hfin.out | (go_end0; exact hfin.out) | (refine bodyPost_ret (results_none rfl _ _ _) rfl ?_; first | done | exact hfin.out)
    ·have y1 : (i : Int) < (m : Int) := by omega
     have y2 : ¬ (m : Int) < (e : Int) := by omega
     have y3 : ¬ (a : Int) < (i : Int) := by omega
     have y4 : (e : Int) < (b : Int) := by omega
     have y5 : ¬ (i : Int) < (mid : Int) := by omega
     have y6 : (mid : Int) < (e : Int) := by omega
     clear hen
     have m2 : Hid (IntI gs G w wr) := lh (by
      have h1 := q3y Hrot.out (by omega);rw [<- h1];exact hT.out)
     have m3 : Hid (∃ A, A = L1 ++ M1) := lh ⟨_, rfl⟩;obtain ⟨A, hA0⟩ := m3.out;have hA : SortB S A := by rw [hA0]; exact q06 HS1.out (by omega)
     have pA : A.Perm (L1 ++ M1) := by rw [hA0]
     have m3 : Hid (∃ w9, IntI gs (P ++ (A ++ (L2 ++ (M2 ++ Q)))) w w9 ∧ w9 = wr) := lh ⟨_, by rw [hA0, List.append_assoc, <- HG.out]; exact m2.out, rfl⟩;have m3 : Hid (IntI gs (P ++ (A ++ (L2 ++ (M2 ++ Q)))) w wr) := lh (by obtain ⟨w9, h8, h9⟩ := m3.out; rw [<- h9]; exact h8);have hAl : A.length = L1.length + M1.length := by rw [pA.length_eq, List.length_append]
     have HS3 := lh (HS2.out A hAl);have HA := lh (And.intro hA pA);clear hA pA hAl
     go_wp2_with fail
     refine IH.out (P ++ A) L2 M2 Q _ mid e b (by have := Hk.out; omega) HS3.out (by have := HS3.out.lm; omega) (by have := HS3.out.lb; omega) HL.out.2.2.2.2 HD2.out _ (HC.out.keep m3.out.2.2) m3.out.1 _ (fun w4 B hB pB h4 => ?_);have hfin := lh (HZ.out A B w4 HA.out.1 HA.out.2 hB pB (m3.out.trans h4));clear hB pB h4;go_wp2
     all_goals first | exact hfin.out | (go_end0; exact hfin.out) | (refine bodyPost_ret (results_none rfl _ _ _) rfl ?_; first | done | exact hfin.out)
    ·have y1 : ¬ (i : Int) < (m : Int) := by omega
     have y2 : ¬ (m : Int) < (e : Int) := by omega
     have y3 : (a : Int) < (i : Int) := by omega
     have y4 : (e : Int) < (b : Int) := by omega
     have y5 : ¬ (i : Int) < (mid : Int) := by omega
     have y6 : ¬ (mid : Int) < (e : Int) := by omega
     clear hen
     have m2 : Hid (IntI gs G w wr) := lh (by
      have h1 := q3y Hrot.out (by omega);rw [<- h1];exact hT.out)
     have m3 : Hid (∃ A, A = L1 ++ M1) := lh ⟨_, rfl⟩;obtain ⟨A, hA0⟩ := m3.out;have hA : SortB S A := by rw [hA0]; exact q06 HS1.out (by omega)
     have pA : A.Perm (L1 ++ M1) := by rw [hA0]
     have m3 : Hid (∃ w9, IntI gs (P ++ (A ++ (L2 ++ (M2 ++ Q)))) w w9 ∧ w9 = wr) := lh ⟨_, by rw [hA0, List.append_assoc, <- HG.out]; exact m2.out, rfl⟩;have m3 : Hid (IntI gs (P ++ (A ++ (L2 ++ (M2 ++ Q)))) w wr) := lh (by obtain ⟨w9, h8, h9⟩ := m3.out; rw [<- h9]; exact h8);have hAl : A.length = L1.length + M1.length := by rw [pA.length_eq, List.length_append]
     have HS3 := lh (HS2.out A hAl);have HA := lh (And.intro hA pA);clear hA pA hAl;have hfin := lh (HZ.out A (L2 ++ M2) _ HA.out.1 HA.out.2 (q06 HS3.out (by omega)) (List.Perm.refl _) (by have := m3.out; simpa only [List.append_assoc] using this));go_wp2
     all_goals first | exact hfin.out | (go_end0; exact hfin.out) | (refine bodyPost_ret (results_none rfl _ _ _) rfl ?_; first | done | exact hfin.out)
theorem q75 (S : List Int) (g nn cp bx gs n c : Nat) (hn1 : n ≤ 1000) : ∀ k, qhq S g nn cp bx gs n c k
 | 0 => fun P L M Q T a m b hk hSy hL hM hn hD w hC hI R hR => by
   have h1 := hSy.lm;have h2 := hSy.lb;omega
 | k + 1 => fun P L M Q T a m b hk hSy hL hM hn hD w hC hI R hR => by
   by_cases h1 : L.length = 1
   ·obtain ⟨x, rfl⟩ := List.length_eq_one_iff.1 h1;exact qhh S g nn cp bx gs n c a m b P M Q T x hSy hM hn hn1 hD w hC hI R hR
   ·by_cases h2 : M.length = 1
    ·obtain ⟨y, rfl⟩ := List.length_eq_one_iff.1 h2;exact qhi S g nn cp bx gs n c a m b P L Q T y hSy (by omega) hn hn1 hD w hC hI R hR
    ·exact qhj S g nn cp bx gs n c k (q75 S g nn cp bx gs n c hn1 k) hn1 P L M Q T a m b hk hSy (by omega) (by omega) hn hD w hC hI R hR
theorem qfe {D : List Int} (hs : D.Pairwise (· < ·)) (i j m : Nat) (h : i ≤ j) : LessL ((D.take j).drop i) ((D.drop j).take m) := fun x hx y hy => by
 have h1 : x ∈ D.take j := List.mem_of_mem_drop hx;have h2 : y ∈ D.drop j := List.mem_of_mem_take hy;rw [<- List.take_append_drop j D] at hs;exact (List.pairwise_append.1 hs).2.2 x h1 y h2
theorem q8z (S D : List Int) : SortB S (sortW (wtS S) D) := by
 have := List.pairwise_mergeSort (le := q01 (wtS S)) (fun a b c => q0a _ a b c) (fun a b => q4o _ a b) D;exact this
theorem qmt {S P A B Q : List Int} {a m b : Nat} (hle : LessL A B) (h1 : P.length = a) (h2 : a + A.length = m) (h3 : m + B.length = b) : Sym S P (sortW (wtS S) A) (sortW (wtS S) B) Q a m b (P ++ (sortW (wtS S) A ++ (sortW (wtS S) B ++ Q))) :=
 ⟨rfl, h1, by rw [(qs _ _).length_eq]; exact h2, by rw [(qs _ _).length_eq]; exact h3, q8z S A, q8z S B, fun x hx y hy => hle x ((qs _ _).mem_iff.1 hx) y ((qs _ _).mem_iff.1 hy)⟩
theorem qcg {S A B D : List Int} (hs : SortB S D) (hp : D.Perm (sortW (wtS S) A ++ sortW (wtS S) B)) : D = sortW (wtS S) (A ++ B) :=
 q4w (hp.trans ((qs _ A).append (qs _ B))) hs
def blks (S : List Int) (s : Nat) : Nat -> List Int -> List Int
 | 0, D => D
 | k + 1, D => sortW (wtS S) (D.take s) ++ blks S s k (D.drop s)
theorem q54 (S : List Int) (s k : Nat) : blks S s k [] = [] := by
 induction k with
 | zero => rfl
 | succ k ih =>
   rw [blks, List.take_nil, List.drop_nil, ih, qcv];rfl
theorem qeu (S : List Int) (s : Nat) : ∀ k D, (blks S s k D).length = D.length
 | 0, D => rfl
 | k + 1, D => by
   rw [blks, List.length_append, (qs _ _).length_eq, qeu S s k, <- List.length_append, List.take_append_drop]
theorem q63 (S : List Int) (s k : Nat) {D : List Int} (h : D.length ≤ s) : blks S s (k + 1) D = sortW (wtS S) D := by
 rw [blks, List.take_of_length_le h, List.drop_eq_nil_of_le h, q54, List.append_nil]
theorem qbm (S : List Int) (s : Nat) (hs : 0 < s) : ∀ (k j : Nat) (D : List Int), D.length ≤ k * s -> D.length ≤ j * s -> blks S s k D = blks S s j D
 | 0, j, D, h1, _ => by
   have : D = [] := List.eq_nil_of_length_eq_zero (by omega);subst this;rw [q54, q54]
 | k + 1, 0, D, _, h2 => by
   have : D = [] := List.eq_nil_of_length_eq_zero (by omega);subst this;rw [q54, q54]
 | k + 1, j + 1, D, h1, h2 => by
   rw [blks, blks, qbm S s hs k j (D.drop s) (by rw [List.length_drop, Nat.succ_mul] at *; omega) (by rw [List.length_drop, Nat.succ_mul] at *; omega)]
end Go.Proofs.YtdanebboiekieaaGreatDoor
